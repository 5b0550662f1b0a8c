/-
  The engine, part A: a virtual machine whose heap is a short list of objects with small numbers for names.
  Whole numbers and bools are either literals ('lit') or terms ('sym'), so that it can be evaluated by the kernel with open terms inside.
  Definitions alone; that it follows the model is shown in the parts behind this one.
-/
import Derived.Orders
import Derived.Scope
import Derived.KernelRfl
namespace Go.Proofs.Ytlkanbgcghjhnaa.Eng
open Go

/-! ### Symbolic leaves -/
inductive SI where
  | lit (n : Int)
  | sym (n : Int)
def SI.val : SI → Int
  | .lit n => n
  | .sym n => n
inductive SB where
  | lit (b : Bool)
  | sym (b : Bool)
def SB.val : SB → Bool
  | .lit b => b
  | .sym b => b
inductive SN where
  | lit (n : Nat)
  | sym (n : Nat)
def SN.val : SN → Nat
  | .lit n => n
  | .sym n => n

def kmin : IntKind → Int
  | .i8 => -128
  | .i16 => -32768
  | .i32 => -2147483648
  | .i64 => -9223372036854775808
  | _ => 0
def kmax : IntKind → Int
  | .i8 => 127
  | .i16 => 32767
  | .i32 => 2147483647
  | .i64 => 9223372036854775807
  | .u8 => 255
  | .u16 => 65535
  | .u32 => 4294967295
  | .u64 => 18446744073709551615

def SI.op2 (f : Int → Int → Int) : SI → SI → SI
  | .lit a, .lit b => .lit (f a b)
  | a, b => .sym (f a.val b.val)
def SI.op1 (f : Int → Int) : SI → SI
  | .lit a => .lit (f a)
  | .sym a => .sym (f a)
def SI.cmp (f : Int → Int → Bool) : SI → SI → SB
  | .lit a, .lit b => .lit (f a b)
  | a, b => .sym (f a.val b.val)
def SB.not : SB → SB
  | .lit b => .lit (!b)
  | .sym b => .sym (!b)
def SB.and : SB → SB → SB
  | .lit true, b => b
  | .lit false, _ => .lit false
  | a, .lit true => a
  | a, b => .sym (a.val && b.val)
def SB.eq : SB → SB → SB
  | .lit a, .lit b => .lit (a == b)
  | a, b => .sym (a.val == b.val)
def SN.op2 (f : Nat → Nat → Nat) : SN → SN → SN
  | .lit a, .lit b => .lit (f a b)
  | a, b => .sym (f a.val b.val)
def SN.toSI : SN → SI
  | .lit n => .lit n
  | .sym n => .sym n
def SI.toSN : SI → SN
  | .lit n => .lit n.toNat
  | .sym n => .sym n.toNat

/-! ### What an evaluation comes to: a tree of tests -/
inductive Tr (α : Type) where
  | ok (a : α)
  | ite (c : Bool) (t e : Tr α)
  | no (why : String)
namespace Tr
variable {α β : Type}
def bind : Tr α → (α → Tr β) → Tr β
  | .ok a, f => f a
  | .ite c t e, f => .ite c (t.bind f) (e.bind f)
  | .no s, _ => .no s
def run : Tr α → Option α
  | .ok a => some a
  | .ite c t e => match c with
    | true => t.run
    | false => e.run
  | .no _ => none
def chk (b : Bool) (why : String) (x : Tr α) : Tr α :=
  match b with
  | true => x
  | false => .no why
def test (b : SB) (t e : Tr α) : Tr α :=
  match b with
  | .lit true => t
  | .lit false => e
  | .sym c => .ite c t e
def opt (why : String) : Option α → (α → Tr β) → Tr β
  | some a, f => f a
  | none, _ => .no why
/-- What holds of the result. -/
def All (Q : α → Prop) : Tr α → Prop
  | .ok a => Q a
  | .ite c t e => (c = true → t.All Q) ∧ (c = false → e.All Q)
  | .no _ => False
end Tr

/-! ### Values, objects, heaps -/
/-- The value of one cell. 'ptr': into an object of cells; 'tptr', 'ts': a pointer, a slice into a table; 'es': an empty slice that isn't nil (full: it has no room, either); 'an': a slice that was handed in: nil, empty, or all rows of a table; 'sl': a slice of an object of cells ('off' counts cells). -/
inductive VV where
  | int (k : IntKind) (n : SI)
  | bool (b : SB)
  | ptr (b off : Nat)
  | nilp
  | tptr (b : Nat) (row : SN) (col : Nat)
  | sl (b off len cap : Nat)
  | ts (b : Nat) (row len : SN) (cap : Option SN)
  | nils
  | es (full : Bool)
  | an (b : Nat) (len : SN)
  | fn (f : FuncId) (first caps : List (Nat × Nat))
  | nilf
  | raw (v : Value)
inductive S1 where
  | one (v : VV)
  | agg (l : List VV)
inductive SV where
  | s (x : S1)
  | t (l : List S1)
abbrev SV.v (x : VV) : SV := .s (.one x)
def SV.undef : SV := .t []
def S1.cells : S1 → List VV
  | .one v => [v]
  | .agg l => l

/-- A column of a table. -/
inductive CK where
  | int (k : IntKind)
  | bool
def CK.vv : CK → Int → VV
  | .int k, n => .int k (.sym n)
  | .bool, n => .bool (.sym (n != 0))
def CK.real : CK → Int → Value
  | .int k, n => .int k n
  | .bool, n => .bool (n != 0)
/-- What a value is as a table's number. -/
def CK.num : CK → VV → Option Int
  | .int k, .int k' n => if k = k' then some n.val else none
  | .bool, .bool b => some (match b.val with | true => 1 | false => 0)
  | _, _ => none

inductive VObj (A : Type) where
  | cells (l : List VV) (ty : TypeId)
  | tab (ks : List CK) (xs : List (List Int)) (ty : TypeId)
  | rotab (ks : List CK) (xs : List (List Int))
  | abs (a : A)
abbrev HP (A : Type) := List (Nat × Option (VObj A))

section
variable {A : Type}
def hget : HP A → Nat → Option (VObj A)
  | [], _ => none
  | (k, o) :: r, b => match Nat.beq k b with
    | true => o
    | false => hget r b
def hset : HP A → Nat → VObj A → HP A
  | [], b, o => [(b, some o)]
  | (k, p) :: r, b, o => match Nat.beq k b with
    | true => (k, some o) :: r
    | false => (k, p) :: hset r b o
def hdel : HP A → Nat → HP A
  | [], _ => []
  | (k, p) :: r, b => match Nat.beq k b with
    | true => hdel r b
    | false => (k, p) :: hdel r b
def hput (hp : HP A) (b : Nat) (o : Option (VObj A)) : HP A := match o with
  | some o => hset hp b o
  | none => hdel hp b
def hputs : HP A → HP A → HP A
  | hp, [] => hp
  | hp, (b, o) :: r => hputs (hput hp b o) r
end

def memN (n : Nat) : List Nat → Bool
  | [] => false
  | m :: r => match Nat.beq m n with
    | true => true
    | false => memN n r
def addN (l : List Nat) (n : Nat) : List Nat := match memN n l with
  | true => l
  | false => l ++ [n]
def addAll (l : List Nat) : List Nat → List Nat
  | [] => l
  | n :: r => addAll (addN l n) r

/-- Replace cells from one on. -/
def splice0 {α : Type} : List α → List α → List α
  | l, [] => l
  | _ :: l, v :: vs => v :: splice0 l vs
  | [], _ :: _ => []
def splice {α : Type} : List α → Nat → List α → List α
  | l, 0, vs => splice0 l vs
  | x :: l, n + 1, vs => x :: splice l n vs
  | [], _ + 1, _ => []

/-- The same as 'l[n]?' and 'l.set n v', in few steps of the kernel. -/
noncomputable def nth {α : Type} (l : List α) : Nat → Option α := List.rec (motive := fun _ => Nat → Option α) (fun _ => none) (fun a _ ih n => Nat.rec (motive := fun _ => Option α) (some a) (fun m _ => ih m) n) l
noncomputable def lset {α : Type} (l : List α) : Nat → α → List α := List.rec (motive := fun _ => Nat → α → List α) (fun _ _ => []) (fun a l ih n v => Nat.rec (motive := fun _ => List α) (v :: l) (fun m _ => a :: ih m v) n) l
theorem nth_eq {α : Type} : ∀ (l : List α) (n : Nat), nth l n = l[n]?
  | [], _ => by rw [List.getElem?_nil]; rfl
  | a :: l, 0 => by rw [List.getElem?_cons_zero]; rfl
  | a :: l, n + 1 => by
    rw [List.getElem?_cons_succ, ← nth_eq l n]
    rfl
theorem lset_eq {α : Type} : ∀ (l : List α) (n : Nat) (v : α), lset l n v = l.set n v
  | [], _, _ => rfl
  | a :: l, 0, v => rfl
  | a :: l, n + 1, v => by
    rw [List.set_cons_succ, ← lset_eq l n v]
    rfl

/-! ### Types -/
def ofVal : Value → Option VV
  | .int k n => match decide (kmin k ≤ n) && decide (n ≤ kmax k) with
    | true => some (.int k (.lit n))
    | false => none
  | .bool b => some (.bool (.lit b))
  | .pointer none => some .nilp
  | .slice none 0 0 => some .nils
  | .nilFunc => some .nilf
  | .string s => some (.raw (.string s))
  | .nilIface => some (.raw .nilIface)
  | .map none => some (.raw (.map none))
  | _ => none
def ofVals : List Value → Option (List VV)
  | [] => some []
  | v :: r => match ofVal v, ofVals r with
    | some x, some l => some (x :: l)
    | _, _ => none
def zeroS (P : Program) (t : TypeId) : Option S1 :=
  match P.info? t with
  | some i => match i.zero with
    | some (.agg cs) => (ofVals cs.toList).map .agg
    | some v => (ofVal v).map .one
    | none => none
  | none => none
/-- Is a type one of several cells? -/
def aggK (P : Program) (t : TypeId) : Option Bool :=
  match P.underlying t with
  | some (.struct _) | some (.array _ _) => some true
  | some _ => some false
  | none => none
def known (P : Program) (t : TypeId) : Bool := (P.info? t).isSome

/-! ### Operations -/
structure Eff (A : Type) where
  val : SV
  rd : List Nat
  asg : HP A
  nid : Nat
/-- What a call comes to: the value, the heap that it was given, behind it, which objects were written or made, the next name. -/
structure CR (A : Type) where
  val : SV
  hp : HP A
  dirty : List Nat
  nid : Nat

def iand (k : IntKind) (x y : Int) : Int := k.wrap ((BitVec.ofInt k.bits x &&& BitVec.ofInt k.bits y).toNat)
def ior (k : IntKind) (x y : Int) : Int := k.wrap ((BitVec.ofInt k.bits x ||| BitVec.ofInt k.bits y).toNat)
def ixor (k : IntKind) (x y : Int) : Int := k.wrap ((BitVec.ofInt k.bits x ^^^ BitVec.ofInt k.bits y).toNat)
def iandn (k : IntKind) (x y : Int) : Int := k.wrap ((BitVec.ofInt k.bits x &&& ~~~BitVec.ofInt k.bits y).toNat)
def ishl (k : IntKind) (x y : Int) : Int := k.wrap (x * 2 ^ (min y.toNat k.bits))
def ishr (k : IntKind) (x y : Int) : Int := x.fdiv (2 ^ (min y.toNat k.bits))

def intOp (op : BinOp) (k : IntKind) (x y : SI) : Tr VV :=
  match op with
  | .add => .ok (.int k (SI.op2 (fun a b => k.wrap (a + b)) x y))
  | .sub => .ok (.int k (SI.op2 (fun a b => k.wrap (a - b)) x y))
  | .mul => .ok (.int k (SI.op2 (fun a b => k.wrap (a * b)) x y))
  | .and => .ok (.int k (SI.op2 (iand k) x y))
  | .or => .ok (.int k (SI.op2 (ior k) x y))
  | .xor => .ok (.int k (SI.op2 (ixor k) x y))
  | .andNot => .ok (.int k (SI.op2 (iandn k) x y))
  | .quo => .test (SI.cmp (fun a b => a == b) y (.lit 0)) (.no "/ 0") (.ok (.int k (SI.op2 (fun a b => k.wrap (a.tdiv b)) x y)))
  | .rem => .test (SI.cmp (fun a b => a == b) y (.lit 0)) (.no "% 0") (.ok (.int k (SI.op2 (fun a b => a.tmod b) x y)))
  | .eql => .ok (.bool (SI.cmp (fun a b => a == b) x y))
  | .neq => .ok (.bool (SI.cmp (fun a b => a != b) x y))
  | .lss => .ok (.bool (SI.cmp (fun a b => decide (a < b)) x y))
  | .leq => .ok (.bool (SI.cmp (fun a b => decide (a ≤ b)) x y))
  | .gtr => .ok (.bool (SI.cmp (fun a b => decide (a > b)) x y))
  | .geq => .ok (.bool (SI.cmp (fun a b => decide (a ≥ b)) x y))
  | _ => .no "int op"
def shOp (op : BinOp) (k : IntKind) (x y : SI) : Tr VV :=
  match op with
  | .shl => .test (SI.cmp (fun a b => decide (a < b)) y (.lit 0)) (.no "shift") (.ok (.int k (SI.op2 (ishl k) x y)))
  | .shr => .test (SI.cmp (fun a b => decide (a < b)) y (.lit 0)) (.no "shift") (.ok (.int k (SI.op2 (ishr k) x y)))
  | _ => .no "shift op"

def partS (P : Program) (t : TypeId) (l : List VV) (off : Nat) : Option S1 :=
  match aggK P t with
  | some true => some (.agg ((l.drop off).take (P.cellsOf t)))
  | some false => match l[off]? with
    | some v => some (.one v)
    | none => none
  | none => none
/-- '==' of whole numbers, bools, and structs of such. -/
def eqFs (P : Program) (f : TypeId → S1 → S1 → Option SB) (l m : List VV) : List Field → Option SB
  | [] => some (.lit true)
  | fd :: fs => match fd.name == "_" with
    | true => none
    | false => match partS P fd.type l fd.offset, partS P fd.type m fd.offset with
      | some a, some b => match f fd.type a b, eqFs P f l m fs with
        | some r, some s => some (r.and s)
        | _, _ => none
      | _, _ => none
def eqT (P : Program) : Nat → TypeId → S1 → S1 → Option SB
  | 0, _, _, _ => none
  | d + 1, t, x, y => match P.underlying t with
    | some (.int _) => match x, y with
      | .one (.int k a), .one (.int k' b) => if k = k' then some (SI.cmp (fun a b => a == b) a b) else none
      | _, _ => none
    | some .bool => match x, y with
      | .one (.bool a), .one (.bool b) => some (SB.eq a b)
      | _, _ => none
    | some (.struct fs) => match x, y with
      | .agg l, .agg m => match P.stoodInHeld t with
        | true => none
        | false => eqFs P (eqT P d) l m fs.toList
      | _, _ => none
    | _ => none

def isShift : BinOp → Bool
  | .shl | .shr => true
  | _ => false
def negIf (op : BinOp) (b : SB) : Tr VV :=
  match op with
  | .eql => .ok (.bool b)
  | .neq => .ok (.bool b.not)
  | _ => .no "=="
/-- Of which kind a type is, where two values are held against each other. -/
def descK (P : Program) (t : TypeId) : Nat := match P.underlying t with
  | some .bool => 1
  | some (.pointer _) => 2
  | some (.slice _) => 3
  | some (.func _ _ _) => 4
  | _ => 0
/-- '==' of two values that are no whole numbers and no structs. -/
def sameV (x y : VV) : Nat → Option SB
  | 1 => match x, y with
    | .bool a, .bool b => some (SB.eq a b)
    | _, _ => none
  | 2 => match x, y with
    | .nilp, .nilp => some (.lit true)
    | .ptr _ _, .nilp => some (.lit false)
    | .nilp, .ptr _ _ => some (.lit false)
    | _, _ => none
  | 3 => match x, y with
    | .nils, .nils => some (.lit true)
    | .sl _ _ _ _, .nils => some (.lit false)
    | .ts _ _ _ _, .nils => some (.lit false)
    | .nils, .sl _ _ _ _ => some (.lit false)
    | .nils, .ts _ _ _ _ => some (.lit false)
    | .es _, .nils => some (.lit false)
    | .nils, .es _ => some (.lit false)
    | _, _ => none
  | 4 => match x, y with
    | .nilf, .nilf => some (.lit true)
    | .fn _ _ _, .nilf => some (.lit false)
    | .nilf, .fn _ _ _ => some (.lit false)
    | _, _ => none
  | _ => none
def vbin (P : Program) (ty : TypeId) (op : BinOp) (x y : SV) : Tr VV :=
  match x, y with
  | .s (.one (.int k a)), .s (.one (.int k' b)) =>
    match isShift op with
    | true => shOp op k a b
    | false => .chk (decide (k = k')) "kinds" (intOp op k a b)
  | .s (.agg a), .s (.agg b) => .opt "== of a type" (eqT P 8 ty (.agg a) (.agg b)) (negIf op)
  | .s (.one x), .s (.one y) => .opt "==" (sameV x y (descK P ty)) (negIf op)
  | _, _ => .no "binop"

section
variable {A : Type}
/-- A table's columns and rows. -/
def tabOf : Option (VObj A) → Option (List CK × List (List Int))
  | some (.tab ks xs _) => some (ks, xs)
  | some (.rotab ks xs) => some (ks, xs)
  | _ => none
def tabAt (xs : List (List Int)) (r c : Nat) : Int := (xs.getD r []).getD c 0
def tabCells (ks : List CK) (xs : List (List Int)) (r : Nat) : Nat → Nat → List VV
  | _, 0 => []
  | c, n + 1 => match ks[c]? with
    | some k => k.vv (tabAt xs r c) :: tabCells ks xs r (c + 1) n
    | none => []
/-- The numbers of values that are laid into columns. -/
def ckNums : List CK → List VV → Option (List Int)
  | _, [] => some []
  | k :: ks, v :: vs => match k.num v, ckNums ks vs with
    | some n, some l => some (n :: l)
    | _, _ => none
  | [], _ :: _ => none
def vload (P : Program) (hp : HP A) (ty : TypeId) (x : VV) : Tr (S1 × Nat) :=
  match x with
  | .ptr b off => match hget hp b with
    | some (.cells l _) => match aggK P ty with
      | some true => .chk (decide (off + P.cellsOf ty ≤ l.length)) "load" (.ok (.agg ((l.drop off).take (P.cellsOf ty)), b))
      | some false => .opt "load" l[off]? fun v => .ok (.one v, b)
      | none => .no "load: type"
    | _ => .no "load: no object of cells"
  | .tptr b r c => .opt "load: no table" (tabOf (hget hp b)) fun t =>
    match aggK P ty with
    | some true => .chk (decide (c + P.cellsOf ty ≤ t.1.length)) "load" (.ite (decide (r.val < t.2.length)) (.ok (.agg (tabCells t.1 t.2 r.val c (P.cellsOf ty)), b)) (.no "load: row"))
    | some false => .opt "load" t.1[c]? fun k => .ite (decide (r.val < t.2.length)) (.ok (.one (k.vv (tabAt t.2 r.val c)), b)) (.no "load: row")
    | none => .no "load: type"
  | _ => .no "load"
def vstore (hp : HP A) (x : VV) (vs : List VV) : Tr (Nat × VObj A) :=
  match x with
  | .ptr b off => match hget hp b with
    | some (.cells l t) => .chk (decide (off + vs.length ≤ l.length)) "store" (.ok (b, .cells (splice l off vs) t))
    | _ => .no "store: no object of cells"
  | .tptr b r c => match hget hp b with
    | some (.tab ks xs t) => .chk (decide (c ≤ ks.length)) "store" <| .opt "store: kinds" (ckNums (ks.drop c) vs) fun ns => .ite (decide (r.val < xs.length)) (.ok (b, .tab ks (xs.set r.val (splice (xs.getD r.val []) c ns)) t)) (.no "store: row")
    | _ => .no "store: no table"
  | _ => .no "store"

/-- Lay parts into zero cells: 'place' tells a part's first cell and its size. -/
def vfill (place : Nat → Option (Nat × Nat)) (cells : List VV) : List (Nat × SV) → Tr (List VV)
  | [] => .ok cells
  | (i, x) :: rest => .opt "build: no such part" (place i) fun p =>
    match x with
    | .s x => .chk (decide (x.cells.length = p.2) && decide (p.1 + x.cells.length ≤ cells.length)) "build: size" (vfill place (splice cells p.1 x.cells) rest)
    | .t _ => .no "build: a tuple"

def repeatL (l : List VV) : Nat → List VV
  | 0 => []
  | n + 1 => l ++ repeatL l n

def intLit : SV → Option Nat
  | .s (.one (.int _ (.lit n))) => match n with
    | .ofNat n => some n
    | _ => none
  | _ => none

/-- The number that an index is, if it is below n: a literal, or each case. -/
def eachIdx {α : Type} (x : Int) (f : Nat → Tr α) : Nat → Tr α
  | 0 => .no "index"
  | n + 1 => .ite (x == (n : Int)) (f n) (eachIdx x f n)
def atIdx {α : Type} (x : SI) (n : Nat) (f : Nat → Tr α) : Tr α :=
  match x with
  | .lit a => match a with
    | .ofNat i => .chk (decide (i < n)) "index" (f i)
    | _ => .no "index"
  | .sym a => eachIdx a f n

def callArgs (first : List (Nat × Nat)) (args : List SV) (caps : List (Nat × Nat)) : List SV :=
  first.map (fun p => SV.v (.ptr p.1 p.2)) ++ args ++ caps.map (fun p => SV.v (.ptr p.1 p.2))

def vvIds : VV → List Nat
  | .ptr b _ | .tptr b _ _ | .sl b _ _ _ | .ts b _ _ _ | .an b _ => [b]
  | .fn _ f c => (f ++ c).map (·.1)
  | _ => []
def s1Ids (x : S1) : List Nat := x.cells.flatMap vvIds
def svIds : SV → List Nat
  | .s x => s1Ids x
  | .t l => l.flatMap s1Ids
def objIds : VObj A → List Nat
  | .cells l _ => l.flatMap vvIds
  | _ => []
def reach (hp : HP A) : Nat → List Nat → List Nat → List Nat
  | 0, _, seen => seen
  | _ + 1, [], seen => seen
  | n + 1, b :: todo, seen => match memN b seen with
    | true => reach hp n todo seen
    | false => match hget hp b with
      | some o => reach hp n (objIds o ++ todo) (seen ++ [b])
      | none => reach hp n todo (seen ++ [b])
def restrict (hp : HP A) : List Nat → HP A
  | [] => []
  | b :: r => (b, hget hp b) :: restrict hp r

def ptrsOf : List SV → Option (List (Nat × Nat))
  | [] => some []
  | .s (.one (.ptr b off)) :: r => (ptrsOf r).map ((b, off) :: ·)
  | _ => none

def vlen : SV → Option SI
  | .s (.one (.sl _ _ len _)) => match Nat.ble len 9223372036854775807 with
    | true => some (.lit len)
    | false => none
  | .s (.one (.ts _ _ len _)) => some len.toSI
  | .s (.one .nils) => some (.lit 0)
  | .s (.one (.es _)) => some (.lit 0)
  | .s (.one (.an _ len)) => some len.toSI
  | _ => none

def mm2 (mx : Bool) (x y : SI) : SI := match mx with
  | true => SI.op2 (fun a b => if b > a then b else a) x y
  | false => SI.op2 (fun a b => if b < a then b else a) x y
def mmFold (mx : Bool) (k : IntKind) (x : SI) : List SV → Tr VV
  | [] => .ok (.int k x)
  | .s (.one (.int k' y)) :: r => .chk (decide (k = k')) "kinds" (mmFold mx k (mm2 mx x y) r)
  | _ => .no "min, max"

def pickV (c : SB) (a b : SV) : Tr SV :=
  match c with
  | .lit true => .ok a
  | .lit false => .ok b
  | .sym c => match a, b with
    | .s (.one (.bool x)), .s (.one (.bool y)) => .ok (.v (.bool (.sym (match c with | true => x.val | false => y.val))))
    | a, b => .ite c (.ok a) (.ok b)

/-! ### Rows of tables -/
/-- The columns of a row, by its nought. -/
def colsOf : List VV → Option (List CK)
  | [] => some []
  | .int k _ :: r => (colsOf r).map (.int k :: ·)
  | .bool _ :: r => (colsOf r).map (.bool :: ·)
  | _ :: _ => none
def ckEq : CK → CK → Bool
  | .int k, .int k' => decide (k = k')
  | .bool, .bool => true
  | _, _ => false
def cksEq : List CK → List CK → Bool
  | [], [] => true
  | a :: as, b :: bs => ckEq a b && cksEq as bs
  | _, _ => false
/-- Cells as rows. -/
def cutRows (ks : List CK) : Nat → List VV → Option (List (List Int))
  | 0, _ => some []
  | n + 1, l => match ckNums ks (l.take ks.length), cutRows ks n (l.drop ks.length) with
    | some a, some r => some (a :: r)
    | _, _ => none
/-- The rows of a slice: how many there are, the rows, where they lie. -/
def rowsOf (hp : HP A) (ks : List CK) : SV → Tr (SN × List (List Int) × List Nat)
  | .s (.one (.sl b off len _)) => match hget hp b with
    | some (.cells l _) => .chk (decide (off + len * ks.length ≤ l.length) && Nat.ble len 9223372036854775807) "rows: cells" <| .opt "rows: numbers" (cutRows ks len (l.drop off)) fun rows => .ok (.lit len, rows, [b])
    | _ => .no "rows: object"
  | .s (.one (.ts b r len _)) => .opt "rows: table" (tabOf (hget hp b)) fun t => .chk (cksEq t.1 ks) "rows: columns" <|
    .ite (decide (r.val + len.val ≤ t.2.length)) (.ok (len, (t.2.drop r.val).take len.val, [b])) (.no "rows: bounds")
  | .s (.one .nils) => .ok (.lit 0, [], [])
  | .s (.one (.es _)) => .ok (.lit 0, [], [])
  | .s (.one (.an b len)) => .opt "rows: table" (tabOf (hget hp b)) fun t => .chk (cksEq t.1 ks) "rows: columns" <|
    .ite (decide (len.val ≤ t.2.length)) (.ok (len, t.2.take len.val, [b])) (.no "rows: bounds")
  | _ => .no "rows"
/-- Is there no room behind a slice's length? -/
def noRoom : SV → Bool
  | .s (.one (.sl _ _ len cap)) => Nat.beq len cap
  | .s (.one .nils) => true
  | .s (.one (.es f)) => f
  | _ => false
def SN.fit (n : SN) (bytes : Nat) : SB := match n with
  | .lit n => .lit (Nat.ble (n * bytes) 140737488355328)
  | .sym n => .sym (Nat.ble (n * bytes) 140737488355328)
def SN.zero : SN → SB
  | .lit n => .lit (Nat.beq n 0)
  | .sym n => .sym (Nat.beq n 0)

variable (P : Program) (call : FuncId → List SV → HP A → Nat → Tr (CR A))
def vappend (hp : HP A) (t : TypeId) (x y : SV) (nid : Nat) : Tr (Eff A) :=
  match P.underlying t with
  | some (.slice e) => match P.info? e with
    | some i => .opt "append: zero" (zeroS P e) fun z => .opt "append: columns" (colsOf z.cells) fun ks =>
      .chk (Nat.beq ks.length i.size && Nat.blt 0 ks.length && Nat.blt 0 i.bytes) "append: size" <|
      (rowsOf hp ks y).bind fun ry => (rowsOf hp ks x).bind fun rx =>
      let n := SN.op2 (fun a b => a + b) rx.1 ry.1
      match x with
      | .s (.one (.ts b (.lit 0) _ none)) => match hget hp b with
        | some (.tab _ _ ty) => .chk (Nat.beq ty e) "append: type" <| .test (n.fit i.bytes)
          (.ok ⟨.v (.ts nid (.lit 0) n none), rx.2.2 ++ ry.2.2, [(b, none), (nid, some (.tab ks (rx.2.1 ++ ry.2.1) e))], nid + 1⟩) (.no "append: too much")
        | _ => .no "append: object"
      | x => .chk (noRoom x) "append: room" <| .test ry.1.zero (.ok ⟨x, rx.2.2 ++ ry.2.2, [], nid⟩) <| .test (n.fit i.bytes)
          (.ok ⟨.v (.ts nid (.lit 0) n none), rx.2.2 ++ ry.2.2, [(nid, some (.tab ks (rx.2.1 ++ ry.2.1) e))], nid + 1⟩) (.no "append: too much")
    | none => .no "append: info"
  | _ => .no "append"
def vbuiltin (b : Builtin) (argTypes : Array TypeId) (args : List SV) (hp : HP A) (nid : Nat) : Tr (Eff A) :=
  match b, args with
  | .append, [x, y] => match argTypes.toList with
    | [t, t'] => .chk (Nat.beq t t') "append: types" (vappend P hp t x y nid)
    | _ => .no "append: types"
  | .len, [x] => match argTypes[0]? with
    | some t => match P.underlying t with
      | some (.slice _) => .opt "len" (vlen x) fun n => .ok ⟨.v (.int .i64 n), [], [], nid⟩
      | some (.array n _) => .chk (Nat.ble n 9223372036854775807) "len" (.ok ⟨.v (.int .i64 (.lit n)), [], [], nid⟩)
      | _ => .no "len"
    | none => .no "len"
  | .max, .s (.one (.int k x)) :: r => (mmFold true k x r).bind fun v => .ok ⟨.v v, [], [], nid⟩
  | .min, .s (.one (.int k x)) :: r => (mmFold false k x r).bind fun v => .ok ⟨.v v, [], [], nid⟩
  | _, _ => .no "builtin"

def hasBody (f : FuncId) : Bool := match P.funcs[f]? with
  | some fn => fn.body.isSome
  | none => false
def pickIds (nid : Nat) (keep : List Nat) (hp : HP A) : List Nat → HP A
  | [] => []
  | b :: r => match Nat.blt b nid || memN b keep with
    | true => (b, hget hp b) :: pickIds nid keep hp r
    | false => pickIds nid keep hp r
/-- A call: it is evaluated over what its arguments lead to; of what it made, what its answer or the elder objects lead to is kept. -/
def vcall (f : FuncId) (args : List SV) (hp : HP A) (nid : Nat) : Tr (Eff A) :=
  let R := reach hp 1000 (args.flatMap svIds) []
  .chk (hasBody P f && R.all (Nat.blt · nid)) "call: names" <|
  (call f args (restrict hp R) nid).bind fun r => .chk (Nat.ble nid r.nid) "call: next name" <| .ok ⟨r.val, R, pickIds nid (reach r.hp 1000 (svIds r.val ++ R) []) r.hp r.dirty, r.nid⟩

def structPlaces (fs : Array Field) (i : Nat) : Option (Nat × Nat) := match fs[i]? with
  | some f => some (f.offset, P.cellsOf f.type)
  | none => none

def vslice (ty : TypeId) (x : SV) (lo hi : Option SV) : Tr (VV × List Nat) :=
  match x with
  | .s (.one (.sl b off len cap)) => match P.underlying ty with
    | some (.slice e) => .chk (known P e) "slice: type" <|
      .opt "slice: high" (match hi with | none => some len | some h => intLit h) fun h =>
      .opt "slice: low" (match lo with | none => some 0 | some l => intLit l) fun l =>
      .chk (decide (h ≤ cap) && decide (l ≤ h)) "slice: bounds" <|
      .ok (.sl b (if cap = l then off else off + l * P.cellsOf e) (h - l) (cap - l), [])
    | _ => .no "slice: type"
  | _ => .no "slice"

/-- A bound of a slice's: a number, or what stands for it. -/
def sbound (d : SI) : Option SV → Option SI
  | none => some d
  | some (.s (.one (.int .i64 n))) => some n
  | _ => none
def sle (a b : SI) : SB := SI.cmp (fun a b => decide (a ≤ b)) a b
def slt (a b : SI) : SB := SI.cmp (fun a b => decide (a < b)) a b
def slCap {α β : Type} : Option α → Option β → SN → Option SN
  | none, none, _ => none
  | _, _, c => some c
def slFull {α β : Type} : Option α → Option β → Bool
  | none, none => false
  | _, _ => true
def vsliceT (hp : HP A) (ty : TypeId) (b : Nat) (r len : SN) (cap : Option SN) (lo hi mx : Option SV) : Tr (VV × List Nat) :=
  match P.underlying ty with
  | some (.slice e) => .opt "slice: table" (tabOf (hget hp b)) fun t => .chk (known P e && decide (P.cellsOf e = t.1.length) && (mx.isNone || hi.isSome)) "slice: type" <|
    .opt "slice: high" (sbound len.toSI hi) fun h => .opt "slice: low" (sbound (.lit 0) lo) fun l =>
    .opt "slice: max" (sbound (match cap with | some c => c.toSI | none => len.toSI) mx) fun c =>
    .test (sle (.lit 0) l) (.test (sle l h) (.test (sle h c) (.test (sle c (match cap with | some c => c.toSI | none => len.toSI))
      (.test (slt l c) (.ok (.ts b (SN.op2 (fun a b => a + b) r l.toSN) (SN.op2 (fun a b => a - b) h.toSN l.toSN) (slCap mx cap (SN.op2 (fun a b => a - b) c.toSN l.toSN)), [b])) (.ok (.es (slFull mx cap), [b])))
      (.no "slice: max")) (.no "slice: bounds")) (.no "slice: bounds")) (.no "slice: bounds")
  | _ => .no "slice: type"
def vslice3 (ty : TypeId) (x : SV) (lo hi mx : Option SV) : Tr (VV × List Nat) :=
  match x with
  | .s (.one (.sl b off len cap)) => match P.underlying ty with
    | some (.slice e) => .chk (known P e) "slice: type" <|
      .opt "slice: max" (match mx with | none => none | some m => intLit m) fun m =>
      .opt "slice: high" (match hi with | none => none | some h => intLit h) fun h =>
      .opt "slice: low" (match lo with | none => some 0 | some l => intLit l) fun l =>
      .chk (decide (m ≤ cap) && decide (h ≤ m) && decide (l ≤ h)) "slice: bounds" <|
      .ok (.sl b (if m = l then off else off + l * P.cellsOf e) (h - l) (m - l), [])
    | _ => .no "slice: type"
  | _ => .no "slice"
def vsliceA (hp : HP A) (ty : TypeId) (x : SV) (lo hi mx : Option SV) : Tr (VV × List Nat) :=
  match x with
  | .s (.one (.ts b r len cap)) => vsliceT P hp ty b r len cap lo hi mx
  | x => match mx with
    | none => vslice P ty x lo hi
    | some m => vslice3 P ty x lo hi (some m)

def vop (nid : Nat) (ev : Operand → SV) (hp : HP A) (o : Oper) : Tr (Eff A) :=
  let val (v : SV) : Tr (Eff A) := .ok ⟨v, [], [], nid⟩
  match o.op with
  | .move x | .assign x => val (ev x)
  | .pick c a b => match ev c with
    | .s (.one (.bool c)) => (pickV c (ev a) (ev b)).bind val
    | _ => .no "pick"
  | .alloc ty => .opt "alloc" (zeroS P ty) fun z => .ok ⟨.v (.ptr nid 0), [], [(nid, some (.cells z.cells ty))], nid + 1⟩
  | .box ty x => match ev x with
    | .s z => .ok ⟨.v (.ptr nid 0), [], [(nid, some (.cells z.cells ty))], nid + 1⟩
    | .t _ => .no "box"
  | .build ty parts => match zeroS P ty with
    | some (.agg z) => match P.underlying ty with
      | some (.struct fs) => .chk (fs.toList.all fun f => known P f.type) "build: types" <| (vfill (structPlaces P fs) z (parts.toList.map fun p => (p.1, ev p.2))).bind fun l => val (.s (.agg l))
      | some (.array _ e) => .chk (known P e) "build: type" <| (vfill (fun i => some (i * P.cellsOf e, P.cellsOf e)) z (parts.toList.map fun p => (p.1, ev p.2))).bind fun l => val (.s (.agg l))
      | _ => .no "build"
    | _ => .no "build: zero"
  | .buildSlice ty len parts => match P.underlying ty with
    | some (.slice e) => match zeroS P e with
      | some z => .chk (known P e && decide (z.cells.length = P.cellsOf e) && decide (len * P.cellsOf e ≤ 2 ^ 24) && decide (0 < P.cellsOf e)) "buildSlice" <|
        (vfill (fun i => some (i * P.cellsOf e, P.cellsOf e)) (repeatL z.cells len) (parts.toList.map fun p => (p.1, ev p.2))).bind fun l =>
          .ok ⟨.v (.sl nid 0 len len), [], [(nid, some (.cells l e))], nid + 1⟩
      | none => .no "buildSlice: zero"
    | _ => .no "buildSlice"
  | .load ty x => match ev x with
    | .s (.one x) => (vload P hp ty x).bind fun r => .ok ⟨.s r.1, [r.2], [], nid⟩
    | _ => .no "load"
  | .store ty x y => match ev x, ev y with
    | .s (.one x), .s y => .chk (known P ty && decide (y.cells.length = P.cellsOf ty)) "store: size" <|
      (vstore hp x y.cells).bind fun r => .ok ⟨.undef, [r.1], [(r.1, some r.2)], nid⟩
    | _, _ => .no "store"
  | .nilCheck x => match ev x with
    | .s (.one (.ptr b off)) => val (.v (.ptr b off))
    | .s (.one (.tptr b r c)) => val (.v (.tptr b r c))
    | .s (.one (.fn f a c)) => val (.v (.fn f a c))
    | _ => .no "nilCheck"
  | .binOp op ty x y _ => (vbin P ty op (ev x) (ev y)).bind fun v => val (.v v)
  | .unOp op _ x => match op, ev x with
    | .not, .s (.one (.bool b)) => val (.v (.bool b.not))
    | .neg, .s (.one (.int k n)) => val (.v (.int k (SI.op1 (fun n => k.wrap (0 - n)) n)))
    | .xor, .s (.one (.int k n)) => val (.v (.int k (SI.op1 (fun n => ixor k (if k.signed then -1 else k.max) n) n)))
    | _, _ => .no "unOp"
  | .convert src dst x => match P.underlying src, P.underlying dst, ev x with
    | some _, some (.int k), .s (.one (.int _ n)) => val (.v (.int k (SI.op1 k.wrap n)))
    | _, _, _ => .no "convert"
  | .makeFunc fn first caps => match fn with
    | .func f => .opt "makeFunc" (ptrsOf (first.toList.map ev)) fun a => .opt "makeFunc" (ptrsOf (caps.toList.map ev)) fun b => val (.v (.fn f a b))
    | _ => .no "makeFunc"
  | .makeSlice ty len cap => match P.underlying ty with
    | some (.slice e) => .opt "makeSlice: zero" (zeroS P e) fun z => match colsOf z.cells with
      | some ks => match ev len, ev cap, P.info? e, ckNums ks z.cells with
        | .s (.one (.int _ l)), .s (.one (.int _ c)), some i, some zs => .chk (Nat.beq z.cells.length i.size && Nat.blt 0 i.size && Nat.blt 0 i.bytes) "makeSlice: size" <|
          .test (sle (.lit 0) l) (.test (SI.cmp (fun a b => a == b) l c) (.test (l.toSN.fit i.bytes)
            (.ok ⟨.v (.ts nid (.lit 0) l.toSN none), [], [(nid, some (.tab ks (List.replicate l.toSN.val zs) e))], nid + 1⟩) (.no "makeSlice: too much")) (.no "makeSlice: room")) (.no "makeSlice: < 0")
        | _, _, _, _ => .no "makeSlice: numbers"
      | none => match intLit (ev len), intLit (ev cap) with
        | some l, some c => .chk (decide (l ≤ c) && decide (c ≤ 4096) && decide (z.cells.length = P.cellsOf e) && decide (P.bytesOf e ≤ 4096)) "makeSlice" <|
            .ok ⟨.v (.sl nid 0 l c), [], [(nid, some (.cells (repeatL z.cells c) e))], nid + 1⟩
        | _, _ => .no "makeSlice: literals"
    | _ => .no "makeSlice"
  | .slice ty x lo hi mx => (vsliceA P hp ty (ev x) (lo.map ev) (hi.map ev) (mx.map ev)).bind fun r => .ok ⟨.v r.1, r.2, [], nid⟩
  | .fieldAddr ty x f => match P.underlying ty with
    | some (.struct fs) => .opt "fieldAddr" fs[f]? fun fd => .chk (known P fd.type && decide (P.cellsOf fd.type ≠ 0)) "fieldAddr: size" <|
      match ev x with
      | .s (.one (.ptr b off)) => val (.v (.ptr b (off + fd.offset)))
      | .s (.one (.tptr b r c)) => val (.v (.tptr b r (c + fd.offset)))
      | _ => .no "fieldAddr"
    | _ => .no "fieldAddr: type"
  | .field ty x f => match P.underlying ty, ev x with
    | some (.struct fs), .s (.agg l) => .opt "field" fs[f]? fun fd => .opt "field" (partS P fd.type l fd.offset) fun r => val (.s r)
    | _, _ => .no "field"
  | .indexAddr ty x i => match ev i with
    | .s (.one (.int _ i)) => match P.underlying ty, ev x with
      | some (.array n e), .s (.one (.ptr b off)) => .chk (known P e) "indexAddr: type" <| atIdx i n fun j => val (.v (.ptr b (off + j * P.cellsOf e)))
      | some (.slice e), .s (.one (.sl b off len _)) => .chk (known P e) "indexAddr: type" <| atIdx i len fun j => val (.v (.ptr b (off + j * P.cellsOf e)))
      | some (.slice e), .s (.one (.ts b r len _)) => .opt "indexAddr: table" (tabOf (hget hp b)) fun t => .chk (known P e && decide (P.cellsOf e = t.1.length)) "indexAddr: type" <|
        .ite (decide (0 ≤ i.val) && decide (i.val < len.val)) (.ok ⟨.v (.tptr b (SN.op2 (fun a b => a + b) r i.toSN) 0), [b], [], nid⟩) (.no "index")
      | some (.slice e), .s (.one (.an b len)) => .opt "indexAddr: table" (tabOf (hget hp b)) fun t => .chk (known P e && decide (P.cellsOf e = t.1.length)) "indexAddr: type" <|
        .ite (decide (0 ≤ i.val) && decide (i.val < len.val)) (.ok ⟨.v (.tptr b i.toSN 0), [b], [], nid⟩) (.no "index")
      | _, _ => .no "indexAddr"
    | _ => .no "indexAddr: index"
  | .index ty x i => match ev i with
    | .s (.one (.int _ i)) => match P.underlying ty, ev x with
      | some (.array n e), .s (.agg l) => atIdx i n fun j => .opt "index" (partS P e l (j * P.cellsOf e)) fun r => val (.s r)
      | _, _ => .no "index"
    | _ => .no "index: index"
  | .extract x i => match ev x with
    | .t l => .opt "extract" l[i]? fun v => val (.s v)
    | _ => .no "extract"
  | .call c => match c.callee with
    | .value f => match ev f with
      | .s (.one (.fn f first caps)) => vcall P call f (callArgs first (c.args.toList.map ev) caps) hp nid
      | _ => .no "call: no function"
    | .builtin b => vbuiltin P b c.argTypes (c.args.toList.map ev) hp nid
    | .invoke _ _ => .no "invoke"
  | _ => .no "op"

/-! ### Regions, code, functions -/
structure St (A : Type) where
  tm : List SV
  hp : HP A
  nid : Nat
  dirty : List Nat
/-- What an operation looked at and wrote: slot t as 2t, object b as 2b + 1. -/
structure Rec where
  r : List Nat
  w : List Nat

noncomputable def evalT (tm : List SV) : Operand → SV
  | .tmp t => match nth tm t with
    | some v => v
    | none => .undef
  | .const v => match ofVal v with
    | some x => .v x
    | none => .undef
  | .global _ => .undef
  | .func f => .v (.fn f [] [])
/-- Operands whose value 'evalT' tells as it is. -/
noncomputable def okOperand : Operand → Bool
  | .const v => (ofVal v).isSome
  | .global _ => false
  | _ => true
noncomputable def guardDst (ops : Array Oper) (o : Oper) : Option Nat := match o.guard with
  | some (j, _) => (ops[j]?).bind (·.dst)
  | none => none
noncomputable def isGuardOf (i : Nat) (o : Oper) : Bool := match o.guard with
  | some (j, _) => Nat.beq j i
  | none => false
noncomputable def vwanted (ops : Array Oper) (o : Oper) (tm : List SV) : Option Bool :=
  match o.guard with
  | none => some true
  | some (j, want) => match ((ops[j]?).bind (·.dst)).bind (nth tm) with
    | some (.s (.one (.bool (.lit b)))) => some (b == want)
    | some (.s (.one (.bool (.sym _)))) => none
    | some (.s (.one (.raw _))) => none
    | _ => some false
noncomputable def opReads (ops : Array Oper) (o : Oper) : List Nat :=
  (o.op.operands.toList.filterMap fun | .tmp t => some (2 * t) | _ => none) ++ (match guardDst ops o with | some t => [2 * t] | none => [])

/-- A bool that another operation's guard asks for becomes a literal at once. -/
noncomputable def litVal (ops : Array Oper) (i : Nat) (e : Eff A) : Tr (Eff A) :=
  match e.val with
  | .s (.one (.bool (.sym c))) => match ops.toList.any (isGuardOf i) with
    | true => .ite c (.ok { e with val := .v (.bool (.lit true)) }) (.ok { e with val := .v (.bool (.lit false)) })
    | false => .ok e
  | _ => .ok e
noncomputable def evOp (ops : Array Oper) (i : Nat) (o : Oper) (st : St A) : Tr (Eff A) :=
  .chk (o.op.operands.toList.all okOperand && (match o.dst with | some d => (nth st.tm d).isSome | none => true)) "operands" <|
  match vwanted ops o st.tm with
  | some true => (vop P call st.nid (evalT st.tm) st.hp o).bind fun e => .chk (Nat.ble st.nid e.nid) "next name" (litVal ops i e)
  | some false => .ok ⟨.undef, [], [], st.nid⟩
  | none => .no "guard"
noncomputable def setTm (tm : List SV) (d : Option Nat) (v : SV) : List SV := match d with
  | some d => lset tm d v
  | none => tm
noncomputable def stepSt (o : Oper) (e : Eff A) (st : St A) : St A :=
  ⟨setTm st.tm o.dst e.val, hputs st.hp e.asg, e.nid, addAll st.dirty (e.asg.map (·.1))⟩
noncomputable def recOf (ops : Array Oper) (o : Oper) (e : Eff A) : Rec :=
  ⟨opReads ops o ++ e.rd.map (fun b => 2 * b + 1), (match o.dst with | some d => [2 * d] | none => []) ++ e.asg.map (fun p => 2 * p.1 + 1)⟩
noncomputable def evOps (ops : Array Oper) : List Oper → Nat → St A → Tr (St A)
  | [], _, st => .ok st
  | o :: os, i, st => (evOp P call ops i o st).bind fun e => evOps ops os (i + 1) (stepSt o e st)
/-- The same, and what each looked at and wrote. -/
noncomputable def evOpsL (ops : Array Oper) : List Oper → Nat → St A → Tr (St A × List Rec)
  | [], _, st => .ok (st, [])
  | o :: os, i, st => (evOp P call ops i o st).bind fun e => (evOpsL ops os (i + 1) (stepSt o e st)).bind fun r => .ok (r.1, recOf ops o e :: r.2)

noncomputable def meets (a b : List Nat) : Bool := a.any fun x => memN x b
noncomputable def conflict (a b : Rec) : Bool := meets a.w b.r || meets a.w b.w || meets a.r b.w
noncomputable def befores : List Oper → List Nat → List Nat
  | [], acc => acc
  | o :: os, acc => befores os (acc ++ [o.after.toList.foldl (fun s e => match Region.binds .any e with
    | true => s ||| 2 ^ e.on ||| acc.getD e.on 0
    | false => s) 0])
noncomputable def raceOne (r : Rec) (bf : Nat) : List Rec → Nat → Bool
  | [], _ => true
  | q :: qs, i => (match conflict q r with | true => bf.testBit i | false => true) && raceOne r bf qs (i + 1)
noncomputable def raceAll (all : List Rec) : List Rec → List Nat → Nat → Bool
  | [], _, _ => true
  | r :: rs, bf :: bs, i => raceOne r bf (all.take i) 0 && raceAll all rs bs (i + 1)
  | _ :: _, [], _ => false

/-- Each operation waits for earlier ones alone. -/
noncomputable def edgesBack : List Oper → Nat → Bool
  | [], _ => true
  | o :: os, i => o.after.toList.all (fun e => !Region.binds .any e || Nat.blt e.on i) && edgesBack os (i + 1)

inductive VX where
  | normal
  | exit (id : Nat)
  | ret

noncomputable def iter (f : St A → Tr (VX × St A)) : Nat → St A → Tr (VX × St A)
  | 0, _ => .no "rounds"
  | n + 1, st => (f st).bind fun r => match r.1 with
    | .normal => iter f n r.2
    | _ => .ok r

noncomputable def evCode (rounds : Nat) : Code → St A → Tr (VX × St A)
  | .skip, st => .ok (.normal, st)
  | .label _, st => .ok (.normal, st)
  | .region _ ops draw, st => match draw with
    | false => (evOps P call ops ops.toList 0 st).bind fun s => .ok (.normal, s)
    | true => (evOpsL P call ops ops.toList 0 st).bind fun r => .chk (edgesBack ops.toList 0 && raceAll r.2 r.2 (befores ops.toList []) 0) "race" (.ok (.normal, r.1))
  | .seq a b, st => (evCode rounds a st).bind fun r => match r.1 with
    | .normal => evCode rounds b r.2
    | _ => .ok r
  | .cond c a b, st => match evalT st.tm c with
    | .s (.one (.bool c)) => .test c (evCode rounds a st) (evCode rounds b st)
    | _ => .no "cond"
  | .block id c, st => (evCode rounds c st).bind fun r => match r.1 with
    | .exit k => match Nat.beq k id with
      | true => .ok (.normal, r.2)
      | false => .ok r
    | _ => .ok r
  | .loop c, st => iter (evCode rounds c) rounds st
  | .exit id, st => .ok (.exit id, st)
  | .scope c, st => evCode rounds c st
  | .ret, st => .ok (.ret, st)
  | _, _ => .no "code"

noncomputable def vresult (st : St A) : ResultVar → Tr S1
  | .tmp t => match nth st.tm t with
    | some (.s x) => .ok x
    | _ => .no "result"
  | .cell a ty => match nth st.tm a with
    | some (.s (.one x)) => (vload P st.hp ty x).bind fun r => .ok r.1
    | _ => .no "result cell"
noncomputable def vresults (st : St A) : List ResultVar → Tr (List S1)
  | [] => .ok []
  | r :: rs => (vresult P st r).bind fun x => (vresults st rs).bind fun l => .ok (x :: l)
noncomputable def tupleOf : List S1 → SV
  | [x] => .s x
  | l => .t l
noncomputable def evBody (rounds : Nat) (fn : Func) (args : List SV) (hp : HP A) (nid : Nat) : Tr (CR A) :=
  match fn.body with
  | none => .no "no body"
  | some c => (evCode P call rounds c ⟨args ++ List.replicate (fn.ntmps - args.length) .undef, hp, nid, []⟩).bind fun r => match r.1 with
    | .exit _ => .no "exit"
    | _ => (vresults P r.2 fn.results.toList).bind fun l => .ok ⟨tupleOf l, r.2.hp, r.2.dirty, r.2.nid⟩
end

abbrev Intr (A : Type) := List SV → HP A → Nat → Tr (CR A)
noncomputable def evF {A : Type} (P : Program) (I : FuncId → Option (Intr A)) (rounds : Nat) : Nat → FuncId → List SV → HP A → Nat → Tr (CR A)
  | 0, _, _, _, _ => .no "depth"
  | d + 1, f, args, hp, nid => match I f with
    | some i => i args hp nid
    | none => match P.funcs[f]? with
      | some fn => evBody P (evF P I rounds d) rounds fn args hp nid
      | none => .no "no such function"

end Go.Proofs.Ytlkanbgcghjhnaa.Eng
