/-
  The engine: several of its parts in one text.
-/
import Derived.Orders
import Derived.Scope
import Derived.KernelRfl
import Derived.RowKit3
import Derived.ChangeKeysEq
import Derived.Laws.Cells
import Derived.Laws.Entries
import Derived.Laws.StructEq
/-
  The engine, part A: a virtual machine whose heap is a short list of objects with small numbers for names.
  Whole numbers and bools are either literals ('lit') or terms ('sym'), so that it can be evaluated by the kernel with open terms inside.
  Definitions alone; that it follows the model is shown in the parts behind this one.
-/
namespace Go.Proofs.Ytcolladpdmjloaa.Eng
open Go

/-! ### Symbolic leaves -/
inductive SI where
  | lit (n : Int)
  | sym (n : Int)
def SI.val : SI → Int
  | .lit n => n
  | .sym n => n
inductive SB where
  | lit (b : Bool)
  | sym (b : Bool)
def SB.val : SB → Bool
  | .lit b => b
  | .sym b => b
inductive SN where
  | lit (n : Nat)
  | sym (n : Nat)
def SN.val : SN → Nat
  | .lit n => n
  | .sym n => n

def kmin : IntKind → Int
  | .i8 => -128
  | .i16 => -32768
  | .i32 => -2147483648
  | .i64 => -9223372036854775808
  | _ => 0
def kmax : IntKind → Int
  | .i8 => 127
  | .i16 => 32767
  | .i32 => 2147483647
  | .i64 => 9223372036854775807
  | .u8 => 255
  | .u16 => 65535
  | .u32 => 4294967295
  | .u64 => 18446744073709551615

def SI.op2 (f : Int → Int → Int) : SI → SI → SI
  | .lit a, .lit b => .lit (f a b)
  | a, b => .sym (f a.val b.val)
def SI.op1 (f : Int → Int) : SI → SI
  | .lit a => .lit (f a)
  | .sym a => .sym (f a)
def SI.cmp (f : Int → Int → Bool) : SI → SI → SB
  | .lit a, .lit b => .lit (f a b)
  | a, b => .sym (f a.val b.val)
def SB.not : SB → SB
  | .lit b => .lit (!b)
  | .sym b => .sym (!b)
def SB.and : SB → SB → SB
  | .lit true, b => b
  | .lit false, _ => .lit false
  | a, .lit true => a
  | a, b => .sym (a.val && b.val)
def SB.eq : SB → SB → SB
  | .lit a, .lit b => .lit (a == b)
  | a, b => .sym (a.val == b.val)
def SN.op2 (f : Nat → Nat → Nat) : SN → SN → SN
  | .lit a, .lit b => .lit (f a b)
  | a, b => .sym (f a.val b.val)
def SN.toSI : SN → SI
  | .lit n => .lit n
  | .sym n => .sym n
def SI.toSN : SI → SN
  | .lit n => .lit n.toNat
  | .sym n => .sym n.toNat

/-! ### What an evaluation comes to: a tree of tests -/
inductive Tr (α : Type) where
  | ok (a : α)
  | ite (c : Bool) (t e : Tr α)
  | no (why : String)
namespace Tr
variable {α β : Type}
def bind : Tr α → (α → Tr β) → Tr β
  | .ok a, f => f a
  | .ite c t e, f => .ite c (t.bind f) (e.bind f)
  | .no s, _ => .no s
def run : Tr α → Option α
  | .ok a => some a
  | .ite c t e => match c with
    | true => t.run
    | false => e.run
  | .no _ => none
def chk (b : Bool) (why : String) (x : Tr α) : Tr α :=
  match b with
  | true => x
  | false => .no why
def test (b : SB) (t e : Tr α) : Tr α :=
  match b with
  | .lit true => t
  | .lit false => e
  | .sym c => .ite c t e
def opt (why : String) : Option α → (α → Tr β) → Tr β
  | some a, f => f a
  | none, _ => .no why
/-- What holds of the result. -/
def All (Q : α → Prop) : Tr α → Prop
  | .ok a => Q a
  | .ite c t e => (c = true → t.All Q) ∧ (c = false → e.All Q)
  | .no _ => False
end Tr

/-! ### Values, objects, heaps -/
/-- The value of one cell. 'ptr': into an object of cells; 'tptr', 'ts': a pointer, a slice into a table; 'es': an empty slice that isn't nil (full: it has no room, either); 'an': a slice that was handed in: nil, empty, or all rows of a table; 'sl': a slice of an object of cells ('off' counts cells). -/
inductive VV where
  | int (k : IntKind) (n : SI)
  | bool (b : SB)
  | ptr (b off : Nat)
  | nilp
  | tptr (b : Nat) (row : SN) (col : Nat)
  | sl (b off len cap : Nat)
  | ts (b : Nat) (row len : SN) (cap : Option SN)
  | nils
  | es (full : Bool)
  | an (b : Nat) (len : SN)
  | fn (f : FuncId) (first caps : List (Nat × Nat))
  | nilf
  | raw (v : Value)
  | any
inductive S1 where
  | one (v : VV)
  | agg (l : List VV)
inductive SV where
  | s (x : S1)
  | t (l : List S1)
abbrev SV.v (x : VV) : SV := .s (.one x)
def SV.undef : SV := .t []
def S1.cells : S1 → List VV
  | .one v => [v]
  | .agg l => l

/-- A column of a table. -/
inductive CK where
  | int (k : IntKind)
  | bool
  | nils
def CK.vv : CK → Int → VV
  | .int k, n => .int k (.sym n)
  | .bool, n => .bool (.sym (n != 0))
  | .nils, _ => .nils
def CK.real : CK → Int → Value
  | .int k, n => .int k n
  | .bool, n => .bool (n != 0)
  | .nils, _ => .slice none 0 0
/-- What a value is as a table's number. -/
def CK.num : CK → VV → Option Int
  | .int k, .int k' n => if k = k' then some n.val else none
  | .bool, .bool b => some (match b.val with | true => 1 | false => 0)
  | .nils, .nils => some 0
  | _, _ => none

inductive VObj (A : Type) where
  | cells (l : List VV) (ty : TypeId)
  | tab (ks : List CK) (xs : List (List Int)) (ty : TypeId)
  | rotab (ks : List CK) (xs : List (List Int))
  | abs (a : A)
abbrev HP (A : Type) := List (Nat × Option (VObj A))

section
variable {A : Type}
def hget : HP A → Nat → Option (VObj A)
  | [], _ => none
  | (k, o) :: r, b => match Nat.beq k b with
    | true => o
    | false => hget r b
def hset : HP A → Nat → VObj A → HP A
  | [], b, o => [(b, some o)]
  | (k, p) :: r, b, o => match Nat.beq k b with
    | true => (k, some o) :: r
    | false => (k, p) :: hset r b o
def hdel : HP A → Nat → HP A
  | [], _ => []
  | (k, p) :: r, b => match Nat.beq k b with
    | true => hdel r b
    | false => (k, p) :: hdel r b
def hput (hp : HP A) (b : Nat) (o : Option (VObj A)) : HP A := match o with
  | some o => hset hp b o
  | none => hdel hp b
def hputs : HP A → HP A → HP A
  | hp, [] => hp
  | hp, (b, o) :: r => hputs (hput hp b o) r
end

def memN (n : Nat) : List Nat → Bool
  | [] => false
  | m :: r => match Nat.beq m n with
    | true => true
    | false => memN n r
def addN (l : List Nat) (n : Nat) : List Nat := match memN n l with
  | true => l
  | false => l ++ [n]
def addAll (l : List Nat) : List Nat → List Nat
  | [] => l
  | n :: r => addAll (addN l n) r

/-- Replace cells from one on. -/
def splice0 {α : Type} : List α → List α → List α
  | l, [] => l
  | _ :: l, v :: vs => v :: splice0 l vs
  | [], _ :: _ => []
def splice {α : Type} : List α → Nat → List α → List α
  | l, 0, vs => splice0 l vs
  | x :: l, n + 1, vs => x :: splice l n vs
  | [], _ + 1, _ => []

/-- The same as 'l[n]?' and 'l.set n v', in few steps of the kernel. -/
noncomputable def nth {α : Type} (l : List α) : Nat → Option α := List.rec (motive := fun _ => Nat → Option α) (fun _ => none) (fun a _ ih n => Nat.rec (motive := fun _ => Option α) (some a) (fun m _ => ih m) n) l
noncomputable def lset {α : Type} (l : List α) : Nat → α → List α := List.rec (motive := fun _ => Nat → α → List α) (fun _ _ => []) (fun a l ih n v => Nat.rec (motive := fun _ => List α) (v :: l) (fun m _ => a :: ih m v) n) l
theorem nth_eq {α : Type} : ∀ (l : List α) (n : Nat), nth l n = l[n]?
  | [], _ => by rw [List.getElem?_nil]; rfl
  | a :: l, 0 => by rw [List.getElem?_cons_zero]; rfl
  | a :: l, n + 1 => by
    rw [List.getElem?_cons_succ, ← nth_eq l n]
    rfl
theorem lset_eq {α : Type} : ∀ (l : List α) (n : Nat) (v : α), lset l n v = l.set n v
  | [], _, _ => rfl
  | a :: l, 0, v => rfl
  | a :: l, n + 1, v => by
    rw [List.set_cons_succ, ← lset_eq l n v]
    rfl

/-! ### Types -/
def ofVal : Value → Option VV
  | .int k n => match decide (kmin k ≤ n) && decide (n ≤ kmax k) with
    | true => some (.int k (.lit n))
    | false => none
  | .bool b => some (.bool (.lit b))
  | .pointer none => some .nilp
  | .slice none 0 0 => some .nils
  | .nilFunc => some .nilf
  | .string s => some (.raw (.string s))
  | .nilIface => some (.raw .nilIface)
  | .map none => some (.raw (.map none))
  | _ => none
def ofVals : List Value → Option (List VV)
  | [] => some []
  | v :: r => match ofVal v, ofVals r with
    | some x, some l => some (x :: l)
    | _, _ => none
def zeroS (P : Program) (t : TypeId) : Option S1 :=
  match P.info? t with
  | some i => match i.zero with
    | some (.agg cs) => (ofVals cs.toList).map .agg
    | some v => (ofVal v).map .one
    | none => none
  | none => none
/-- Is a type one of several cells? -/
def aggK (P : Program) (t : TypeId) : Option Bool :=
  match P.underlying t with
  | some (.struct _) | some (.array _ _) => some true
  | some _ => some false
  | none => none
def known (P : Program) (t : TypeId) : Bool := (P.info? t).isSome

/-! ### Operations -/
structure Eff (A : Type) where
  val : SV
  rd : List Nat
  asg : HP A
  nid : Nat
/-- What a call comes to: the value, the heap that it was given, behind it, which objects were written or made, the next name. -/
structure CR (A : Type) where
  val : SV
  hp : HP A
  dirty : List Nat
  nid : Nat

def iand (k : IntKind) (x y : Int) : Int := k.wrap ((BitVec.ofInt k.bits x &&& BitVec.ofInt k.bits y).toNat)
def ior (k : IntKind) (x y : Int) : Int := k.wrap ((BitVec.ofInt k.bits x ||| BitVec.ofInt k.bits y).toNat)
def ixor (k : IntKind) (x y : Int) : Int := k.wrap ((BitVec.ofInt k.bits x ^^^ BitVec.ofInt k.bits y).toNat)
def iandn (k : IntKind) (x y : Int) : Int := k.wrap ((BitVec.ofInt k.bits x &&& ~~~BitVec.ofInt k.bits y).toNat)
def ishl (k : IntKind) (x y : Int) : Int := k.wrap (x * 2 ^ (min y.toNat k.bits))
def ishr (k : IntKind) (x y : Int) : Int := x.fdiv (2 ^ (min y.toNat k.bits))

def intOp (op : BinOp) (k : IntKind) (x y : SI) : Tr VV :=
  match op with
  | .add => .ok (.int k (SI.op2 (fun a b => k.wrap (a + b)) x y))
  | .sub => .ok (.int k (SI.op2 (fun a b => k.wrap (a - b)) x y))
  | .mul => .ok (.int k (SI.op2 (fun a b => k.wrap (a * b)) x y))
  | .and => .ok (.int k (SI.op2 (iand k) x y))
  | .or => .ok (.int k (SI.op2 (ior k) x y))
  | .xor => .ok (.int k (SI.op2 (ixor k) x y))
  | .andNot => .ok (.int k (SI.op2 (iandn k) x y))
  | .quo => .test (SI.cmp (fun a b => a == b) y (.lit 0)) (.no "/ 0") (.ok (.int k (SI.op2 (fun a b => k.wrap (a.tdiv b)) x y)))
  | .rem => .test (SI.cmp (fun a b => a == b) y (.lit 0)) (.no "% 0") (.ok (.int k (SI.op2 (fun a b => a.tmod b) x y)))
  | .eql => .ok (.bool (SI.cmp (fun a b => a == b) x y))
  | .neq => .ok (.bool (SI.cmp (fun a b => a != b) x y))
  | .lss => .ok (.bool (SI.cmp (fun a b => decide (a < b)) x y))
  | .leq => .ok (.bool (SI.cmp (fun a b => decide (a ≤ b)) x y))
  | .gtr => .ok (.bool (SI.cmp (fun a b => decide (a > b)) x y))
  | .geq => .ok (.bool (SI.cmp (fun a b => decide (a ≥ b)) x y))
  | _ => .no "int op"
def shOp (op : BinOp) (k : IntKind) (x y : SI) : Tr VV :=
  match op with
  | .shl => .test (SI.cmp (fun a b => decide (a < b)) y (.lit 0)) (.no "shift") (.ok (.int k (SI.op2 (ishl k) x y)))
  | .shr => .test (SI.cmp (fun a b => decide (a < b)) y (.lit 0)) (.no "shift") (.ok (.int k (SI.op2 (ishr k) x y)))
  | _ => .no "shift op"

def partS (P : Program) (t : TypeId) (l : List VV) (off : Nat) : Option S1 :=
  match aggK P t with
  | some true => some (.agg ((l.drop off).take (P.cellsOf t)))
  | some false => match l[off]? with
    | some v => some (.one v)
    | none => none
  | none => none
/-- '==' of whole numbers, bools, and structs of such. -/
def eqFs (P : Program) (f : TypeId → S1 → S1 → Option SB) (l m : List VV) : List Field → Option SB
  | [] => some (.lit true)
  | fd :: fs => match fd.name == "_" with
    | true => none
    | false => match partS P fd.type l fd.offset, partS P fd.type m fd.offset with
      | some a, some b => match f fd.type a b, eqFs P f l m fs with
        | some r, some s => some (r.and s)
        | _, _ => none
      | _, _ => none
/-- '==' of arrays, from the elements that are told. -/
def eqAs (P : Program) (f : TypeId → S1 → S1 → Option SB) (e : TypeId) (l m : List VV) : List Nat → Option SB
  | [] => some (.lit true)
  | i :: is => match partS P e l (i * P.cellsOf e), partS P e m (i * P.cellsOf e) with
    | some a, some b => match f e a b, eqAs P f e l m is with
      | some r, some s => some (r.and s)
      | _, _ => none
    | _, _ => none
def eqT (P : Program) : Nat → TypeId → S1 → S1 → Option SB
  | 0, _, _, _ => none
  | d + 1, t, x, y => match P.underlying t with
    | some (.int _) => match x, y with
      | .one (.int k a), .one (.int k' b) => if k = k' then some (SI.cmp (fun a b => a == b) a b) else none
      | _, _ => none
    | some .bool => match x, y with
      | .one (.bool a), .one (.bool b) => some (SB.eq a b)
      | _, _ => none
    | some (.struct fs) => match x, y with
      | .agg l, .agg m => match P.stoodInHeld t with
        | true => none
        | false => eqFs P (eqT P d) l m fs.toList
      | _, _ => none
    | some (.array n e) => match x, y with
      | .agg l, .agg m => match known P e, n with
        | true, k + 1 => eqAs P (eqT P d) e l m (List.range (k + 1))
        | _, _ => none
      | _, _ => none
    | _ => none

def isShift : BinOp → Bool
  | .shl | .shr => true
  | _ => false
def negIf (op : BinOp) (b : SB) : Tr VV :=
  match op with
  | .eql => .ok (.bool b)
  | .neq => .ok (.bool b.not)
  | _ => .no "=="
/-- Of which kind a type is, where two values are held against each other. -/
def descK (P : Program) (t : TypeId) : Nat := match P.underlying t with
  | some .bool => 1
  | some (.pointer _) => 2
  | some (.slice _) => 3
  | some (.func _ _ _) => 4
  | _ => 0
/-- '==' of two values that are no whole numbers and no structs. -/
def sameV (x y : VV) : Nat → Option SB
  | 1 => match x, y with
    | .bool a, .bool b => some (SB.eq a b)
    | _, _ => none
  | 2 => match x, y with
    | .nilp, .nilp => some (.lit true)
    | .ptr _ _, .nilp => some (.lit false)
    | .nilp, .ptr _ _ => some (.lit false)
    | _, _ => none
  | 3 => match x, y with
    | .nils, .nils => some (.lit true)
    | .sl _ _ _ _, .nils => some (.lit false)
    | .ts _ _ _ _, .nils => some (.lit false)
    | .nils, .sl _ _ _ _ => some (.lit false)
    | .nils, .ts _ _ _ _ => some (.lit false)
    | .es _, .nils => some (.lit false)
    | .nils, .es _ => some (.lit false)
    | _, _ => none
  | 4 => match x, y with
    | .nilf, .nilf => some (.lit true)
    | .fn _ _ _, .nilf => some (.lit false)
    | .nilf, .fn _ _ _ => some (.lit false)
    | _, _ => none
  | _ => none
def vbin (P : Program) (ty : TypeId) (op : BinOp) (x y : SV) : Tr VV :=
  match x, y with
  | .s (.one (.int k a)), .s (.one (.int k' b)) =>
    match isShift op with
    | true => shOp op k a b
    | false => .chk (decide (k = k')) "kinds" (intOp op k a b)
  | .s (.agg a), .s (.agg b) => .opt "== of a type" (eqT P 8 ty (.agg a) (.agg b)) (negIf op)
  | .s (.one x), .s (.one y) => .opt "==" (sameV x y (descK P ty)) (negIf op)
  | _, _ => .no "binop"

section
variable {A : Type}
/-- A table's columns and rows. -/
def tabOf : Option (VObj A) → Option (List CK × List (List Int))
  | some (.tab ks xs _) => some (ks, xs)
  | some (.rotab ks xs) => some (ks, xs)
  | _ => none
def tabAt (xs : List (List Int)) (r c : Nat) : Int := (xs.getD r []).getD c 0
def tabCells (ks : List CK) (xs : List (List Int)) (r : Nat) : Nat → Nat → List VV
  | _, 0 => []
  | c, n + 1 => match ks[c]? with
    | some k => k.vv (tabAt xs r c) :: tabCells ks xs r (c + 1) n
    | none => []
/-- The numbers of values that are laid into columns. -/
def ckNums : List CK → List VV → Option (List Int)
  | _, [] => some []
  | k :: ks, v :: vs => match k.num v, ckNums ks vs with
    | some n, some l => some (n :: l)
    | _, _ => none
  | [], _ :: _ => none
def vload (P : Program) (hp : HP A) (ty : TypeId) (x : VV) : Tr (S1 × Nat) :=
  match x with
  | .ptr b off => match hget hp b with
    | some (.cells l _) => match aggK P ty with
      | some true => .chk (decide (off + P.cellsOf ty ≤ l.length)) "load" (.ok (.agg ((l.drop off).take (P.cellsOf ty)), b))
      | some false => .opt "load" l[off]? fun v => .ok (.one v, b)
      | none => .no "load: type"
    | _ => .no "load: no object of cells"
  | .tptr b r c => .opt "load: no table" (tabOf (hget hp b)) fun t =>
    match aggK P ty with
    | some true => .chk (decide (c + P.cellsOf ty ≤ t.1.length)) "load" (.ite (decide (r.val < t.2.length)) (.ok (.agg (tabCells t.1 t.2 r.val c (P.cellsOf ty)), b)) (.no "load: row"))
    | some false => .opt "load" t.1[c]? fun k => .ite (decide (r.val < t.2.length)) (.ok (.one (k.vv (tabAt t.2 r.val c)), b)) (.no "load: row")
    | none => .no "load: type"
  | _ => .no "load"
def vstore (hp : HP A) (x : VV) (vs : List VV) : Tr (Nat × VObj A) :=
  match x with
  | .ptr b off => match hget hp b with
    | some (.cells l t) => .chk (decide (off + vs.length ≤ l.length)) "store" (.ok (b, .cells (splice l off vs) t))
    | _ => .no "store: no object of cells"
  | .tptr b r c => match hget hp b with
    | some (.tab ks xs t) => .chk (decide (c ≤ ks.length)) "store" <| .opt "store: kinds" (ckNums (ks.drop c) vs) fun ns => .ite (decide (r.val < xs.length)) (.ok (b, .tab ks (xs.set r.val (splice (xs.getD r.val []) c ns)) t)) (.no "store: row")
    | _ => .no "store: no table"
  | _ => .no "store"

/-- Lay parts into zero cells: 'place' tells a part's first cell and its size. -/
def vfill (place : Nat → Option (Nat × Nat)) (cells : List VV) : List (Nat × SV) → Tr (List VV)
  | [] => .ok cells
  | (i, x) :: rest => .opt "build: no such part" (place i) fun p =>
    match x with
    | .s x => .chk (decide (x.cells.length = p.2) && decide (p.1 + x.cells.length ≤ cells.length)) "build: size" (vfill place (splice cells p.1 x.cells) rest)
    | .t _ => .no "build: a tuple"

def repeatL (l : List VV) : Nat → List VV
  | 0 => []
  | n + 1 => l ++ repeatL l n

def intLit : SV → Option Nat
  | .s (.one (.int _ (.lit n))) => match n with
    | .ofNat n => some n
    | _ => none
  | _ => none

/-- The number that an index is, if it is below n: a literal, or each case. -/
def eachIdx {α : Type} (x : Int) (f : Nat → Tr α) : Nat → Tr α
  | 0 => .no "index"
  | n + 1 => .ite (x == (n : Int)) (f n) (eachIdx x f n)
def atIdx {α : Type} (x : SI) (n : Nat) (f : Nat → Tr α) : Tr α :=
  match x with
  | .lit a => match a with
    | .ofNat i => .chk (decide (i < n)) "index" (f i)
    | _ => .no "index"
  | .sym a => eachIdx a f n

def callArgs (first : List (Nat × Nat)) (args : List SV) (caps : List (Nat × Nat)) : List SV :=
  first.map (fun p => SV.v (.ptr p.1 p.2)) ++ args ++ caps.map (fun p => SV.v (.ptr p.1 p.2))

def vvIds : VV → List Nat
  | .ptr b _ | .tptr b _ _ | .sl b _ _ _ | .ts b _ _ _ | .an b _ => [b]
  | .fn _ f c => (f ++ c).map (·.1)
  | _ => []
def s1Ids (x : S1) : List Nat := x.cells.flatMap vvIds
def svIds : SV → List Nat
  | .s x => s1Ids x
  | .t l => l.flatMap s1Ids
def objIds : VObj A → List Nat
  | .cells l _ => l.flatMap vvIds
  | _ => []
def reach (hp : HP A) : Nat → List Nat → List Nat → List Nat
  | 0, _, seen => seen
  | _ + 1, [], seen => seen
  | n + 1, b :: todo, seen => match memN b seen with
    | true => reach hp n todo seen
    | false => match hget hp b with
      | some o => reach hp n (objIds o ++ todo) (seen ++ [b])
      | none => reach hp n todo (seen ++ [b])
def restrict (hp : HP A) : List Nat → HP A
  | [] => []
  | b :: r => (b, hget hp b) :: restrict hp r

def ptrsOf : List SV → Option (List (Nat × Nat))
  | [] => some []
  | .s (.one (.ptr b off)) :: r => (ptrsOf r).map ((b, off) :: ·)
  | _ => none

def vlen : SV → Option SI
  | .s (.one (.sl _ _ len _)) => match Nat.ble len 9223372036854775807 with
    | true => some (.lit len)
    | false => none
  | .s (.one (.ts _ _ len _)) => some len.toSI
  | .s (.one .nils) => some (.lit 0)
  | .s (.one (.es _)) => some (.lit 0)
  | .s (.one (.an _ len)) => some len.toSI
  | _ => none

def mm2 (mx : Bool) (x y : SI) : SI := match mx with
  | true => SI.op2 (fun a b => if b > a then b else a) x y
  | false => SI.op2 (fun a b => if b < a then b else a) x y
def mmFold (mx : Bool) (k : IntKind) (x : SI) : List SV → Tr VV
  | [] => .ok (.int k x)
  | .s (.one (.int k' y)) :: r => .chk (decide (k = k')) "kinds" (mmFold mx k (mm2 mx x y) r)
  | _ => .no "min, max"

def pickV (c : SB) (a b : SV) : Tr SV :=
  match c with
  | .lit true => .ok a
  | .lit false => .ok b
  | .sym c => match a, b with
    | .s (.one (.bool x)), .s (.one (.bool y)) => .ok (.v (.bool (.sym (match c with | true => x.val | false => y.val))))
    | a, b => .ite c (.ok a) (.ok b)

/-! ### Rows of tables -/
/-- The columns of a row, by its nought. -/
def colsOf : List VV → Option (List CK)
  | [] => some []
  | .int k _ :: r => (colsOf r).map (.int k :: ·)
  | .bool _ :: r => (colsOf r).map (.bool :: ·)
  | _ :: _ => none
/-- The same, for elements that are slices too: such a column has nil slices alone. -/
def colsN : List VV → Option (List CK)
  | [] => some []
  | .int k _ :: r => (colsN r).map (.int k :: ·)
  | .bool _ :: r => (colsN r).map (.bool :: ·)
  | .nils :: r => (colsN r).map (.nils :: ·)
  | _ :: _ => none
def ckEq : CK → CK → Bool
  | .int k, .int k' => decide (k = k')
  | .bool, .bool => true
  | .nils, .nils => true
  | _, _ => false
def cksEq : List CK → List CK → Bool
  | [], [] => true
  | a :: as, b :: bs => ckEq a b && cksEq as bs
  | _, _ => false
/-- Cells as rows. -/
def cutRows (ks : List CK) : Nat → List VV → Option (List (List Int))
  | 0, _ => some []
  | n + 1, l => match ckNums ks (l.take ks.length), cutRows ks n (l.drop ks.length) with
    | some a, some r => some (a :: r)
    | _, _ => none
/-- The rows of a slice: how many there are, the rows, where they lie. -/
def rowsOf (hp : HP A) (ks : List CK) : SV → Tr (SN × List (List Int) × List Nat)
  | .s (.one (.sl b off len _)) => match hget hp b with
    | some (.cells l _) => .chk (decide (off + len * ks.length ≤ l.length) && Nat.ble len 9223372036854775807) "rows: cells" <| .opt "rows: numbers" (cutRows ks len (l.drop off)) fun rows => .ok (.lit len, rows, [b])
    | _ => .no "rows: object"
  | .s (.one (.ts b r len _)) => .opt "rows: table" (tabOf (hget hp b)) fun t => .chk (cksEq t.1 ks) "rows: columns" <|
    .ite (decide (r.val + len.val ≤ t.2.length)) (.ok (len, (t.2.drop r.val).take len.val, [b])) (.no "rows: bounds")
  | .s (.one .nils) => .ok (.lit 0, [], [])
  | .s (.one (.es _)) => .ok (.lit 0, [], [])
  | .s (.one (.an b len)) => .opt "rows: table" (tabOf (hget hp b)) fun t => .chk (cksEq t.1 ks) "rows: columns" <|
    .ite (decide (len.val ≤ t.2.length)) (.ok (len, t.2.take len.val, [b])) (.no "rows: bounds")
  | _ => .no "rows"
/-- Is there no room behind a slice's length? -/
def noRoom : SV → Bool
  | .s (.one (.sl _ _ len cap)) => Nat.beq len cap
  | .s (.one .nils) => true
  | .s (.one (.es f)) => f
  | _ => false
def SN.fit (n : SN) (bytes : Nat) : SB := match n with
  | .lit n => .lit (Nat.ble (n * bytes) 140737488355328)
  | .sym n => .sym (Nat.ble (n * bytes) 140737488355328)
def SN.zero : SN → SB
  | .lit n => .lit (Nat.beq n 0)
  | .sym n => .sym (Nat.beq n 0)

variable (P : Program) (call : FuncId → List SV → HP A → Nat → Tr (CR A))
def vappend (hp : HP A) (t : TypeId) (x y : SV) (nid : Nat) : Tr (Eff A) :=
  match P.underlying t with
  | some (.slice e) => match P.info? e with
    | some i => .opt "append: zero" (zeroS P e) fun z => .opt "append: columns" (colsN z.cells) fun ks =>
      .chk (Nat.beq ks.length i.size && Nat.blt 0 ks.length && Nat.blt 0 i.bytes) "append: size" <|
      (rowsOf hp ks y).bind fun ry => (rowsOf hp ks x).bind fun rx =>
      let n := SN.op2 (fun a b => a + b) rx.1 ry.1
      match x with
      | .s (.one (.ts b (.lit 0) _ none)) => match hget hp b with
        | some (.tab _ _ ty) => .chk (Nat.beq ty e) "append: type" <| .test (n.fit i.bytes)
          (.ok ⟨.v (.ts nid (.lit 0) n none), rx.2.2 ++ ry.2.2, [(b, none), (nid, some (.tab ks (rx.2.1 ++ ry.2.1) e))], nid + 1⟩) (.no "append: too much")
        | _ => .no "append: object"
      | x => .chk (noRoom x) "append: room" <| .test ry.1.zero (.ok ⟨x, rx.2.2 ++ ry.2.2, [], nid⟩) <| .test (n.fit i.bytes)
          (.ok ⟨.v (.ts nid (.lit 0) n none), rx.2.2 ++ ry.2.2, [(nid, some (.tab ks (rx.2.1 ++ ry.2.1) e))], nid + 1⟩) (.no "append: too much")
    | none => .no "append: info"
  | _ => .no "append"
def vbuiltin (b : Builtin) (argTypes : Array TypeId) (args : List SV) (hp : HP A) (nid : Nat) : Tr (Eff A) :=
  match b, args with
  | .append, [x, y] => match argTypes.toList with
    | [t, t'] => .chk (Nat.beq t t') "append: types" (vappend P hp t x y nid)
    | _ => .no "append: types"
  | .len, [x] => match argTypes[0]? with
    | some t => match P.underlying t with
      | some (.slice _) => .opt "len" (vlen x) fun n => .ok ⟨.v (.int .i64 n), [], [], nid⟩
      | some (.array n _) => .chk (Nat.ble n 9223372036854775807) "len" (.ok ⟨.v (.int .i64 (.lit n)), [], [], nid⟩)
      | _ => .no "len"
    | none => .no "len"
  | .max, .s (.one (.int k x)) :: r => (mmFold true k x r).bind fun v => .ok ⟨.v v, [], [], nid⟩
  | .min, .s (.one (.int k x)) :: r => (mmFold false k x r).bind fun v => .ok ⟨.v v, [], [], nid⟩
  | _, _ => .no "builtin"

def hasBody (f : FuncId) : Bool := match P.funcs[f]? with
  | some fn => fn.body.isSome
  | none => false
def pickIds (nid : Nat) (keep : List Nat) (hp : HP A) : List Nat → HP A
  | [] => []
  | b :: r => match Nat.blt b nid || memN b keep with
    | true => (b, hget hp b) :: pickIds nid keep hp r
    | false => pickIds nid keep hp r
/-- A call: it is evaluated over what its arguments lead to; of what it made, what its answer or the elder objects lead to is kept. -/
def vcall (f : FuncId) (args : List SV) (hp : HP A) (nid : Nat) : Tr (Eff A) :=
  let R := reach hp 1000 (args.flatMap svIds) []
  .chk (hasBody P f && R.all (Nat.blt · nid)) "call: names" <|
  (call f args (restrict hp R) nid).bind fun r => .chk (Nat.ble nid r.nid) "call: next name" <| .ok ⟨r.val, R, pickIds nid (reach r.hp 1000 (svIds r.val ++ R) []) r.hp r.dirty, r.nid⟩

def structPlaces (fs : Array Field) (i : Nat) : Option (Nat × Nat) := match fs[i]? with
  | some f => some (f.offset, P.cellsOf f.type)
  | none => none

def vslice (ty : TypeId) (x : SV) (lo hi : Option SV) : Tr (VV × List Nat) :=
  match x with
  | .s (.one (.sl b off len cap)) => match P.underlying ty with
    | some (.slice e) => .chk (known P e) "slice: type" <|
      .opt "slice: high" (match hi with | none => some len | some h => intLit h) fun h =>
      .opt "slice: low" (match lo with | none => some 0 | some l => intLit l) fun l =>
      .chk (decide (h ≤ cap) && decide (l ≤ h)) "slice: bounds" <|
      .ok (.sl b (if cap = l then off else off + l * P.cellsOf e) (h - l) (cap - l), [])
    | _ => .no "slice: type"
  | .s (.one (.ptr b off)) => match P.underlying ty with
    | some (.array n e) => .chk (known P e) "slice: type" <|
      .opt "slice: high" (match hi with | none => some n | some h => intLit h) fun h =>
      .opt "slice: low" (match lo with | none => some 0 | some l => intLit l) fun l =>
      .chk (decide (h ≤ n) && decide (l ≤ h)) "slice: bounds" <|
      .ok (.sl b (if n = l then off else off + l * P.cellsOf e) (h - l) (n - l), [])
    | _ => .no "slice: array"
  | _ => .no "slice"

/-- A bound of a slice's: a number, or what stands for it. -/
def sbound (d : SI) : Option SV → Option SI
  | none => some d
  | some (.s (.one (.int .i64 n))) => some n
  | _ => none
def sle (a b : SI) : SB := SI.cmp (fun a b => decide (a ≤ b)) a b
def slt (a b : SI) : SB := SI.cmp (fun a b => decide (a < b)) a b
def slCap {α β : Type} : Option α → Option β → SN → Option SN
  | none, none, _ => none
  | _, _, c => some c
def slFull {α β : Type} : Option α → Option β → Bool
  | none, none => false
  | _, _ => true
def vsliceT (hp : HP A) (ty : TypeId) (b : Nat) (r len : SN) (cap : Option SN) (lo hi mx : Option SV) : Tr (VV × List Nat) :=
  match P.underlying ty with
  | some (.slice e) => .opt "slice: table" (tabOf (hget hp b)) fun t => .chk (known P e && decide (P.cellsOf e = t.1.length) && (mx.isNone || hi.isSome)) "slice: type" <|
    .opt "slice: high" (sbound len.toSI hi) fun h => .opt "slice: low" (sbound (.lit 0) lo) fun l =>
    .opt "slice: max" (sbound (match cap with | some c => c.toSI | none => len.toSI) mx) fun c =>
    .test (sle (.lit 0) l) (.test (sle l h) (.test (sle h c) (.test (sle c (match cap with | some c => c.toSI | none => len.toSI))
      (.test (slt l c) (.ok (.ts b (SN.op2 (fun a b => a + b) r l.toSN) (SN.op2 (fun a b => a - b) h.toSN l.toSN) (slCap mx cap (SN.op2 (fun a b => a - b) c.toSN l.toSN)), [b])) (.ok (.es (slFull mx cap), [b])))
      (.no "slice: max")) (.no "slice: bounds")) (.no "slice: bounds")) (.no "slice: bounds")
  | _ => .no "slice: type"
def vslice3 (ty : TypeId) (x : SV) (lo hi mx : Option SV) : Tr (VV × List Nat) :=
  match x with
  | .s (.one (.sl b off len cap)) => match P.underlying ty with
    | some (.slice e) => .chk (known P e) "slice: type" <|
      .opt "slice: max" (match mx with | none => none | some m => intLit m) fun m =>
      .opt "slice: high" (match hi with | none => none | some h => intLit h) fun h =>
      .opt "slice: low" (match lo with | none => some 0 | some l => intLit l) fun l =>
      .chk (decide (m ≤ cap) && decide (h ≤ m) && decide (l ≤ h)) "slice: bounds" <|
      .ok (.sl b (if m = l then off else off + l * P.cellsOf e) (h - l) (m - l), [])
    | _ => .no "slice: type"
  | _ => .no "slice"
def vsliceA (hp : HP A) (ty : TypeId) (x : SV) (lo hi mx : Option SV) : Tr (VV × List Nat) :=
  match x with
  | .s (.one (.ts b r len cap)) => vsliceT P hp ty b r len cap lo hi mx
  | x => match mx with
    | none => vslice P ty x lo hi
    | some m => vslice3 P ty x lo hi (some m)

/-- The columns of a table that is made: none if its elements are structs and their number is known (then it is an object of cells). -/
def colsM (z : List VV) (l c : SV) : Option (List CK) := match z with
  | _ :: _ :: _ => match intLit l, intLit c with
    | some _, some _ => none
    | _, _ => colsOf z
  | z => colsOf z
def vop (nid : Nat) (ev : Operand → SV) (hp : HP A) (o : Oper) : Tr (Eff A) :=
  let val (v : SV) : Tr (Eff A) := .ok ⟨v, [], [], nid⟩
  match o.op with
  | .move x | .assign x => val (ev x)
  | .pick c a b => match ev c with
    | .s (.one (.bool c)) => (pickV c (ev a) (ev b)).bind val
    | _ => .no "pick"
  | .makeMap _ none => val (.v .any)
  | .alloc ty => .opt "alloc" (zeroS P ty) fun z => .ok ⟨.v (.ptr nid 0), [], [(nid, some (.cells z.cells ty))], nid + 1⟩
  | .box ty x => match ev x with
    | .s z => .ok ⟨.v (.ptr nid 0), [], [(nid, some (.cells z.cells ty))], nid + 1⟩
    | .t _ => .no "box"
  | .build ty parts => match zeroS P ty with
    | some (.agg z) => match P.underlying ty with
      | some (.struct fs) => .chk (fs.toList.all fun f => known P f.type) "build: types" <| (vfill (structPlaces P fs) z (parts.toList.map fun p => (p.1, ev p.2))).bind fun l => val (.s (.agg l))
      | some (.array _ e) => .chk (known P e) "build: type" <| (vfill (fun i => some (i * P.cellsOf e, P.cellsOf e)) z (parts.toList.map fun p => (p.1, ev p.2))).bind fun l => val (.s (.agg l))
      | _ => .no "build"
    | _ => .no "build: zero"
  | .buildSlice ty len parts => match P.underlying ty with
    | some (.slice e) => match zeroS P e with
      | some z => .chk (known P e && decide (z.cells.length = P.cellsOf e) && decide (len * P.cellsOf e ≤ 2 ^ 24) && decide (0 < P.cellsOf e)) "buildSlice" <|
        (vfill (fun i => some (i * P.cellsOf e, P.cellsOf e)) (repeatL z.cells len) (parts.toList.map fun p => (p.1, ev p.2))).bind fun l =>
          .ok ⟨.v (.sl nid 0 len len), [], [(nid, some (.cells l e))], nid + 1⟩
      | none => .no "buildSlice: zero"
    | _ => .no "buildSlice"
  | .load ty x => match ev x with
    | .s (.one x) => (vload P hp ty x).bind fun r => .ok ⟨.s r.1, [r.2], [], nid⟩
    | _ => .no "load"
  | .store ty x y => match ev x, ev y with
    | .s (.one x), .s y => .chk (known P ty && decide (y.cells.length = P.cellsOf ty)) "store: size" <|
      (vstore hp x y.cells).bind fun r => .ok ⟨.undef, [r.1], [(r.1, some r.2)], nid⟩
    | _, _ => .no "store"
  | .nilCheck x => match ev x with
    | .s (.one (.ptr b off)) => val (.v (.ptr b off))
    | .s (.one (.tptr b r c)) => val (.v (.tptr b r c))
    | .s (.one (.fn f a c)) => val (.v (.fn f a c))
    | _ => .no "nilCheck"
  | .binOp op ty x y _ => (vbin P ty op (ev x) (ev y)).bind fun v => val (.v v)
  | .unOp op _ x => match op, ev x with
    | .not, .s (.one (.bool b)) => val (.v (.bool b.not))
    | .neg, .s (.one (.int k n)) => val (.v (.int k (SI.op1 (fun n => k.wrap (0 - n)) n)))
    | .xor, .s (.one (.int k n)) => val (.v (.int k (SI.op1 (fun n => ixor k (if k.signed then -1 else k.max) n) n)))
    | _, _ => .no "unOp"
  | .convert src dst x => match P.underlying src, P.underlying dst, ev x with
    | some _, some (.int k), .s (.one (.int _ n)) => val (.v (.int k (SI.op1 k.wrap n)))
    | _, _, _ => .no "convert"
  | .makeFunc fn first caps => match fn with
    | .func f => .opt "makeFunc" (ptrsOf (first.toList.map ev)) fun a => .opt "makeFunc" (ptrsOf (caps.toList.map ev)) fun b => val (.v (.fn f a b))
    | _ => .no "makeFunc"
  | .makeSlice ty len cap => match P.underlying ty with
    | some (.slice e) => .opt "makeSlice: zero" (zeroS P e) fun z => match colsM z.cells (ev len) (ev cap) with
      | some ks => match ev len, ev cap, P.info? e, ckNums ks z.cells with
        | .s (.one (.int _ l)), .s (.one (.int _ c)), some i, some zs => .chk (Nat.beq z.cells.length i.size && Nat.blt 0 i.size && Nat.blt 0 i.bytes) "makeSlice: size" <|
          .test (sle (.lit 0) l) (.test (SI.cmp (fun a b => a == b) l c) (.test (l.toSN.fit i.bytes)
            (.ok ⟨.v (.ts nid (.lit 0) l.toSN none), [], [(nid, some (.tab ks (List.replicate l.toSN.val zs) e))], nid + 1⟩) (.no "makeSlice: too much")) (.no "makeSlice: room")) (.no "makeSlice: < 0")
        | _, _, _, _ => .no "makeSlice: numbers"
      | none => match intLit (ev len), intLit (ev cap) with
        | some l, some c => .chk (decide (l ≤ c) && decide (c ≤ 4096) && decide (z.cells.length = P.cellsOf e) && decide (P.bytesOf e ≤ 4096)) "makeSlice" <|
            .ok ⟨.v (.sl nid 0 l c), [], [(nid, some (.cells (repeatL z.cells c) e))], nid + 1⟩
        | _, _ => .no "makeSlice: literals"
    | _ => .no "makeSlice"
  | .slice ty x lo hi mx => (vsliceA P hp ty (ev x) (lo.map ev) (hi.map ev) (mx.map ev)).bind fun r => .ok ⟨.v r.1, r.2, [], nid⟩
  | .fieldAddr ty x f => match P.underlying ty with
    | some (.struct fs) => .opt "fieldAddr" fs[f]? fun fd => .chk (known P fd.type && decide (P.cellsOf fd.type ≠ 0)) "fieldAddr: size" <|
      match ev x with
      | .s (.one (.ptr b off)) => val (.v (.ptr b (off + fd.offset)))
      | .s (.one (.tptr b r c)) => val (.v (.tptr b r (c + fd.offset)))
      | _ => .no "fieldAddr"
    | _ => .no "fieldAddr: type"
  | .field ty x f => match P.underlying ty, ev x with
    | some (.struct fs), .s (.agg l) => .opt "field" fs[f]? fun fd => .opt "field" (partS P fd.type l fd.offset) fun r => val (.s r)
    | _, _ => .no "field"
  | .indexAddr ty x i => match ev i with
    | .s (.one (.int _ i)) => match P.underlying ty, ev x with
      | some (.array n e), .s (.one (.ptr b off)) => .chk (known P e) "indexAddr: type" <| atIdx i n fun j => val (.v (.ptr b (off + j * P.cellsOf e)))
      | some (.slice e), .s (.one (.sl b off len _)) => .chk (known P e) "indexAddr: type" <| atIdx i len fun j => val (.v (.ptr b (off + j * P.cellsOf e)))
      | some (.slice e), .s (.one (.ts b r len _)) => .opt "indexAddr: table" (tabOf (hget hp b)) fun t => .chk (known P e && decide (P.cellsOf e = t.1.length)) "indexAddr: type" <|
        .ite (decide (0 ≤ i.val) && decide (i.val < len.val)) (.ok ⟨.v (.tptr b (SN.op2 (fun a b => a + b) r i.toSN) 0), [b], [], nid⟩) (.no "index")
      | some (.slice e), .s (.one (.an b len)) => .opt "indexAddr: table" (tabOf (hget hp b)) fun t => .chk (known P e && decide (P.cellsOf e = t.1.length)) "indexAddr: type" <|
        .ite (decide (0 ≤ i.val) && decide (i.val < len.val)) (.ok ⟨.v (.tptr b i.toSN 0), [b], [], nid⟩) (.no "index")
      | _, _ => .no "indexAddr"
    | _ => .no "indexAddr: index"
  | .index ty x i => match ev i with
    | .s (.one (.int _ i)) => match P.underlying ty, ev x with
      | some (.array n e), .s (.agg l) => atIdx i n fun j => .opt "index" (partS P e l (j * P.cellsOf e)) fun r => val (.s r)
      | _, _ => .no "index"
    | _ => .no "index: index"
  | .extract x i => match ev x with
    | .t l => .opt "extract" l[i]? fun v => val (.s v)
    | _ => .no "extract"
  | .call c => match c.callee with
    | .value f => match ev f with
      | .s (.one (.fn f first caps)) => vcall P call f (callArgs first (c.args.toList.map ev) caps) hp nid
      | _ => .no "call: no function"
    | .builtin b => vbuiltin P b c.argTypes (c.args.toList.map ev) hp nid
    | .invoke _ _ => .no "invoke"
  | _ => .no "op"

/-! ### Regions, code, functions -/
structure St (A : Type) where
  tm : List SV
  hp : HP A
  nid : Nat
  dirty : List Nat
/-- What an operation looked at and wrote: slot t as 2t, object b as 2b + 1. -/
structure Rec where
  r : List Nat
  w : List Nat

noncomputable def evalT (tm : List SV) : Operand → SV
  | .tmp t => match nth tm t with
    | some v => v
    | none => .undef
  | .const v => match ofVal v with
    | some x => .v x
    | none => .undef
  | .global _ => .undef
  | .func f => .v (.fn f [] [])
/-- Operands whose value 'evalT' tells as it is. -/
noncomputable def okOperand : Operand → Bool
  | .const v => (ofVal v).isSome
  | .global _ => false
  | _ => true
noncomputable def guardDst (ops : Array Oper) (o : Oper) : Option Nat := match o.guard with
  | some (j, _) => (ops[j]?).bind (·.dst)
  | none => none
noncomputable def isGuardOf (i : Nat) (o : Oper) : Bool := match o.guard with
  | some (j, _) => Nat.beq j i
  | none => false
noncomputable def vwanted (ops : Array Oper) (o : Oper) (tm : List SV) : Option Bool :=
  match o.guard with
  | none => some true
  | some (j, want) => match ((ops[j]?).bind (·.dst)).bind (nth tm) with
    | some (.s (.one (.bool (.lit b)))) => some (b == want)
    | some (.s (.one (.bool (.sym _)))) => none
    | some (.s (.one (.raw _))) => none
    | _ => some false
noncomputable def opReads (ops : Array Oper) (o : Oper) : List Nat :=
  (o.op.operands.toList.filterMap fun | .tmp t => some (2 * t) | _ => none) ++ (match guardDst ops o with | some t => [2 * t] | none => [])

/-- A bool that another operation's guard asks for becomes a literal at once. -/
noncomputable def litVal (ops : Array Oper) (i : Nat) (e : Eff A) : Tr (Eff A) :=
  match e.val with
  | .s (.one (.bool (.sym c))) => match ops.toList.any (isGuardOf i) with
    | true => .ite c (.ok { e with val := .v (.bool (.lit true)) }) (.ok { e with val := .v (.bool (.lit false)) })
    | false => .ok e
  | _ => .ok e
noncomputable def evOp (ops : Array Oper) (i : Nat) (o : Oper) (st : St A) : Tr (Eff A) :=
  .chk (o.op.operands.toList.all okOperand && (match o.dst with | some d => (nth st.tm d).isSome | none => true)) "operands" <|
  match vwanted ops o st.tm with
  | some true => (vop P call st.nid (evalT st.tm) st.hp o).bind fun e => .chk (Nat.ble st.nid e.nid) "next name" (litVal ops i e)
  | some false => .ok ⟨.undef, [], [], st.nid⟩
  | none => .no "guard"
noncomputable def setTm (tm : List SV) (d : Option Nat) (v : SV) : List SV := match d with
  | some d => lset tm d v
  | none => tm
noncomputable def stepSt (o : Oper) (e : Eff A) (st : St A) : St A :=
  ⟨setTm st.tm o.dst e.val, hputs st.hp e.asg, e.nid, addAll st.dirty (e.asg.map (·.1))⟩
noncomputable def recOf (ops : Array Oper) (o : Oper) (e : Eff A) : Rec :=
  ⟨opReads ops o ++ e.rd.map (fun b => 2 * b + 1), (match o.dst with | some d => [2 * d] | none => []) ++ e.asg.map (fun p => 2 * p.1 + 1)⟩
noncomputable def evOps (ops : Array Oper) : List Oper → Nat → St A → Tr (St A)
  | [], _, st => .ok st
  | o :: os, i, st => (evOp P call ops i o st).bind fun e => evOps ops os (i + 1) (stepSt o e st)
/-- The same, and what each looked at and wrote. -/
noncomputable def evOpsL (ops : Array Oper) : List Oper → Nat → St A → Tr (St A × List Rec)
  | [], _, st => .ok (st, [])
  | o :: os, i, st => (evOp P call ops i o st).bind fun e => (evOpsL ops os (i + 1) (stepSt o e st)).bind fun r => .ok (r.1, recOf ops o e :: r.2)

noncomputable def meets (a b : List Nat) : Bool := a.any fun x => memN x b
noncomputable def conflict (a b : Rec) : Bool := meets a.w b.r || meets a.w b.w || meets a.r b.w
noncomputable def befores : List Oper → List Nat → List Nat
  | [], acc => acc
  | o :: os, acc => befores os (acc ++ [o.after.toList.foldl (fun s e => match Region.binds .any e with
    | true => s ||| 2 ^ e.on ||| acc.getD e.on 0
    | false => s) 0])
noncomputable def raceOne (r : Rec) (bf : Nat) : List Rec → Nat → Bool
  | [], _ => true
  | q :: qs, i => (match conflict q r with | true => bf.testBit i | false => true) && raceOne r bf qs (i + 1)
noncomputable def raceAll (all : List Rec) : List Rec → List Nat → Nat → Bool
  | [], _, _ => true
  | r :: rs, bf :: bs, i => raceOne r bf (all.take i) 0 && raceAll all rs bs (i + 1)
  | _ :: _, [], _ => false

/-- Each operation waits for earlier ones alone. -/
noncomputable def edgesBack : List Oper → Nat → Bool
  | [], _ => true
  | o :: os, i => o.after.toList.all (fun e => !Region.binds .any e || Nat.blt e.on i) && edgesBack os (i + 1)

inductive VX where
  | normal
  | exit (id : Nat)
  | ret

noncomputable def iter (f : St A → Tr (VX × St A)) : Nat → St A → Tr (VX × St A)
  | 0, _ => .no "rounds"
  | n + 1, st => (f st).bind fun r => match r.1 with
    | .normal => iter f n r.2
    | _ => .ok r

noncomputable def evCode (rounds : Nat) : Code → St A → Tr (VX × St A)
  | .skip, st => .ok (.normal, st)
  | .label _, st => .ok (.normal, st)
  | .region _ ops draw, st => match draw with
    | false => (evOps P call ops ops.toList 0 st).bind fun s => .ok (.normal, s)
    | true => (evOpsL P call ops ops.toList 0 st).bind fun r => .chk (edgesBack ops.toList 0 && raceAll r.2 r.2 (befores ops.toList []) 0) "race" (.ok (.normal, r.1))
  | .seq a b, st => (evCode rounds a st).bind fun r => match r.1 with
    | .normal => evCode rounds b r.2
    | _ => .ok r
  | .cond c a b, st => match evalT st.tm c with
    | .s (.one (.bool c)) => .test c (evCode rounds a st) (evCode rounds b st)
    | _ => .no "cond"
  | .block id c, st => (evCode rounds c st).bind fun r => match r.1 with
    | .exit k => match Nat.beq k id with
      | true => .ok (.normal, r.2)
      | false => .ok r
    | _ => .ok r
  | .loop c, st => iter (evCode rounds c) rounds st
  | .exit id, st => .ok (.exit id, st)
  | .scope c, st => evCode rounds c st
  | .ret, st => .ok (.ret, st)
  | _, _ => .no "code"

noncomputable def vresult (st : St A) : ResultVar → Tr S1
  | .tmp t => match nth st.tm t with
    | some (.s x) => .ok x
    | _ => .no "result"
  | .cell a ty => match nth st.tm a with
    | some (.s (.one x)) => (vload P st.hp ty x).bind fun r => .ok r.1
    | _ => .no "result cell"
noncomputable def vresults (st : St A) : List ResultVar → Tr (List S1)
  | [] => .ok []
  | r :: rs => (vresult P st r).bind fun x => (vresults st rs).bind fun l => .ok (x :: l)
noncomputable def tupleOf : List S1 → SV
  | [x] => .s x
  | l => .t l
noncomputable def evBody (rounds : Nat) (fn : Func) (args : List SV) (hp : HP A) (nid : Nat) : Tr (CR A) :=
  match fn.body with
  | none => .no "no body"
  | some c => (evCode P call rounds c ⟨args ++ List.replicate (fn.ntmps - args.length) .undef, hp, nid, []⟩).bind fun r => match r.1 with
    | .exit _ => .no "exit"
    | _ => (vresults P r.2 fn.results.toList).bind fun l => .ok ⟨tupleOf l, r.2.hp, r.2.dirty, r.2.nid⟩
end

abbrev Intr (A : Type) := List SV → HP A → Nat → Tr (CR A)
noncomputable def evF {A : Type} (P : Program) (I : FuncId → Option (Intr A)) (rounds : Nat) : Nat → FuncId → List SV → HP A → Nat → Tr (CR A)
  | 0, _, _, _, _ => .no "depth"
  | d + 1, f, args, hp, nid => match I f with
    | some i => i args hp nid
    | none => match P.funcs[f]? with
      | some fn => evBody P (evF P I rounds d) rounds fn args hp nid
      | none => .no "no such function"

end Go.Proofs.Ytcolladpdmjloaa.Eng

/-
  The engine, part B: what the virtual machine's values, objects and heaps say of the model's; how such facts live on behind a step.
-/
namespace Go.Proofs.Ytcolladpdmjloaa.Eng
open Go

/-! ### Two lists, pairwise -/
def F2 {α β : Type} (R : α → β → Prop) : List α → List β → Prop
  | [], [] => True
  | a :: as, b :: bs => R a b ∧ F2 R as bs
  | _, _ => False
namespace F2
variable {α β : Type} {R R' : α → β → Prop}
theorem length : ∀ {l : List α} {m : List β}, F2 R l m → l.length = m.length
  | [], [], _ => rfl
  | _ :: _, _ :: _, h => by simp [length h.2]
  | [], _ :: _, h => h.elim
  | _ :: _, [], h => h.elim
theorem mono (hr : ∀ a b, R a b → R' a b) : ∀ {l : List α} {m : List β}, F2 R l m → F2 R' l m
  | [], [], _ => trivial
  | _ :: _, _ :: _, h => ⟨hr _ _ h.1, mono hr h.2⟩
  | [], _ :: _, h => h.elim
  | _ :: _, [], h => h.elim
theorem append : ∀ {l : List α} {m : List β} {l' : List α} {m' : List β}, F2 R l m → F2 R l' m' → F2 R (l ++ l') (m ++ m')
  | [], [], _, _, _, h' => h'
  | _ :: _, _ :: _, _, _, h, h' => ⟨h.1, append h.2 h'⟩
  | [], _ :: _, _, _, h, _ => h.elim
  | _ :: _, [], _, _, h, _ => h.elim
theorem get : ∀ {l : List α} {m : List β} (_ : F2 R l m) (i : Nat) {a : α}, l[i]? = some a → ∃ b, m[i]? = some b ∧ R a b
  | _ :: _, b :: _, h, 0, a, ha => ⟨b, rfl, by simp at ha; exact ha ▸ h.1⟩
  | _ :: _, _ :: _, h, i + 1, a, ha => by simpa using get h.2 i (by simpa using ha)
  | [], [], _, i, a, ha => by simp at ha
  | [], _ :: _, h, _, _, _ => h.elim
  | _ :: _, [], h, _, _, _ => h.elim
theorem getNone {l : List α} {m : List β} (h : F2 R l m) (i : Nat) (ha : l[i]? = none) : m[i]? = none := by
  rw [List.getElem?_eq_none_iff] at *
  rw [← h.length]; exact ha
theorem drop : ∀ {l : List α} {m : List β} (_ : F2 R l m) (i : Nat), F2 R (l.drop i) (m.drop i)
  | _, _, h, 0 => h
  | _ :: _, _ :: _, h, i + 1 => drop h.2 i
  | [], [], _, _ + 1 => trivial
  | [], _ :: _, h, _ => h.elim
  | _ :: _, [], h, _ => h.elim
theorem take : ∀ {l : List α} {m : List β} (_ : F2 R l m) (i : Nat), F2 R (l.take i) (m.take i)
  | _, _, _, 0 => trivial
  | _ :: _, _ :: _, h, i + 1 => ⟨h.1, take h.2 i⟩
  | [], [], _, _ + 1 => trivial
  | [], _ :: _, h, _ => h.elim
  | _ :: _, [], h, _ => h.elim
theorem map {γ δ : Type} {S : γ → δ → Prop} (f : γ → α) (g : δ → β) (hs : ∀ c d, S c d → R (f c) (g d)) : ∀ {l : List γ} {m : List δ}, F2 S l m → F2 R (l.map f) (m.map g)
  | [], [], _ => trivial
  | _ :: _, _ :: _, h => ⟨hs _ _ h.1, map f g hs h.2⟩
  | [], _ :: _, h => h.elim
  | _ :: _, [], h => h.elim
theorem of_map {γ : Type} (f : γ → α) (g : γ → β) : ∀ {l : List γ} (_ : ∀ c ∈ l, R (f c) (g c)), F2 R (l.map f) (l.map g)
  | [], _ => trivial
  | c :: _, h => ⟨h c (by simp), of_map f g fun c hc => h c (by simp [hc])⟩
theorem replicate (n : Nat) {a : α} {b : β} (h : R a b) : F2 R (List.replicate n a) (List.replicate n b) := by
  induction n with
  | zero => trivial
  | succ n ih => exact ⟨h, ih⟩
theorem set : ∀ {l : List α} {m : List β} (_ : F2 R l m) (i : Nat) {a : α} {b : β}, R a b → F2 R (l.set i a) (m.set i b)
  | _ :: _, _ :: _, h, 0, _, _, hab => ⟨hab, h.2⟩
  | _ :: _, _ :: _, h, i + 1, _, _, hab => ⟨h.1, set h.2 i hab⟩
  | [], [], _, _, _, _, _ => trivial
  | [], _ :: _, h, _, _, _, _ => h.elim
  | _ :: _, [], h, _, _, _, _ => h.elim
theorem exists_of_forall {l : List α} (h : ∀ a ∈ l, ∃ b, R a b) : ∃ m, F2 R l m := by
  induction l with
  | nil => exact ⟨[], trivial⟩
  | cons a l ih =>
    obtain ⟨b, hb⟩ := h a (by simp)
    obtain ⟨m, hm⟩ := ih fun c hc => h c (by simp [hc])
    exact ⟨b :: m, hb, hm⟩
end F2

/-! ### Values -/
def inK (k : IntKind) (n : Int) : Prop := kmin k ≤ n ∧ n ≤ kmax k
theorem kmin_eq (k : IntKind) : kmin k = k.min := by cases k <;> rfl
theorem kmax_eq (k : IntKind) : kmax k = k.max := by cases k <;> rfl
theorem wrap_inK (k : IntKind) (n : Int) : inK k (k.wrap n) := by
  unfold inK IntKind.wrap
  cases k <;> simp only [IntKind.bits, IntKind.signed, kmin, kmax] <;> (try simp) <;> (try split) <;> omega
def CK.fits : CK → Int → Prop
  | .int k, n => inK k n
  | .bool, n => n = 0 ∨ n = 1
  | .nils, _ => True
/-- Where an object lies: its block, where it begins there, how great a row of it is, how many rows there are room for. -/
structure Pl where
  blk : Nat
  off0 : Nat
  sz : Nat
  rows : Nat
abbrev Rho := Nat → Option Pl

def RP (ρ : Rho) (q : Nat × Nat) (v : Value) : Prop := ∃ p, ρ q.1 = some p ∧ v = .pointer (some ⟨p.blk, q.2, none⟩)
/-- A table slice's real capacity. -/
def tsCap (p : Pl) (r : SN) (cap : Option SN) : Nat := match cap with
  | some c => c.val
  | none => p.rows - r.val
/-- What a virtual value of one cell says of a value. -/
def RV (ρ : Rho) : VV → Value → Prop
  | .int k n, v => v = .int k n.val ∧ inK k n.val
  | .bool b, v => v = .bool b.val
  | .ptr b off, v => RP ρ (b, off) v
  | .nilp, v => v = .pointer none
  | .tptr b r c, v => ∃ p, ρ b = some p ∧ v = .pointer (some ⟨p.blk, p.off0 + r.val * p.sz + c, none⟩)
  | .sl b off len cap, v => ∃ p, ρ b = some p ∧ v = .slice (some ⟨p.blk, off, none⟩) len cap
  | .ts b r len cap, v => ∃ p, ρ b = some p ∧ len.val ≤ 9223372036854775807 ∧ len.val ≤ tsCap p r cap ∧ v = .slice (some ⟨p.blk, p.off0 + r.val * p.sz, none⟩) len.val (tsCap p r cap)
  | .nils, v => v = .slice none 0 0
  | .es f, v => ∃ a c, v = .slice (some a) 0 c ∧ (f = true → c = 0)
  | .an b len, v => ∃ o cap, v = .slice o len.val cap ∧ len.val ≤ 9223372036854775807 ∧ (o = none → len.val = 0 ∧ cap = 0) ∧ (0 < len.val → ∃ p, ρ b = some p ∧ o = some ⟨p.blk, p.off0, none⟩)
  | .fn f a c, v => ∃ va vc, F2 (RP ρ) a va ∧ F2 (RP ρ) c vc ∧ v = .func (.func f) va.toArray vc.toArray
  | .nilf, v => v = .nilFunc
  | .any, v => ∃ r, v = .map r
  | .raw x, v => v = x ∧ x.oneCell' = true
def R1 (ρ : Rho) : S1 → Value → Prop
  | .one x, v => RV ρ x v
  | .agg l, v => ∃ cs : List Value, v = .agg cs.toArray ∧ F2 (RV ρ) l cs
def RS (ρ : Rho) : SV → Value → Prop
  | .s x, v => R1 ρ x v
  | .t l, v => ∃ vs : List Value, v = .tuple vs.toArray ∧ F2 (R1 ρ) l vs

def Rho.le (ρ ρ' : Rho) : Prop := ∀ b p, ρ b = some p → ρ' b = some p
theorem Rho.le_refl (ρ : Rho) : ρ.le ρ := fun _ _ h => h
theorem Rho.le_trans {a b c : Rho} (h : a.le b) (k : b.le c) : a.le c := fun x p hp => k x p (h x p hp)

theorem RP.mono {ρ ρ' : Rho} (h : ρ.le ρ') {q : Nat × Nat} {v : Value} : RP ρ q v → RP ρ' q v
  | ⟨p, hp, hv⟩ => ⟨p, h _ _ hp, hv⟩
theorem RV.mono {ρ ρ' : Rho} (h : ρ.le ρ') : ∀ {x : VV} {v : Value}, RV ρ x v → RV ρ' x v
  | .int _ _, _, hv => hv
  | .bool _, _, hv => hv
  | .ptr _ _, _, hv => RP.mono h hv
  | .nilp, _, hv => hv
  | .tptr _ _ _, _, ⟨p, hp, hv⟩ => ⟨p, h _ _ hp, hv⟩
  | .sl _ _ _ _, _, ⟨p, hp, hv⟩ => ⟨p, h _ _ hp, hv⟩
  | .ts _ _ _ _, _, ⟨p, hp, hl, hc, hv⟩ => ⟨p, h _ _ hp, hl, hc, hv⟩
  | .nils, _, hv => hv
  | .es _, _, hv => hv
  | .an _ _, _, ⟨o, cap, h1, h2, h3, h4⟩ => ⟨o, cap, h1, h2, h3, fun hl => by obtain ⟨p, hp, ho⟩ := h4 hl; exact ⟨p, h _ _ hp, ho⟩⟩
  | .fn _ _ _, _, ⟨va, vc, ha, hc, hv⟩ => ⟨va, vc, ha.mono fun _ _ => RP.mono h, hc.mono fun _ _ => RP.mono h, hv⟩
  | .nilf, _, hv => hv
  | .any, _, hv => hv
  | .raw _, _, hv => hv
theorem R1.mono {ρ ρ' : Rho} (h : ρ.le ρ') : ∀ {x : S1} {v : Value}, R1 ρ x v → R1 ρ' x v
  | .one _, _, hv => RV.mono h hv
  | .agg _, _, ⟨cs, hv, hl⟩ => ⟨cs, hv, hl.mono fun _ _ => RV.mono h⟩
theorem RS.mono {ρ ρ' : Rho} (h : ρ.le ρ') : ∀ {x : SV} {v : Value}, RS ρ x v → RS ρ' x v
  | .s _, _, hv => R1.mono h hv
  | .t _, _, ⟨vs, hv, hl⟩ => ⟨vs, hv, hl.mono fun _ _ => R1.mono h⟩

theorem RV.one {ρ : Rho} : ∀ {x : VV} {v : Value}, RV ρ x v → v.oneCell' = true
  | .int _ _, _, ⟨h, _⟩ => by subst h; rfl
  | .bool _, _, h => by subst h; rfl
  | .ptr _ _, _, ⟨_, _, h⟩ => by subst h; rfl
  | .nilp, _, h => by subst h; rfl
  | .tptr _ _ _, _, ⟨_, _, h⟩ => by subst h; rfl
  | .sl _ _ _ _, _, ⟨_, _, h⟩ => by subst h; rfl
  | .ts _ _ _ _, _, ⟨_, _, _, _, h⟩ => by subst h; rfl
  | .nils, _, h => by subst h; rfl
  | .es _, _, ⟨_, _, h, _⟩ => by subst h; rfl
  | .an _ _, _, ⟨_, _, h, _⟩ => by subst h; rfl
  | .fn _ _ _, _, ⟨_, _, _, _, h⟩ => by subst h; rfl
  | .nilf, _, h => by subst h; rfl
  | .any, _, ⟨_, h⟩ => by subst h; rfl
  | .raw _, _, ⟨h, h'⟩ => by subst h; exact h'
theorem one_cells {v : Value} (h : v.oneCell' = true) : v.cells = #[v] := by
  cases v <;> first | rfl | (simp [Value.oneCell'] at h)
theorem R1.cells {ρ : Rho} : ∀ {x : S1} {v : Value}, R1 ρ x v → F2 (RV ρ) x.cells v.cells.toList
  | .one x, v, h => by
    rw [one_cells (RV.one h)]
    exact ⟨h, trivial⟩
  | .agg l, v, ⟨cs, hv, hl⟩ => by subst hv; exact hl

/-! ### Objects -/
/-- What the abstract objects are: what each says of the world, in blocks of its own. -/
structure Sys (A : Type) where
  holds : A → Nat → (Nat → Prop) → World → Prop
  frame : ∀ {a : A} {k : Nat} {F : Nat → Prop} {w w' : World}, (∀ x, F x → w'.heap[x]? = w.heap[x]?) → holds a k F w → holds a k F w'

section
variable {A : Type} (S : Sys A)

/-- The cells of a table, and how they lie. -/
def TabCells (ks : List CK) (xs : List (List Int)) (p : Pl) (arr : Array Value) : Prop :=
  p.sz = ks.length ∧ xs.length ≤ p.rows ∧ p.off0 + p.rows * p.sz ≤ arr.size ∧
  ∀ i r, xs[i]? = some r → ∀ j k, ks[j]? = some k → ∃ n, r[j]? = some n ∧ k.fits n ∧ arr[p.off0 + i * p.sz + j]? = some (k.real n)

/-- What an object says of the world: 'F' are its own blocks; what is below 'B' is nobody's to write. -/
def OK (B : Nat) (ρ : Rho) (F : Nat → Prop) (b : Nat) (o : VObj A) (w : World) : Prop :=
  match o with
  | .cells l ty => ∃ p arr, ρ b = some p ∧ (∀ x, F x ↔ x = p.blk) ∧ w.heap[p.blk]? = some (.cells arr ty (0, 0)) ∧ F2 (RV ρ) l arr.toList
  | .tab ks xs ty => ∃ p arr, ρ b = some p ∧ p.off0 = 0 ∧ (∀ x, F x ↔ x = p.blk) ∧ w.heap[p.blk]? = some (.cells arr ty (0, 0)) ∧ arr.size = p.rows * p.sz ∧ TabCells ks xs p arr
  | .rotab ks xs => ∃ p, ρ b = some p ∧ (∀ x, ¬F x) ∧ p.sz = ks.length ∧ (xs ≠ [] → ∃ arr ty fr, p.blk < B ∧ w.heap[p.blk]? = some (.cells arr ty fr) ∧ TabCells ks xs p arr)
  | .abs a => ∃ p, ρ b = some p ∧ S.holds a p.blk F w

abbrev Fm := Nat → Nat → Prop

theorem OK.frame {B : Nat} {ρ ρ' : Rho} {F F' : Nat → Prop} {b : Nat} {o : VObj A} {w w' : World} (hr : ρ.le ρ') (hF : F' = F)
    (hk : ∀ x, F x → w'.heap[x]? = w.heap[x]?) (hB : ∀ x, x < B → w'.heap[x]? = w.heap[x]?) (h : OK S B ρ F b o w) : OK S B ρ' F' b o w' := by
  subst hF
  cases o with
  | cells l ty =>
    obtain ⟨p, arr, hp, hf, hw, hl⟩ := h
    exact ⟨p, arr, hr _ _ hp, hf, by rw [hk _ ((hf _).2 rfl)]; exact hw, hl.mono fun _ _ => RV.mono hr⟩
  | tab ks xs ty =>
    obtain ⟨p, arr, hp, h0, hf, hw, hs, ht⟩ := h
    exact ⟨p, arr, hr _ _ hp, h0, hf, by rw [hk _ ((hf _).2 rfl)]; exact hw, hs, ht⟩
  | rotab ks xs =>
    obtain ⟨p, hp, hf, hs, ht⟩ := h
    refine ⟨p, hr _ _ hp, hf, hs, fun hne => ?_⟩
    obtain ⟨arr, ty, fr, hlt, hw, ht⟩ := ht hne
    exact ⟨arr, ty, fr, hlt, by rw [hB _ hlt]; exact hw, ht⟩
  | abs a =>
    obtain ⟨p, hp, hh⟩ := h
    exact ⟨p, hr _ _ hp, S.frame hk hh⟩

/-! ### Heaps -/
/-- A virtual heap (as a function) says of the world. 'Z': names that are not given yet. -/
structure HR (B : Nat) (Z : Nat → Prop) (ρ : Rho) (F : Fm) (H : Nat → Option (VObj A)) (w : World) : Prop where
  live : ∀ b o, H b = some o → OK S B ρ (F b) b o w
  dead : ∀ b, H b = none → ∀ x, ¬F b x
  bound : ∀ b x, F b x → B ≤ x ∧ x < w.heap.size
  disj : ∀ b c x, F b x → F c x → b = c
  fresh : ∀ b, Z b → ρ b = none
  base : B ≤ w.heap.size

/-- Two worlds that part in their heaps and draws alone; none of the blocks that were there is gone. -/
structure Same (w w' : World) : Prop where
  os : w'.os = w.os
  tape : w'.tape = w.tape
  output : w'.output = w.output
  size : w.heap.size ≤ w'.heap.size
theorem Same.refl (w : World) : Same w w := ⟨rfl, rfl, rfl, Nat.le_refl _⟩
theorem Same.trans {a b c : World} (h : Same a b) (k : Same b c) : Same a c := ⟨k.os.trans h.os, k.tape.trans h.tape, k.output.trans h.output, Nat.le_trans h.size k.size⟩

/-- What became of the world, where the objects 'D' alone were written or made. -/
structure Chg (D : Nat → Prop) (ρ : Rho) (F : Fm) (w : World) (ρ' : Rho) (F' : Fm) (w' : World) : Prop where
  rho : ρ.le ρ'
  keep : ∀ b, ¬D b → F' b = F b
  own : ∀ b x, D b → F' b x → w.heap.size ≤ x ∨ ∃ c, D c ∧ F c x
  same : Same w w'
  heap : ∀ k, k < w.heap.size → (∀ c, D c → ¬F c k) → w'.heap[k]? = w.heap[k]?

theorem Chg.refl (D : Nat → Prop) (ρ : Rho) (F : Fm) (w : World) : Chg D ρ F w ρ F w :=
  ⟨Rho.le_refl ρ, fun _ _ => rfl, fun b _ hd hx => .inr ⟨b, hd, hx⟩, Same.refl w, fun _ _ _ => rfl⟩
theorem Chg.mono {D D' : Nat → Prop} {ρ ρ' : Rho} {F F' : Fm} {w w' : World} (hD : ∀ b, D b → D' b) (h : Chg D ρ F w ρ' F' w') : Chg D' ρ F w ρ' F' w' where
  rho := h.rho
  keep := fun b hb => h.keep b fun hd => hb (hD b hd)
  own := fun b x hb hx => by
    by_cases hd : D b
    · exact (h.own b x hd hx).imp id fun ⟨c, hc, hcx⟩ => ⟨c, hD c hc, hcx⟩
    · rw [h.keep b hd] at hx
      exact .inr ⟨b, hb, hx⟩
  same := h.same
  heap := fun k hk hc => h.heap k hk fun c hd => hc c (hD c hd)
theorem Chg.trans {D : Nat → Prop} {ρ ρ' ρ'' : Rho} {F F' F'' : Fm} {w w' w'' : World} (h : Chg D ρ F w ρ' F' w') (k : Chg D ρ' F' w' ρ'' F'' w'') : Chg D ρ F w ρ'' F'' w'' where
  rho := Rho.le_trans h.rho k.rho
  keep := fun b hb => (k.keep b hb).trans (h.keep b hb)
  own := fun b x hb hx => by
    rcases k.own b x hb hx with h1 | ⟨c, hc, hcx⟩
    · exact .inl (Nat.le_trans h.same.size h1)
    · exact h.own c x hc hcx
  same := h.same.trans k.same
  heap := fun j hj hc => by
    rw [k.heap j (Nat.lt_of_lt_of_le hj h.same.size) fun c hd hx => ?_, h.heap j hj hc]
    rcases h.own c j hd hx with h1 | ⟨d, hd', hx'⟩
    · exact absurd hj (Nat.not_lt.2 h1)
    · exact hc d hd' hx'

/-- The names that are left. -/
def Zm (Z : Nat → Prop) (m n : Nat) : Nat → Prop := fun b => Z b ∧ ¬(m ≤ b ∧ b < n)
theorem Zm_self (Z : Nat → Prop) (n : Nat) : Zm Z n n = Z := by
  funext b
  apply propext
  constructor
  · exact fun h => h.1
  · exact fun h => ⟨h, by omega⟩
theorem Zm_trans (Z : Nat → Prop) {a b c : Nat} (h : a ≤ b) (k : b ≤ c) : Zm (Zm Z a b) b c = Zm Z a c := by
  funext x
  apply propext
  constructor
  · rintro ⟨⟨h1, h2⟩, h3⟩
    exact ⟨h1, by omega⟩
  · rintro ⟨h1, h2⟩
    exact ⟨⟨h1, by omega⟩, by omega⟩

variable {S}
theorem HR.mono {B : Nat} {Z Z' : Nat → Prop} {ρ : Rho} {F : Fm} {H : Nat → Option (VObj A)} {w : World} (hz : ∀ b, Z' b → Z b) (h : HR S B Z ρ F H w) : HR S B Z' ρ F H w :=
  ⟨h.live, h.dead, h.bound, h.disj, fun b hb => h.fresh b (hz b hb), h.base⟩

/-- How a heap lives on behind a step that wrote or made the objects D. -/
theorem HR.step {B : Nat} {Z Z' : Nat → Prop} {D : Nat → Prop} {ρ ρ' : Rho} {F F' : Fm} {H H' : Nat → Option (VObj A)} {w w' : World}
    (h : HR S B Z ρ F H w) (c : Chg D ρ F w ρ' F' w') (hH : ∀ b, ¬D b → H' b = H b)
    (live : ∀ b o, D b → H' b = some o → OK S B ρ' (F' b) b o w')
    (dead : ∀ b, D b → H' b = none → ∀ x, ¬F' b x)
    (bound : ∀ b x, D b → F' b x → x < w'.heap.size)
    (disj : ∀ b c x, D b → D c → F' b x → F' c x → b = c)
    (fresh : ∀ b, Z' b → ρ' b = none) : HR S B Z' ρ' F' H' w' := by
  have away : ∀ b x, ¬D b → F b x → x < w.heap.size ∧ ∀ d, D d → ¬F d x := fun b x hb hx =>
    ⟨(h.bound b x hx).2, fun d hd hdx => hb (by rw [h.disj b d x hx hdx]; exact hd)⟩
  have low : ∀ x, x < B → w'.heap[x]? = w.heap[x]? := fun x hx =>
    c.heap x (Nat.lt_of_lt_of_le hx h.base) fun d _ hdx => by have := (h.bound d x hdx).1; omega
  have bnd : ∀ b x, F' b x → B ≤ x ∧ x < w'.heap.size := fun b x hx => by
    by_cases hb : D b
    · refine ⟨?_, bound b x hb hx⟩
      rcases c.own b x hb hx with h1 | ⟨d, _, hdx⟩
      · exact Nat.le_trans h.base h1
      · exact (h.bound d x hdx).1
    · rw [c.keep b hb] at hx
      have := h.bound b x hx
      exact ⟨this.1, Nat.lt_of_lt_of_le this.2 c.same.size⟩
  have cross : ∀ b d x, D b → ¬D d → F' b x → F' d x → False := fun b d x hb hd hbx hdx => by
    rw [c.keep d hd] at hdx
    obtain ⟨h1, h2⟩ := away d x hd hdx
    rcases c.own b x hb hbx with h3 | ⟨e, he, hex⟩
    · omega
    · exact h2 e he hex
  refine ⟨fun b o ho => ?_, fun b hn x hx => ?_, bnd, fun b d x hb hd => ?_, fresh, Nat.le_trans h.base c.same.size⟩
  · by_cases hb : D b
    · exact live b o hb ho
    · rw [hH b hb] at ho
      exact (h.live b o ho).frame S c.rho (c.keep b hb) (fun x hx => c.heap x (away b x hb hx).1 (away b x hb hx).2) low
  · by_cases hb : D b
    · exact dead b hb hn x hx
    · rw [hH b hb] at hn
      rw [c.keep b hb] at hx
      exact h.dead b hn x hx
  · by_cases hb' : D b
    · by_cases hd' : D d
      · exact disj b d x hb' hd' hb hd
      · exact (cross b d x hb' hd' hb hd).elim
    · by_cases hd' : D d
      · exact (cross d b x hd' hb' hd hb).elim
      · rw [c.keep b hb'] at hb
        rw [c.keep d hd'] at hd
        exact h.disj b d x hb hd
end

/-! ### Lists of names -/
theorem memN_iff (n : Nat) (l : List Nat) : memN n l = true ↔ n ∈ l := by
  induction l with
  | nil => simp [memN]
  | cons m r ih =>
    unfold memN
    cases h : Nat.beq m n with
    | true => simp [Nat.eq_of_beq_eq_true h]
    | false =>
      have : m ≠ n := Nat.ne_of_beq_eq_false h
      simp [ih, Ne.symm this]
theorem mem_addN {l : List Nat} {n m : Nat} : m ∈ addN l n ↔ m ∈ l ∨ m = n := by
  unfold addN
  cases h : memN n l with
  | true =>
    rw [memN_iff] at h
    constructor
    · exact .inl
    · rintro (h1 | rfl)
      · exact h1
      · exact h
  | false => simp
theorem mem_addAll {l r : List Nat} {m : Nat} : m ∈ addAll l r ↔ m ∈ l ∨ m ∈ r := by
  induction r generalizing l with
  | nil => simp [addAll]
  | cons n r ih => rw [addAll, ih, mem_addN]; simp [or_assoc]

section
variable {A : Type}
theorem hget_hset (hp : HP A) (b c : Nat) (o : VObj A) : hget (hset hp b o) c = if c = b then some o else hget hp c := by
  induction hp with
  | nil =>
    simp only [hset, hget]
    cases h : Nat.beq b c with
    | true => rw [if_pos (Nat.eq_of_beq_eq_true h).symm]
    | false => rw [if_neg (Ne.symm (Nat.ne_of_beq_eq_false h))]
  | cons q r ih =>
    obtain ⟨k, p⟩ := q
    simp only [hset]
    cases h : Nat.beq k b with
    | true =>
      obtain rfl := Nat.eq_of_beq_eq_true h
      simp only [hget]
      cases h' : Nat.beq k c with
      | true => rw [if_pos (Nat.eq_of_beq_eq_true h').symm]
      | false => rw [if_neg (Ne.symm (Nat.ne_of_beq_eq_false h'))]
    | false =>
      have hne : k ≠ b := Nat.ne_of_beq_eq_false h
      simp only [hget]
      cases h' : Nat.beq k c with
      | true =>
        obtain rfl := Nat.eq_of_beq_eq_true h'
        rw [if_neg hne]
      | false => exact ih
theorem hget_hdel (hp : HP A) (b c : Nat) : hget (hdel hp b) c = if c = b then none else hget hp c := by
  induction hp with
  | nil => simp [hdel, hget]
  | cons q r ih =>
    obtain ⟨k, p⟩ := q
    simp only [hdel]
    cases h : Nat.beq k b with
    | true =>
      obtain rfl := Nat.eq_of_beq_eq_true h
      simp only [hget]
      cases h' : Nat.beq k c with
      | true =>
        obtain rfl := Nat.eq_of_beq_eq_true h'
        rw [if_pos rfl, ih, if_pos rfl]
      | false =>
        rw [if_neg (Ne.symm (Nat.ne_of_beq_eq_false h')), ih, if_neg (Ne.symm (Nat.ne_of_beq_eq_false h'))]
    | false =>
      have hne : k ≠ b := Nat.ne_of_beq_eq_false h
      simp only [hget]
      cases h' : Nat.beq k c with
      | true =>
        obtain rfl := Nat.eq_of_beq_eq_true h'
        rw [if_neg hne]
      | false => exact ih
theorem hget_hput (hp : HP A) (b c : Nat) (o : Option (VObj A)) : hget (hput hp b o) c = if c = b then o else hget hp c := by
  cases o with
  | some o => exact hget_hset hp b c o
  | none => exact hget_hdel hp b c
/-- A function, turned at a row of names. -/
def over (H : Nat → Option (VObj A)) : HP A → Nat → Option (VObj A)
  | [] => H
  | (b, o) :: r => over (fun c => if c = b then o else H c) r
theorem hget_hputs (asg : HP A) (hp : HP A) : hget (hputs hp asg) = over (hget hp) asg := by
  induction asg generalizing hp with
  | nil => rfl
  | cons q r ih =>
    obtain ⟨b, o⟩ := q
    simp only [hputs, over]
    rw [ih]
    congr 1
    funext c
    exact hget_hput hp b c o
theorem over_out {asg : HP A} {H : Nat → Option (VObj A)} {b : Nat} (h : b ∉ asg.map (·.1)) : over H asg b = H b := by
  induction asg generalizing H with
  | nil => rfl
  | cons q r ih =>
    obtain ⟨c, o⟩ := q
    simp only [List.map_cons, List.mem_cons, not_or] at h
    simp only [over]
    rw [ih h.2, if_neg h.1]
theorem over_in {asg : HP A} {H H' : Nat → Option (VObj A)} {b : Nat} (h : b ∈ asg.map (·.1)) : over H asg b = over H' asg b := by
  induction asg generalizing H H' with
  | nil => simp at h
  | cons q r ih =>
    obtain ⟨c, o⟩ := q
    simp only [over]
    by_cases hr : b ∈ r.map (·.1)
    · exact ih hr
    · rw [over_out hr, over_out hr]
      simp only [List.map_cons, List.mem_cons, hr, or_false] at h
      simp [h]
end
end Go.Proofs.Ytcolladpdmjloaa.Eng

/-
  The engine, part C: an operation of the virtual machine follows the model's operation.
-/
namespace Go.Proofs.Ytcolladpdmjloaa.Eng
open Go

/-! ### Trees -/
namespace Tr
variable {α β : Type}
theorem run_bind {t : Tr α} {f : α → Tr β} {r : β} : (t.bind f).run = some r ↔ ∃ a, t.run = some a ∧ (f a).run = some r := by
  induction t with
  | ok a => simp [bind, run]
  | ite c t e iht ihe => cases c <;> simp [bind, run, iht, ihe]
  | no s => simp [bind, run]
theorem run_chk {b : Bool} {s : String} {x : Tr α} {r : α} : (chk b s x).run = some r ↔ b = true ∧ x.run = some r := by
  cases b <;> simp [chk, run]
theorem run_opt {s : String} {o : Option α} {f : α → Tr β} {r : β} : (opt s o f).run = some r ↔ ∃ a, o = some a ∧ (f a).run = some r := by
  cases o <;> simp [opt, run]
theorem run_test {b : SB} {t e : Tr α} {r : α} : (test b t e).run = some r ↔ (b.val = true ∧ t.run = some r) ∨ (b.val = false ∧ e.run = some r) := by
  cases b with
  | lit b => cases b <;> simp [test, SB.val]
  | sym b => cases b <;> simp [test, SB.val, run]
theorem run_ok {a r : α} : (ok a).run = some r ↔ a = r := by simp [run]
theorem run_no {s : String} {r : α} : (no s : Tr α).run = some r ↔ False := by simp [run]
theorem run_ite {c : Bool} {t e : Tr α} {r : α} : (ite c t e).run = some r ↔ (c = true ∧ t.run = some r) ∨ (c = false ∧ e.run = some r) := by
  cases c <;> simp [run]
theorem all_iff {Q : α → Prop} {t : Tr α} : t.All Q ↔ ∃ a, t.run = some a ∧ Q a := by
  induction t with
  | ok a => simp [All, run]
  | ite c t e iht ihe => cases c <;> simp [All, run, iht, ihe]
  | no s => simp [All, run]
end Tr

theorem val_op2 (f : Int → Int → Int) (x y : SI) : (SI.op2 f x y).val = f x.val y.val := by cases x <;> cases y <;> rfl
theorem val_op1 (f : Int → Int) (x : SI) : (SI.op1 f x).val = f x.val := by cases x <;> rfl
theorem val_cmp (f : Int → Int → Bool) (x y : SI) : (SI.cmp f x y).val = f x.val y.val := by cases x <;> cases y <;> rfl
theorem val_not (x : SB) : x.not.val = !x.val := by cases x <;> rfl
theorem val_and (x y : SB) : (x.and y).val = (x.val && y.val) := by
  cases x with
  | lit a => cases a <;> simp [SB.and, SB.val]
  | sym a => cases y with
    | lit b => cases b <;> simp [SB.and, SB.val]
    | sym b => rfl
theorem val_eq (x y : SB) : (SB.eq x y).val = (x.val == y.val) := by cases x <;> cases y <;> rfl

/-! ### Runs -/
section
variable {P : Program} {w : World}
theorem run_andThen_ok {α β : Type} {x : Sem α} {f : α → Sem β} {a : α} {w w' : World} (h : x.run P w = .ok a w') : (x >>= f).run P w = (f a).run P w' := by
  simp [h]
theorem run_sizeOf_k {t : TypeId} (h : known P t = true) : (sizeOf t).run P w = .ok (P.cellsOf t) w := by
  unfold known at h
  obtain ⟨i, hi⟩ := Option.isSome_iff_exists.1 h
  exact run_sizeOf w hi
theorem known_of_underlying {t : TypeId} {d : TypeDesc} (h : P.underlying t = some d) : known P t = true := by
  unfold Program.underlying at h
  unfold known
  cases hi : P.info? t with
  | none => simp [hi] at h
  | some i => rfl
theorem aggK_underlying {t : TypeId} {b : Bool} (h : aggK P t = some b) : ∃ d, P.underlying t = some d := by
  unfold aggK at h
  cases hd : P.underlying t with
  | none => simp [hd] at h
  | some d => exact ⟨d, rfl⟩
theorem run_isAgg_k {t : TypeId} {b : Bool} (h : aggK P t = some b) : (isAgg t).run P w = .ok b w := by
  unfold aggK at h
  cases hd : P.underlying t with
  | none => simp [hd] at h
  | some d =>
    unfold isAgg
    rw [run_andThen_ok (run_underlying hd w)]
    simp only [hd] at h
    cases d <;> simp at h <;> subst h <;> rfl

/-- A row of cells, all of which are known, is loaded. -/
theorem run_loadVar_agg {t : TypeId} {a : Addr} {cs : List Value} (hk : aggK P t = some true) (hn : cs.length = P.cellsOf t)
    (h : ∀ j v, cs[j]? = some v → w.cell? (a.add j) = some v) : (loadVar t a).run P w = .ok (.agg cs.toArray) w := by
  obtain ⟨d, hd⟩ := aggK_underlying hk
  unfold loadVar
  rw [run_andThen_ok (run_isAgg_k hk)]
  simp only [if_true]
  rw [run_andThen_ok (run_sizeOf_k (known_of_underlying hd)), ← hn]
  have := run_loadCells_list (P := P) w a cs h
  rw [run_andThen_ok this]
  rfl
theorem run_loadVar_one {t : TypeId} {a : Addr} {v : Value} (hk : aggK P t = some false) (h : w.cell? a = some v) : (loadVar t a).run P w = .ok v w := by
  unfold loadVar
  rw [run_andThen_ok (run_isAgg_k hk)]
  simp [h]

/-- The world with one block turned. -/
def setBlk (w : World) (k : Nat) (o : Obj) : World := { w with heap := w.heap.setIfInBounds k o }
theorem setBlk_same (w : World) (k : Nat) (o : Obj) : Same w (setBlk w k o) := ⟨rfl, rfl, rfl, by simp [setBlk]⟩
theorem setBlk_get (w : World) (k x : Nat) (o : Obj) (hk : k < w.heap.size) : (setBlk w k o).heap[x]? = if x = k then some o else w.heap[x]? := by
  simp only [setBlk, Array.getElem?_setIfInBounds]
  by_cases h : k = x
  · subst h; simp [hk]
  · simp [h, Ne.symm h]
theorem setCell_blk {arr : Array Value} {ty : TypeId} {fr : Nat × Nat} {k off : Nat} {v : Value} (h : w.heap[k]? = some (.cells arr ty fr)) :
    w.setCell ⟨k, off, none⟩ v = setBlk w k (.cells (arr.setIfInBounds off v) ty fr) := by
  have hk : k < w.heap.size := by
    rcases Nat.lt_or_ge k w.heap.size with h1 | h1
    · exact h1
    · simp [Array.getElem?_eq_none h1] at h
  unfold World.setCell setBlk
  congr 1
  apply Array.ext_getElem?
  intro x
  simp only [Array.getElem?_modify, Array.getElem?_setIfInBounds]
  by_cases hx : k = x
  · subst hx
    rw [if_pos rfl, if_pos rfl, if_pos hk, h]
    rfl
  · simp [hx]

theorem splice0_length {α : Type} : ∀ (l vs : List α), (splice0 l vs).length = l.length
  | l, [] => by cases l <;> rfl
  | _ :: l, _ :: vs => by simp [splice0, splice0_length l vs]
  | [], _ :: _ => rfl
theorem splice_length {α : Type} : ∀ (l : List α) (off : Nat) (vs : List α), (splice l off vs).length = l.length
  | l, 0, vs => by cases l <;> exact splice0_length _ vs
  | x :: l, n + 1, vs => by simp [splice, splice_length l n vs]
  | [], _ + 1, _ => rfl
theorem splice0_get {α : Type} : ∀ (l vs : List α) (i : Nat), vs.length ≤ l.length → (splice0 l vs)[i]? = if i < vs.length then vs[i]? else l[i]?
  | l, [], i, _ => by cases l <;> simp [splice0]
  | x :: l, v :: vs, 0, _ => by simp [splice0]
  | x :: l, v :: vs, i + 1, h => by
    simp only [splice0, List.getElem?_cons_succ, List.length_cons] at h ⊢
    rw [splice0_get l vs i (by omega)]
    by_cases hi : i < vs.length
    · rw [if_pos hi, if_pos (by omega)]
    · rw [if_neg hi, if_neg (by omega)]
  | [], _ :: _, _, h => by simp at h
theorem splice_get {α : Type} : ∀ (l : List α) (off : Nat) (vs : List α) (i : Nat), off + vs.length ≤ l.length → (splice l off vs)[i]? = if off ≤ i ∧ i < off + vs.length then vs[i - off]? else l[i]?
  | l, 0, vs, i, h => by
    have : splice l 0 vs = splice0 l vs := by cases l <;> rfl
    rw [this, splice0_get l vs i (by omega)]
    by_cases hi : i < vs.length
    · rw [if_pos hi, if_pos ⟨by omega, by omega⟩]
      rfl
    · rw [if_neg hi, if_neg (by omega)]
  | x :: l, n + 1, vs, 0, h => by
    rw [if_neg (by omega)]
    rfl
  | x :: l, n + 1, vs, i + 1, h => by
    simp only [splice, List.getElem?_cons_succ]
    rw [splice_get l n vs i (by simp at h; omega)]
    by_cases hi : n ≤ i ∧ i < n + vs.length
    · rw [if_pos hi, if_pos (by omega)]
      congr 1
      omega
    · rw [if_neg hi, if_neg (by omega)]
  | [], n + 1, vs, i, h => by simp at h
theorem splice_nil {α : Type} : ∀ (l : List α) (off : Nat), splice l off [] = l
  | l, 0 => by cases l <;> rfl
  | x :: l, n + 1 => by simp [splice, splice_nil l n]
  | [], _ + 1 => rfl
theorem splice_cons {α : Type} : ∀ (l : List α) (off : Nat) (v : α) (vs : List α), splice l off (v :: vs) = splice (l.set off v) (off + 1) vs
  | x :: l, 0, v, vs => by simp [splice, splice0]
  | [], 0, v, vs => by simp [splice, splice0]
  | x :: l, n + 1, v, vs => by simp [splice, splice_cons l n v vs]
  | [], n + 1, v, vs => by simp [splice]
theorem F2.splice0 {α β : Type} {R : α → β → Prop} : ∀ {l : List α} {m : List β} {vs : List α} {us : List β}, F2 R l m → F2 R vs us → F2 R (Eng.splice0 l vs) (Eng.splice0 m us)
  | _ :: _, _ :: _, _ :: _, _ :: _, h, k => ⟨k.1, F2.splice0 h.2 k.2⟩
  | [], [], [], [], h, _ => h
  | _ :: _, _ :: _, [], [], h, _ => h
  | [], [], _ :: _, _ :: _, _, _ => trivial
  | [], _ :: _, _, _, h, _ => h.elim
  | _ :: _, [], _, _, h, _ => h.elim
  | _, _, [], _ :: _, _, h => h.elim
  | _, _, _ :: _, [], _, h => h.elim
theorem F2.splice {α β : Type} {R : α → β → Prop} : ∀ {l : List α} {m : List β} {vs : List α} {us : List β} (off : Nat), F2 R l m → F2 R vs us → F2 R (Eng.splice l off vs) (Eng.splice m off us)
  | [], [], _, _, 0, h, k => F2.splice0 h k
  | _ :: _, _ :: _, _, _, 0, h, k => F2.splice0 h k
  | _ :: _, _ :: _, _, _, n + 1, h, k => ⟨h.1, F2.splice n h.2 k⟩
  | [], [], _, _, _ + 1, _, _ => trivial
  | [], _ :: _, _, _, _, h, _ => h.elim
  | _ :: _, [], _, _, _, h, _ => h.elim

theorem run_storeCells {ty : TypeId} {k off : Nat} : ∀ (vs : List Value) (i : Nat) (w : World) (arr : Array Value), w.heap[k]? = some (.cells arr ty (0, 0)) →
    off + i + vs.length ≤ arr.size → (∀ v ∈ vs, v.oneCell' = true) →
    (storeCells ⟨k, off, none⟩ vs i).run P w = .ok () (if vs = [] then w else setBlk w k (.cells (splice arr.toList (off + i) vs).toArray ty (0, 0)))
  | [], i, w, arr, _, _, _ => by simp [storeCells]
  | v :: vs, i, w, arr, h, hn, hv => by
    have hk : k < w.heap.size := by
      rcases Nat.lt_or_ge k w.heap.size with h1 | h1
      · exact h1
      · simp [Array.getElem?_eq_none h1] at h
    simp only [List.length_cons] at hn
    have hadd : (Addr.add ⟨k, off, none⟩ i) = ⟨k, off + i, none⟩ := by
      unfold Addr.add
      split
      · rename_i h0; subst h0; rfl
      · rfl
    have hlt : off + i < arr.size := by omega
    have hc : w.cell? ⟨k, off + i, none⟩ = some arr[off + i] := by simp [World.cell?, h, hlt]
    have hf : w.frozen? ⟨k, off + i, none⟩ = false := by simp [World.frozen?, h]
    have hst : (store (Addr.add ⟨k, off, none⟩ i) v).run P w = .ok () (setBlk w k (.cells (arr.setIfInBounds (off + i) v) ty (0, 0))) := by
      rw [hadd, run_store P w _ v .plain (hv v (by simp)), hc]
      simp only [hf]
      rw [setCell_blk h]
      rfl
    unfold storeCells
    rw [run_andThen_ok hst]
    have hb : (setBlk w k (.cells (arr.setIfInBounds (off + i) v) ty (0, 0))).heap[k]? = some (.cells (arr.setIfInBounds (off + i) v) ty (0, 0)) := by
      rw [setBlk_get _ _ _ _ hk, if_pos rfl]
    have hsz : (setBlk w k (.cells (arr.setIfInBounds (off + i) v) ty (0, 0))).heap.size = w.heap.size := by simp [setBlk]
    rw [run_storeCells vs (i + 1) _ _ hb (by simp; omega) (fun u hu => hv u (by simp [hu]))]
    simp only [List.cons_ne_nil, if_false]
    split
    · rename_i h0
      subst h0
      rw [splice_cons, splice_nil]
      congr 3
      apply Array.ext'
      simp
    · congr 1
      unfold setBlk
      simp only [Array.setIfInBounds_setIfInBounds]
      congr 3
      rw [splice_cons]
      simp [Nat.add_assoc]
end

/-! ### What an operation comes to -/
section
variable {A : Type} (S : Sys A) {P : Program}
def Done (B : Nat) (Z : Nat → Prop) (ρ : Rho) (F : Fm) (H : Nat → Option (VObj A)) (w : World) (nid : Nat) (e : Eff A) (v : Value) (w' : World) : Prop :=
  ∃ ρ' F', RS ρ' e.val v ∧ HR S B (Zm Z nid e.nid) ρ' F' (over H e.asg) w' ∧ Chg (fun b => b ∈ e.asg.map (·.1)) ρ F w ρ' F' w'
def Lands (P : Program) (r : Result Next) (K : Value → World → Prop) : Prop :=
  match r with
  | .ok (.value v) w' => K v w'
  | .ok .skip w' => K undef w'
  | .ok (.enter f args) w' => Calls P f args w' fun e w'' => ∃ v, e = .returned v ∧ K v w''
  | _ => False

/-- What is asked of a call's evaluation. -/
def CallOK (P : Program) (call : FuncId → List SV → HP A → Nat → Tr (CR A)) : Prop :=
  ∀ f args hp nid r, (call f args hp nid).run = some r → hasBody P f = true → ∀ B Z ρ F w (vargs : List Value), HR S B Z ρ F (hget hp) w →
    (∀ b, nid ≤ b → b < r.nid → Z b) → F2 (RS ρ) args vargs →
    Calls P f vargs.toArray w fun e w' => ∃ v ρ' F', e = .returned v ∧ RS ρ' r.val v ∧ HR S B (Zm Z nid r.nid) ρ' F' (hget r.hp) w' ∧ Chg (fun b => b ∈ r.dirty) ρ F w ρ' F' w'

variable {S} {B : Nat} {Z : Nat → Prop} {ρ : Rho} {F : Fm} {H : Nat → Option (VObj A)} {w : World} {nid : Nat}

theorem done_pure {val : SV} {rd : List Nat} {v : Value} (h : HR S B Z ρ F H w) (hv : RS ρ val v) : Done S B Z ρ F H w nid ⟨val, rd, [], nid⟩ v w :=
  ⟨ρ, F, hv, by rw [Zm_self]; exact h, Chg.refl _ _ _ _⟩

/-- A new object of cells. -/
theorem done_new {val : SV} {rd : List Nat} {v : Value} {l : List VV} {cs : List Value} {ty : TypeId} (h : HR S B Z ρ F H w) (hz : Z nid) (hl : F2 (RV ρ) l cs)
    (hv : ∀ ρ' : Rho, ρ.le ρ' → ρ' nid = some ⟨w.heap.size, 0, 0, 0⟩ → RS ρ' val v) :
    Done S B Z ρ F H w nid ⟨val, rd, [(nid, some (.cells l ty))], nid + 1⟩ v (w.alloc (.cells cs.toArray ty)) := by
  have hnone : ρ nid = none := h.fresh nid hz
  let ρ' : Rho := fun b => if b = nid then some ⟨w.heap.size, 0, 0, 0⟩ else ρ b
  let F' : Fm := fun b => if b = nid then (fun x => x = w.heap.size) else F b
  have hle : ρ.le ρ' := fun b p hp => by
    have : b ≠ nid := fun e => by subst e; rw [hnone] at hp; cases hp
    simp [ρ', this, hp]
  have hnid : ρ' nid = some ⟨w.heap.size, 0, 0, 0⟩ := by simp [ρ']
  have hc : Chg (fun b => b ∈ [(nid, some (VObj.cells (A := A) l ty))].map (·.1)) ρ F w ρ' F' (w.alloc (.cells cs.toArray ty)) := by
    refine ⟨hle, fun b hb => ?_, fun b x hb hx => ?_, ⟨rfl, rfl, rfl, by simp⟩, fun k hk _ => ?_⟩
    · simp only [List.map_cons, List.map_nil, List.mem_singleton] at hb
      simp [F', hb]
    · simp only [List.map_cons, List.map_nil, List.mem_singleton] at hb
      simp only [F', hb, if_true] at hx
      exact .inl (by omega)
    · show (w.heap.push _)[k]? = _
      rw [Array.getElem?_push, if_neg (by omega)]
  refine ⟨ρ', F', hv ρ' hle hnid, ?_, hc⟩
  refine h.step hc (fun b hb => over_out hb) (fun b o hb ho => ?_) (fun b hb ho => ?_) (fun b x hb hx => ?_) (fun b c x hb hc _ _ => ?_) (fun b hb => ?_)
  · simp only [List.map_cons, List.map_nil, List.mem_singleton] at hb
    subst hb
    simp only [over, if_true, Option.some.injEq] at ho
    subst ho
    refine ⟨⟨w.heap.size, 0, 0, 0⟩, cs.toArray, hnid, fun x => by simp [F'], by show (w.heap.push _)[w.heap.size]? = _; simp, ?_⟩
    exact hl.mono fun _ _ => RV.mono hle
  · simp only [List.map_cons, List.map_nil, List.mem_singleton] at hb
    subst hb
    simp [over] at ho
  · simp only [List.map_cons, List.map_nil, List.mem_singleton] at hb
    simp only [F', hb, if_true] at hx
    subst hx
    simp
  · simp only [List.map_cons, List.map_nil, List.mem_singleton] at hb hc
    rw [hb, hc]
  · obtain ⟨h1, h2⟩ := hb
    have : b ≠ nid := by rintro rfl; exact h2 ⟨Nat.le_refl _, Nat.lt_succ_self _⟩
    simp [ρ', this, h.fresh b h1]

/-- A new block that nobody looks at. -/
theorem done_far {val : SV} {rd : List Nat} {v : Value} {ob : Obj} (h : HR S B Z ρ F H w) (hv : RS ρ val v) :
    Done S B Z ρ F H w nid ⟨val, rd, [], nid⟩ v (w.alloc ob) := by
  have hc : Chg (fun b => b ∈ ([] : List (Nat × Option (VObj A))).map (·.1)) ρ F w ρ F (w.alloc ob) := by
    refine ⟨Rho.le_refl ρ, fun _ _ => rfl, fun b x hb _ => (by cases hb), ⟨rfl, rfl, rfl, by simp⟩, fun k hk _ => ?_⟩
    show (w.heap.push _)[k]? = _
    rw [Array.getElem?_push, if_neg (by omega)]
  exact ⟨ρ, F, hv, h.step hc (fun _ _ => rfl) (fun b o hb => by cases hb) (fun b hb => by cases hb) (fun b x hb => by cases hb) (fun b c x hb => by cases hb) (fun b hb => h.fresh b hb.1), hc⟩

/-- An object of one block is turned. -/
theorem done_turn {val : SV} {rd : List Nat} {v : Value} {o o' : VObj A} {p : Pl} {b : Nat} {cs : List Value} {ty : TypeId} (h : HR S B Z ρ F H w)
    (hb : H b = some o) (hf : ∀ x, F b x ↔ x = p.blk) (hok : ∀ w', w'.heap[p.blk]? = some (.cells cs.toArray ty (0, 0)) → OK S B ρ (F b) b o' w') (hv : RS ρ val v) :
    Done S B Z ρ F H w nid ⟨val, rd, [(b, some o')], nid⟩ v (setBlk w p.blk (.cells cs.toArray ty (0, 0))) := by
  have hk : p.blk < w.heap.size := (h.bound b _ ((hf _).2 rfl)).2
  have hc : Chg (fun c => c ∈ [(b, some o')].map (·.1)) ρ F w ρ F (setBlk w p.blk (.cells cs.toArray ty (0, 0))) := by
    refine ⟨Rho.le_refl ρ, fun _ _ => rfl, fun c x hc hx => .inr ⟨c, hc, hx⟩, setBlk_same _ _ _, fun k hk' hc => ?_⟩
    rw [setBlk_get _ _ _ _ hk, if_neg]
    intro e
    exact hc b (by simp) ((hf k).2 e)
  refine ⟨ρ, F, hv, ?_, hc⟩
  rw [Zm_self]
  refine h.step hc (fun b hb => over_out hb) (fun c x hc ho => ?_) (fun c hc ho => ?_) (fun c x hc hx => ?_) (fun c d x hc hd _ _ => ?_) h.fresh
  · simp only [List.map_cons, List.map_nil, List.mem_singleton] at hc
    subst hc
    simp only [over, if_true, Option.some.injEq] at ho
    subst ho
    exact hok _ (by rw [setBlk_get _ _ _ _ hk, if_pos rfl])
  · simp only [List.map_cons, List.map_nil, List.mem_singleton] at hc
    subst hc
    simp [over] at ho
  · have := (h.bound c x hx).2
    simpa [setBlk] using this
  · simp only [List.map_cons, List.map_nil, List.mem_singleton] at hc hd
    rw [hc, hd]
/-- Cells of an object are turned. -/
theorem done_store {val : SV} {rd : List Nat} {v : Value} {l l' : List VV} {p : Pl} {b : Nat} {cs : List Value} {ty : TypeId} (h : HR S B Z ρ F H w)
    (hb : H b = some (.cells l ty)) (hp : ρ b = some p) (hl : F2 (RV ρ) l' cs) (hv : RS ρ val v) :
    Done S B Z ρ F H w nid ⟨val, rd, [(b, some (.cells l' ty))], nid⟩ v (setBlk w p.blk (.cells cs.toArray ty (0, 0))) := by
  obtain ⟨q, arr, hq, hf, hw, _⟩ := h.live b _ hb
  rw [hp] at hq
  injection hq with hq
  subst hq
  exact done_turn h hb hf (fun w' hw' => ⟨p, cs.toArray, hp, hf, hw', hl⟩) hv
end
end Go.Proofs.Ytcolladpdmjloaa.Eng

/-
  The engine, part D: each operation but the call.
-/
namespace Go.Proofs.Ytcolladpdmjloaa.Eng
open Go

section
variable {A : Type} {S : Sys A} {P : Program} {B : Nat} {Z : Nat → Prop} {ρ : Rho} {F : Fm} {H : Nat → Option (VObj A)} {w : World} {nid : Nat}

theorem lands_val {s : Sem Value} {v : Value} {w' : World} {K : Value → World → Prop} (h : s.run P w = .ok v w') (hk : K v w') :
    Lands P ((do pure (Next.value (← s)) : Sem Next).run P w) K := by
  rw [run_andThen_ok h]
  exact hk
theorem lands_pure {v : Value} {K : Value → World → Prop} (hk : K v w) : Lands P ((pure (Next.value v) : Sem Next).run P w) K := hk
theorem lands_unit {s : Sem Unit} {w' : World} {K : Value → World → Prop} (h : s.run P w = .ok () w') (hk : K undef w') :
    Lands P ((do s; pure Next.skip : Sem Next).run P w) K := by
  rw [run_andThen_ok h]
  exact hk

theorem RS_undef (ρ : Rho) : RS ρ .undef undef := ⟨[], rfl, trivial⟩

/-! ### Values of types -/
theorem ofVal_RV {v : Value} {x : VV} (h : ofVal v = some x) (ρ : Rho) : RV ρ x v := by
  unfold ofVal at h
  split at h
  · split at h
    · rename_i hk
      injection h with h
      subst h
      simp only [Bool.and_eq_true, decide_eq_true_eq] at hk
      exact ⟨rfl, hk⟩
    · cases h
  all_goals first
    | (injection h with h; subst h; first | rfl | exact ⟨rfl, rfl⟩)
    | cases h
theorem ofVals_F2 : ∀ {l : List Value} {m : List VV}, ofVals l = some m → ∀ ρ, F2 (RV ρ) m l
  | [], m, h, ρ => by simp [ofVals] at h; subst h; trivial
  | v :: r, m, h, ρ => by
    unfold ofVals at h
    split at h
    · rename_i x l hx hl
      injection h with h
      subst h
      exact ⟨ofVal_RV hx ρ, ofVals_F2 hl ρ⟩
    · cases h
theorem zeroS_spec {t : TypeId} {z : S1} (h : zeroS P t = some z) : ∃ v, (∀ w, (zeroValue t).run P w = .ok v w) ∧ ∀ ρ, R1 ρ z v := by
  unfold zeroS at h
  cases hi : P.info? t with
  | none => simp [hi] at h
  | some i =>
    simp only [hi] at h
    have hr : ∀ v, i.zero = some v → ∀ w, (zeroValue t).run P w = .ok v w := fun v hv w => by
      unfold zeroValue
      rw [run_andThen_ok (run_typeInfo w hi)]
      simp only [hv]
      rfl
    split at h
    · rename_i cs hz
      simp only [Option.map_eq_some_iff] at h
      obtain ⟨m, hm, rfl⟩ := h
      exact ⟨_, hr _ hz, fun ρ => ⟨cs.toList, by simp, ofVals_F2 hm ρ⟩⟩
    · rename_i v hv _
      simp only [Option.map_eq_some_iff] at h
      obtain ⟨m, hm, rfl⟩ := h
      exact ⟨_, hr _ (by assumption), fun ρ => ofVal_RV hm ρ⟩
    · cases h

theorem RS_one {ρ : Rho} {x : VV} {v : Value} (h : RV ρ x v) : RS ρ (.v x) v := h
theorem SV_v_def (x : VV) : SV.v x = SV.s (.one x) := rfl

theorem run_newVar {t : TypeId} {v : Value} : (newVar t v).run P w = .ok ⟨w.heap.size, 0, none⟩ (w.alloc (.cells v.cells t)) := by
  simp [newVar, newRow, newObj, Sem.run]

theorem alloc_sound {ty : TypeId} {z : S1} (hz : zeroS P ty = some z) (h : HR S B Z ρ F H w) (hZ : Z nid) :
    Lands P ((do pure (Next.value (← Instr.alloc ty true (.tuple #[]))) : Sem Next).run P w) (Done S B Z ρ F H w nid ⟨.v (.ptr nid 0), [], [(nid, some (.cells z.cells ty))], nid + 1⟩) := by
  obtain ⟨v, hv, hr⟩ := zeroS_spec hz
  refine lands_val (v := .pointer (some ⟨w.heap.size, 0, none⟩)) (w' := w.alloc (.cells v.cells.toList.toArray ty)) ?_ ?_
  · unfold Instr.alloc
    rw [run_andThen_ok (hv w)]
    simp only
    rw [run_andThen_ok run_newVar]
    simp
  · exact done_new h hZ (R1.cells (hr ρ)) fun ρ' _ hn => ⟨_, hn, rfl⟩
theorem box_sound {ty : TypeId} {z : S1} {v : Value} (hv : R1 ρ z v) (h : HR S B Z ρ F H w) (hZ : Z nid) :
    Lands P ((do pure (Next.value (← Instr.box ty v)) : Sem Next).run P w) (Done S B Z ρ F H w nid ⟨.v (.ptr nid 0), [], [(nid, some (.cells z.cells ty))], nid + 1⟩) := by
  refine lands_val (v := .pointer (some ⟨w.heap.size, 0, none⟩)) (w' := w.alloc (.cells v.cells.toList.toArray ty)) ?_ ?_
  · unfold Instr.box
    rw [run_andThen_ok run_newVar]
    simp
  · exact done_new h hZ (R1.cells hv) fun ρ' _ hn => ⟨_, hn, rfl⟩

theorem map_sound {ty : TypeId} (h : HR S B Z ρ F H w) :
    Lands P ((do pure (Next.value (← Instr.makeMap ty none)) : Sem Next).run P w) (Done S B Z ρ F H w nid ⟨.v .any, [], [], nid⟩) := by
  refine lands_val (v := .map (some w.heap.size)) (w' := w.alloc (.map #[] 0)) ?_ (done_far h ⟨_, rfl⟩)
  simp [Instr.makeMap]

/-! ### Loads and stores -/
theorem cell_of_blk {w : World} {k off : Nat} {arr : Array Value} {ty : TypeId} {fr : Nat × Nat} (h : w.heap[k]? = some (.cells arr ty fr)) : w.cell? ⟨k, off, none⟩ = arr[off]? := by
  simp [World.cell?, h]
theorem add_mk (k off j : Nat) : (Addr.add ⟨k, off, none⟩ j) = ⟨k, off + j, none⟩ := by
  unfold Addr.add
  split
  · rename_i h0; subst h0; rfl
  · rfl

theorem vv_real (ρ : Rho) (k : CK) (n : Int) (h : k.fits n) : RV ρ (k.vv n) (k.real n) := by
  cases k with
  | int k => exact ⟨rfl, h⟩
  | bool => rfl
  | nils => rfl
/-- A table that is there. -/
theorem tab_live {b : Nat} {o : Option (VObj A)} {ks : List CK} {xs : List (List Int)} (h : HR S B Z ρ F H w) (ho : H b = o) (ht : tabOf o = some (ks, xs)) :
    ∃ p, ρ b = some p ∧ p.sz = ks.length ∧ (xs ≠ [] → ∃ arr ty fr, w.heap[p.blk]? = some (.cells arr ty fr) ∧ TabCells ks xs p arr) := by
  unfold tabOf at ht
  split at ht
  · injection ht with ht
    injection ht with h1 h2
    subst h1 h2
    obtain ⟨p, arr, h1, _, _, h2, _, h3⟩ := h.live _ _ ho
    exact ⟨p, h1, h3.1, fun _ => ⟨arr, _, _, h2, h3⟩⟩
  · injection ht with ht
    injection ht with h1 h2
    subst h1 h2
    obtain ⟨p, h1, _, h2, h3⟩ := h.live _ _ ho
    exact ⟨p, h1, h2, fun hne => by
      obtain ⟨arr, ty, fr, _, g1, g2⟩ := h3 hne
      exact ⟨arr, ty, fr, g1, g2⟩⟩
  · cases ht
theorem tab_live1 {b : Nat} {o : Option (VObj A)} {ks : List CK} {xs : List (List Int)} {r : Nat} (h : HR S B Z ρ F H w) (ho : H b = o) (ht : tabOf o = some (ks, xs)) (hr : r < xs.length) :
    ∃ p arr ty fr, ρ b = some p ∧ w.heap[p.blk]? = some (.cells arr ty fr) ∧ TabCells ks xs p arr := by
  obtain ⟨p, h1, _, h2⟩ := tab_live h ho ht
  obtain ⟨arr, ty, fr, g1, g2⟩ := h2 (by rintro rfl; simp at hr)
  exact ⟨p, arr, ty, fr, h1, g1, g2⟩
theorem tab_at {ks : List CK} {xs : List (List Int)} {p : Pl} {arr : Array Value} {r c : Nat} {k : CK} (ht : TabCells ks xs p arr) (hr : r < xs.length) (hk : ks[c]? = some k) :
    k.fits (tabAt xs r c) ∧ arr[p.off0 + r * p.sz + c]? = some (k.real (tabAt xs r c)) := by
  obtain ⟨n, h1, h2, h3⟩ := ht.2.2.2 r _ (List.getElem?_eq_getElem hr) c k hk
  have : tabAt xs r c = n := by
    unfold tabAt
    rw [List.getD_eq_getElem?_getD, List.getD_eq_getElem?_getD, List.getElem?_eq_getElem hr, Option.getD_some, h1, Option.getD_some]
  rw [this]
  exact ⟨h2, h3⟩
theorem tab_cells {ks : List CK} {xs : List (List Int)} {p : Pl} {arr : Array Value} {r : Nat} (ht : TabCells ks xs p arr) (hr : r < xs.length) : ∀ (n c : Nat), c + n ≤ ks.length →
    ∃ cs : List Value, F2 (RV ρ) (tabCells ks xs r c n) cs ∧ cs.length = n ∧ ∀ (j : Nat) (u : Value), cs[j]? = some u → arr[p.off0 + r * p.sz + c + j]? = some u
  | 0, c, _ => ⟨[], trivial, rfl, fun j u hu => by simp at hu⟩
  | n + 1, c, h => by
    have hk : ks[c]? = some ks[c] := List.getElem?_eq_getElem (by omega)
    obtain ⟨cs, h1, h2, h3⟩ := tab_cells ht hr n (c + 1) (by omega)
    obtain ⟨h4, h5⟩ := tab_at ht hr hk
    refine ⟨ks[c].real (tabAt xs r c) :: cs, ?_, by simp [h2], fun j u hu => ?_⟩
    · rw [tabCells, hk]
      exact ⟨vv_real ρ _ _ h4, h1⟩
    · cases j with
      | zero =>
        simp only [List.getElem?_cons_zero, Option.some.injEq] at hu
        rw [Nat.add_zero, h5, hu]
      | succ j =>
        have := h3 j u (by simpa using hu)
        rw [← this]
        congr 1
        omega

theorem vload_sound {hp : HP A} {ty : TypeId} {x : VV} {rx : Value} {v : S1} {b : Nat} (hrun : (vload P hp ty x).run = some (v, b)) (h : HR S B Z ρ F H w)
    (hag : H b = hget hp b) (hx : RV ρ x rx) : ∃ rv, (Instr.loadAt ty rx).run P w = .ok rv w ∧ R1 ρ v rv := by
  unfold vload at hrun
  split at hrun
  · rename_i b' off
    obtain ⟨p, hp', rfl⟩ := hx
    have hl : ∀ rv, (loadVar ty ⟨p.blk, off, none⟩).run P w = .ok rv w → (Instr.loadAt ty (.pointer (some ⟨p.blk, off, none⟩))).run P w = .ok rv w := fun rv hr => by
      unfold Instr.loadAt Instr.sureAddr
      simp only [pure_bind]
      exact hr
    split at hrun
    · rename_i l t hg
      split at hrun
      · rename_i hk
        rw [Tr.run_chk, Tr.run_ok] at hrun
        obtain ⟨hlen, he⟩ := hrun
        injection he with h1 h2
        subst h1 h2
        obtain ⟨q, arr, hq, hf, hw, hlr⟩ := h.live _ _ (hag.trans hg)
        rw [hp'] at hq
        injection hq with hq
        subst hq
        simp only [decide_eq_true_eq] at hlen
        have hcs := (hlr.drop off).take (P.cellsOf ty)
        refine ⟨_, hl _ (run_loadVar_agg (cs := (arr.toList.drop off).take (P.cellsOf ty)) hk ?_ fun j u hu => ?_), _, rfl, hcs⟩
        · rw [← hcs.length]
          simp
          omega
        · rw [add_mk, cell_of_blk hw]
          rw [List.getElem?_take] at hu
          split at hu
          · rw [List.getElem?_drop] at hu
            simpa using hu
          · cases hu
      · rename_i hk
        rw [Tr.run_opt] at hrun
        obtain ⟨u, hu, he⟩ := hrun
        rw [Tr.run_ok] at he
        injection he with h1 h2
        subst h1 h2
        obtain ⟨q, arr, hq, hf, hw, hlr⟩ := h.live _ _ (hag.trans hg)
        rw [hp'] at hq
        injection hq with hq
        subst hq
        obtain ⟨ru, hru, hr⟩ := hlr.get off hu
        exact ⟨ru, hl _ (run_loadVar_one hk (by rw [cell_of_blk hw]; simpa using hru)), hr⟩
      · simp [Tr.run] at hrun
    · simp [Tr.run] at hrun
  · rename_i b' r c
    obtain ⟨p, hp', rfl⟩ := hx
    rw [Tr.run_opt] at hrun
    obtain ⟨⟨ks, xs⟩, ht, hrun⟩ := hrun
    simp only at hrun
    split at hrun
    · rename_i hk
      rw [Tr.run_chk, Tr.run_ite] at hrun
      obtain ⟨hlen, ⟨hr, he⟩ | ⟨_, he⟩⟩ := hrun
      · rw [Tr.run_ok] at he
        injection he with h1 h2
        subst h1 h2
        have hlen := of_decide_eq_true hlen
        have hr := of_decide_eq_true hr
        obtain ⟨q, arr, ty', fr, hq, hw, htc⟩ := tab_live1 h hag ht hr
        rw [hp'] at hq
        injection hq with hq
        subst hq
        obtain ⟨cs, h1, h2, h3⟩ := tab_cells (ρ := ρ) htc hr (P.cellsOf ty) c hlen
        refine ⟨.agg cs.toArray, ?_, cs, rfl, h1⟩
        unfold Instr.loadAt Instr.sureAddr
        simp only [pure_bind]
        exact run_loadVar_agg (cs := cs) hk h2 fun j u hu => by rw [add_mk, cell_of_blk hw]; exact h3 j u hu
      · cases he
    · rename_i hk
      rw [Tr.run_opt] at hrun
      obtain ⟨k, hkk, hrun⟩ := hrun
      rw [Tr.run_ite] at hrun
      obtain ⟨hr, he⟩ | ⟨_, he⟩ := hrun
      · rw [Tr.run_ok] at he
        injection he with h1 h2
        subst h1 h2
        have hr := of_decide_eq_true hr
        obtain ⟨q, arr, ty', fr, hq, hw, htc⟩ := tab_live1 h hag ht hr
        rw [hp'] at hq
        injection hq with hq
        subst hq
        obtain ⟨h4, h5⟩ := tab_at htc hr hkk
        refine ⟨k.real (tabAt xs r.val c), ?_, vv_real ρ _ _ h4⟩
        unfold Instr.loadAt Instr.sureAddr
        simp only [pure_bind]
        exact run_loadVar_one hk (by rw [cell_of_blk hw]; exact h5)
      · cases he
    · simp [Tr.run] at hrun
  · simp [Tr.run] at hrun

/-- Numbers laid into columns. -/
theorem ckNums_ok : ∀ {ks : List CK} {vs : List VV} {ns : List Int} {us : List Value}, ckNums ks vs = some ns → F2 (RV ρ) vs us →
    ns.length = vs.length ∧ vs.length ≤ ks.length ∧ ∀ (j : Nat) (k : CK), ks[j]? = some k → j < ns.length → ∃ n, ns[j]? = some n ∧ k.fits n ∧ us[j]? = some (k.real n)
  | ks, [], ns, us, h, _ => by
    have : ns = [] := by cases ks <;> (simp only [ckNums] at h; injection h with h; exact h.symm)
    subst this
    exact ⟨rfl, Nat.zero_le _, fun j k _ hj => by simp at hj⟩
  | k :: ks, v :: vs, ns, u :: us, h, hu => by
    unfold ckNums at h
    split at h
    · rename_i n l h1 h2
      injection h with h
      subst h
      obtain ⟨h3, h4, h5⟩ := ckNums_ok h2 hu.2
      refine ⟨by simp [h3], by simp; omega, fun j k' hk hj => ?_⟩
      cases j with
      | zero =>
        simp only [List.getElem?_cons_zero, Option.some.injEq] at hk
        subst hk
        have hu1 := hu.1
        refine ⟨n, rfl, ?_⟩
        unfold CK.num at h1
        split at h1
        · rename_i k1 k2 s
          split at h1
          · rename_i he
            subst he
            injection h1 with h1
            subst h1
            exact ⟨hu1.2, congrArg some hu1.1⟩
          · cases h1
        · rename_i b
          injection h1 with h1
          subst h1
          have hu1 : u = .bool b.val := hu1
          subst hu1
          cases b.val
          · exact ⟨by simp [CK.fits], rfl⟩
          · exact ⟨by simp [CK.fits], rfl⟩
        · injection h1 with h1
          subst h1
          have hu1 : u = .slice none 0 0 := hu1
          subst hu1
          exact ⟨trivial, rfl⟩
        · cases h1
      | succ j => exact h5 j k' (by simpa using hk) (by simpa using hj)
    · cases h
  | [], _ :: _, _, _, h, _ => by simp [ckNums] at h
  | _ :: _, _ :: _, _, [], _, hu => hu.elim
theorem tab_store {ks : List CK} {xs : List (List Int)} {p : Pl} {arr : Array Value} {r c : Nat} {vs : List VV} {ns : List Int} {us : List Value} (ht : TabCells ks xs p arr) (hr : r < xs.length) (hns : ckNums (ks.drop c) vs = some ns) (hu : F2 (RV ρ) vs us)
    (hc : c ≤ ks.length) : TabCells ks (xs.set r (splice (xs.getD r []) c ns)) p (splice arr.toList (p.off0 + r * p.sz + c) us).toArray ∧ p.off0 + r * p.sz + c + us.length ≤ arr.size := by
  obtain ⟨h1, h2, h3, h4⟩ := ht
  obtain ⟨e1, e2, e3⟩ := ckNums_ok hns hu
  have e4 : us.length = ns.length := by rw [e1, hu.length]
  rw [List.length_drop] at e2
  have hrow : (r + 1) * p.sz ≤ p.rows * p.sz := Nat.mul_le_mul_right _ (by omega)
  rw [Nat.add_mul, Nat.one_mul] at hrow
  have hfit : p.off0 + r * p.sz + c + us.length ≤ arr.size := by omega
  refine ⟨⟨h1, by rw [List.length_set]; exact h2, by simpa [splice_length] using h3, fun i row hi j k hk => ?_⟩, hfit⟩
  have hj : j < ks.length := by
    rcases Nat.lt_or_ge j ks.length with h | h
    · exact h
    · rw [List.getElem?_eq_none h] at hk; cases hk
  have hget : ∀ q, (splice arr.toList (p.off0 + r * p.sz + c) us).toArray[q]? = if p.off0 + r * p.sz + c ≤ q ∧ q < p.off0 + r * p.sz + c + us.length then us[q - (p.off0 + r * p.sz + c)]? else arr[q]? := fun q => by
    rw [List.getElem?_toArray, splice_get _ _ _ _ (by rw [Array.length_toList]; exact hfit)]
    simp
  by_cases hir : i = r
  · subst hir
    rw [List.getElem?_set_self hr] at hi
    injection hi with hi
    subst hi
    have hold : xs[i]? = some (xs.getD i []) := by
      rw [List.getD_eq_getElem?_getD, List.getElem?_eq_getElem hr]
      rfl
    obtain ⟨n0, o1, o2, o3⟩ := h4 i _ hold j k hk
    have hlen : ks.length ≤ (xs.getD i []).length := by
      rcases Nat.lt_or_ge (xs.getD i []).length ks.length with hlt | hge
      · have hk2 : ks[(xs.getD i []).length]? = some ks[(xs.getD i []).length] := List.getElem?_eq_getElem hlt
        obtain ⟨n2, q1, _⟩ := h4 i _ hold _ _ hk2
        rw [List.getElem?_eq_none (Nat.le_refl _)] at q1
        cases q1
      · exact hge
    rw [splice_get _ _ _ _ (by omega), hget]
    by_cases hin : c ≤ j ∧ j < c + ns.length
    · rw [if_pos hin, if_pos (by omega)]
      have hk3 : (ks.drop c)[j - c]? = some k := by rw [List.getElem?_drop, show c + (j - c) = j by omega]; exact hk
      obtain ⟨n, q1, q2, q3⟩ := e3 (j - c) k hk3 (by omega)
      refine ⟨n, q1, q2, ?_⟩
      rw [← q3]
      congr 1
      omega
    · rw [if_neg hin, if_neg (by omega)]
      exact ⟨n0, o1, o2, o3⟩
  · rw [List.getElem?_set_ne (Ne.symm hir)] at hi
    obtain ⟨n, q1, q2, q3⟩ := h4 i row hi j k hk
    refine ⟨n, q1, q2, ?_⟩
    rw [hget, if_neg ?_]
    · exact q3
    · rintro ⟨g1, g2⟩
      rcases Nat.lt_or_ge i r with hlt | hge
      · have : (i + 1) * p.sz ≤ r * p.sz := Nat.mul_le_mul_right _ hlt
        rw [Nat.add_mul, Nat.one_mul] at this
        omega
      · have : (r + 1) * p.sz ≤ i * p.sz := Nat.mul_le_mul_right _ (by omega)
        rw [Nat.add_mul, Nat.one_mul] at this
        omega

theorem F2_one : ∀ {l : List VV} {m : List Value} (_ : F2 (RV ρ) l m) (i : Nat) (u : Value), m[i]? = some u → u.oneCell' = true
  | [], [], _, i, u, hu => by simp at hu
  | _ :: _, _ :: _, hm, 0, u, hu => by simp at hu; subst hu; exact RV.one hm.1
  | _ :: _, _ :: _, hm, i + 1, u, hu => F2_one hm.2 i u (by simpa using hu)
  | [], _ :: _, hm, _, _, _ => hm.elim
  | _ :: _, [], hm, _, _, _ => hm.elim
theorem store_run {ty t : TypeId} {ry : Value} {k off : Nat} {arr : Array Value} (hk : known P ty = true) (hn : ry.cells.toList.length = P.cellsOf ty) (hw : w.heap[k]? = some (.cells arr t (0, 0)))
    (hfit : off + ry.cells.toList.length ≤ arr.size) (hone : ∀ u ∈ ry.cells.toList, u.oneCell' = true) :
    (Instr.storeAt ty (.pointer (some ⟨k, off, none⟩)) ry).run P w = .ok () (setBlk w k (.cells (splice arr.toList off ry.cells.toList).toArray t (0, 0))) := by
  have hst := run_storeCells (P := P) (ty := t) (k := k) (off := off) ry.cells.toList 0 w arr hw (by omega) hone
  have hlt : k < w.heap.size := by
    rcases Nat.lt_or_ge k w.heap.size with h1 | h1
    · exact h1
    · rw [Array.getElem?_eq_none h1] at hw; cases hw
  unfold Instr.storeAt Instr.sureAddr
  simp only [pure_bind]
  unfold storeVar
  rw [run_andThen_ok (run_sizeOf_k hk)]
  rw [if_neg (by rw [← Array.length_toList, hn]; simp)]
  rw [hst]
  split
  · rename_i h0
    rw [h0, splice_nil]
    congr 1
    unfold setBlk
    rw [Array.toArray_toList]
    cases w
    simp only at hw hlt ⊢
    congr 1
    apply Array.ext_getElem?
    intro x
    rw [Array.getElem?_setIfInBounds]
    split
    · rename_i hx
      subst hx
      rw [hw]
    · rfl
  · simp
theorem store_sound {hp : HP A} {ty : TypeId} {x : VV} {y : S1} {rx ry : Value} {b : Nat} {o : VObj A} (hk : known P ty = true) (hn : y.cells.length = P.cellsOf ty)
    (hrun : (vstore hp x y.cells).run = some (b, o)) (h : HR S B Z ρ F H w) (hag : H b = hget hp b) (hx : RV ρ x rx) (hy : R1 ρ y ry) :
    Lands P ((do Instr.storeAt ty rx ry; pure Next.skip : Sem Next).run P w) (Done S B Z ρ F H w nid ⟨.undef, [b], [(b, some o)], nid⟩) := by
  have hcs := R1.cells hy
  have hlenC : ry.cells.toList.length = y.cells.length := hcs.length.symm
  have hone : ∀ u ∈ ry.cells.toList, u.oneCell' = true := fun u hu => by
    obtain ⟨i, hi⟩ := List.getElem?_of_mem hu
    exact F2_one hcs i u hi
  unfold vstore at hrun
  split at hrun
  · rename_i b' off
    obtain ⟨p, hp', rfl⟩ := hx
    split at hrun
    · rename_i l t hg
      rw [Tr.run_chk, Tr.run_ok] at hrun
      obtain ⟨hlen, he⟩ := hrun
      injection he with h1 h2
      subst h1 h2
      obtain ⟨q, arr, hq, hf, hw, hlr⟩ := h.live _ _ (hag.trans hg)
      rw [hp'] at hq
      injection hq with hq
      subst hq
      simp only [decide_eq_true_eq] at hlen
      have hlenA : arr.toList.length = l.length := hlr.length.symm
      have hall := store_run (P := P) (ty := ty) (off := off) hk (hlenC.trans hn) hw (by rw [← Array.length_toList, hlenA]; omega) hone
      exact lands_unit hall (done_store h (hag.trans hg) hp' (hlr.splice off hcs) (RS_undef ρ))
    · simp [Tr.run] at hrun
  · rename_i b' r c
    obtain ⟨p, hp', rfl⟩ := hx
    split at hrun
    · rename_i ks xs t hg
      rw [Tr.run_chk, Tr.run_opt] at hrun
      obtain ⟨hlc, ns, hns, hrun⟩ := hrun
      rw [Tr.run_ite] at hrun
      obtain ⟨hr, he⟩ | ⟨_, he⟩ := hrun
      · rw [Tr.run_ok] at he
        injection he with h1 h2
        subst h1 h2
        have hr := of_decide_eq_true hr
        have hlc := of_decide_eq_true hlc
        obtain ⟨q, arr, hq, h0, hf, hw, hsz, htc⟩ := h.live _ _ (hag.trans hg)
        rw [hp'] at hq
        injection hq with hq
        subst hq
        obtain ⟨t1, t2⟩ := tab_store htc hr hns hcs hlc
        have hall := store_run (P := P) (ty := ty) (off := p.off0 + r.val * p.sz + c) hk (hlenC.trans hn) hw t2 hone
        exact lands_unit hall (done_turn h (hag.trans hg) hf (fun w' hw' => ⟨p, _, hp', h0, hf, hw', by simpa [splice_length] using hsz, t1⟩) (RS_undef ρ))
      · cases he
    · simp [Tr.run] at hrun
  · simp [Tr.run] at hrun

/-! ### Building -/
theorem fill_one (cells : List Value) (off : Nat) (vs : List Value) :
    vs.toArray.zipIdx.foldl (fun cs (c, j) => cs.setIfInBounds (off + j) c) cells.toArray = (splice cells off vs).toArray := by
  suffices h : ∀ (vs : List Value) (i : Nat) (cells : List Value), (vs.zipIdx i).foldl (fun (cs : Array Value) (q : Value × Nat) => cs.setIfInBounds (off + q.2) q.1) cells.toArray = (splice cells (off + i) vs).toArray by
    have := h vs 0 cells
    simp only [Nat.add_zero] at this
    rw [← this, ← Array.foldl_toList]
    simp
  intro vs
  induction vs with
  | nil => intro i cells; simp [splice_nil]
  | cons v vs ih =>
    intro i cells
    simp only [List.zipIdx_cons, List.foldl_cons]
    rw [show (cells.toArray.setIfInBounds (off + i) v) = (cells.set (off + i) v).toArray by simp]
    rw [ih (i + 1), splice_cons]
    rfl

theorem vfill_sound {place : Nat → Option (Nat × Nat)} : ∀ {parts : List (Nat × SV)} {rparts : List (Nat × Value)} {cells : List VV} {rcells : List Value} {l : List VV},
    (vfill place cells parts).run = some l → F2 (RV ρ) cells rcells → F2 (fun (a : Nat × SV) (b : Nat × Value) => a.1 = b.1 ∧ RS ρ a.2 b.2) parts rparts →
    ∃ out : List Value, Instr.fill place rcells.toArray rparts = some out.toArray ∧ F2 (RV ρ) l out
  | [], [], cells, rcells, l, hrun, hc, _ => by
    simp only [vfill, Tr.run_ok] at hrun
    subst hrun
    exact ⟨rcells, rfl, hc⟩
  | (i, x) :: rest, (j, y) :: rrest, cells, rcells, l, hrun, hc, hp => by
    obtain ⟨⟨hij, hxy⟩, hrest⟩ := hp
    simp only at hij
    subst hij
    simp only [vfill, Tr.run_opt] at hrun
    obtain ⟨⟨off, size⟩, hpl, hrun⟩ := hrun
    cases x with
    | t _ => simp [Tr.run] at hrun
    | s x =>
      simp only [Tr.run_chk, Bool.and_eq_true, decide_eq_true_eq] at hrun
      obtain ⟨⟨hs, hb⟩, hrun⟩ := hrun
      have hxc := R1.cells hxy
      have hl1 : y.cells.size = x.cells.length := by rw [← Array.length_toList]; exact hxc.length.symm
      have hl2 : rcells.length = cells.length := hc.length.symm
      obtain ⟨out, ho, hr⟩ := vfill_sound hrun (hc.splice off hxc) hrest
      refine ⟨out, ?_, hr⟩
      unfold Instr.fill
      simp only [hpl]
      rw [if_neg (by simp [hl1, hl2, hs]; omega)]
      have := fill_one rcells off y.cells.toList
      rw [Array.toArray_toList] at this
      rw [this]
      exact ho
  | [], _ :: _, _, _, _, _, _, h => h.elim
  | _ :: _, [], _, _, _, _, _, h => h.elim

theorem parts_rel {ev : Operand → SV} {rv : Operand → Value} (parts : Array (Nat × Operand)) (h : ∀ p ∈ parts.toList, RS ρ (ev p.2) (rv p.2)) :
    F2 (fun (a : Nat × SV) (b : Nat × Value) => a.1 = b.1 ∧ RS ρ a.2 b.2) (parts.toList.map fun p => (p.1, ev p.2)) (parts.map fun p => (p.1, rv p.2)).toList := by
  rw [Array.toList_map]
  exact F2.of_map _ _ fun p hp => ⟨rfl, h p hp⟩

theorem run_mapM_known {γ δ : Type} {f : γ → Sem δ} {g : γ → δ} (hf : ∀ c, (f c).run P w = .ok (g c) w) : ∀ (l : List γ), (l.mapM f).run P w = .ok (l.map g) w
  | [] => rfl
  | c :: l => by
    rw [List.mapM_cons, run_andThen_ok (hf c), run_andThen_ok (run_mapM_known hf l)]
    rfl
theorem run_mapM_mem {γ δ : Type} {f : γ → Sem δ} {g : γ → δ} : ∀ (l : List γ) (_ : ∀ c ∈ l, (f c).run P w = .ok (g c) w), (l.mapM f).run P w = .ok (l.map g) w
  | [], _ => rfl
  | c :: l, hf => by
    rw [List.mapM_cons, run_andThen_ok (hf c (by simp)), run_andThen_ok (run_mapM_mem l fun d hd => hf d (by simp [hd]))]
    rfl
theorem run_mapM_arr {γ δ : Type} {f : γ → Sem δ} {g : γ → δ} (l : Array γ) (h : ∀ c ∈ l.toList, (f c).run P w = .ok (g c) w) : (l.mapM f).run P w = .ok (l.map g) w := by
  rw [Array.mapM_eq_mapM_toList]
  rw [map_eq_pure_bind, run_andThen_ok (run_mapM_mem l.toList h)]
  show Result.ok _ w = Result.ok _ w
  congr 1
  apply Array.ext'
  simp

theorem build_sound {ty : TypeId} {z l : List VV} {fs : Array Field} {parts : Array (Nat × Operand)} {ev : Operand → SV} {rv : Operand → Value}
    (hz : zeroS P ty = some (.agg z)) (hu : P.underlying ty = some (.struct fs)) (hk : (fs.toList.all fun f => known P f.type) = true)
    (hrun : (vfill (structPlaces P fs) z (parts.toList.map fun p => (p.1, ev p.2))).run = some l) (hp : ∀ p ∈ parts.toList, RS ρ (ev p.2) (rv p.2)) :
    ∃ v, (Instr.build ty (parts.map fun (i, x) => (i, rv x))).run P w = .ok v w ∧ R1 ρ (.agg l) v := by
  obtain ⟨zv, hzr, hzv⟩ := zeroS_spec hz
  obtain ⟨cs, hcs, hcl⟩ := hzv ρ
  subst hcs
  obtain ⟨out, ho, hr⟩ := vfill_sound hrun hcl (parts_rel parts hp)
  refine ⟨.agg out.toArray, ?_, out, rfl, hr⟩
  unfold Instr.build
  rw [run_andThen_ok (hzr w)]
  dsimp only
  rw [run_andThen_ok (run_underlying hu w)]
  simp only
  have hm : (fs.mapM fun (f : Field) => (do pure (f.offset, ← sizeOf f.type) : Sem (Nat × Nat))).run P w = .ok (fs.map fun (f : Field) => (f.offset, P.cellsOf f.type)) w := by
    refine run_mapM_arr fs fun f hf => ?_
    rw [List.all_eq_true] at hk
    rw [run_andThen_ok (run_sizeOf_k (hk f hf))]
    rfl
  rw [run_andThen_ok hm]
  have hpl : (fun (x : Nat) => (fs.map fun (f : Field) => (f.offset, P.cellsOf f.type))[x]?) = structPlaces P fs := by
    funext i
    unfold structPlaces
    rw [Array.getElem?_map]
    cases fs[i]? <;> rfl
  simp only [Value.cells]
  rw [hpl, ho]
  rfl
theorem buildArr_sound {ty e : TypeId} {n : Nat} {z l : List VV} {parts : Array (Nat × Operand)} {ev : Operand → SV} {rv : Operand → Value}
    (hz : zeroS P ty = some (.agg z)) (hu : P.underlying ty = some (.array n e)) (hk : known P e = true)
    (hrun : (vfill (fun i => some (i * P.cellsOf e, P.cellsOf e)) z (parts.toList.map fun p => (p.1, ev p.2))).run = some l) (hp : ∀ p ∈ parts.toList, RS ρ (ev p.2) (rv p.2)) :
    ∃ v, (Instr.build ty (parts.map fun (i, x) => (i, rv x))).run P w = .ok v w ∧ R1 ρ (.agg l) v := by
  obtain ⟨zv, hzr, hzv⟩ := zeroS_spec hz
  obtain ⟨cs, hcs, hcl⟩ := hzv ρ
  subst hcs
  obtain ⟨out, ho, hr⟩ := vfill_sound hrun hcl (parts_rel parts hp)
  refine ⟨.agg out.toArray, ?_, out, rfl, hr⟩
  unfold Instr.build
  rw [run_andThen_ok (hzr w)]
  dsimp only
  rw [run_andThen_ok (run_underlying hu w)]
  simp only
  rw [run_andThen_ok (run_sizeOf_k hk)]
  simp only [Value.cells]
  rw [ho]
  rfl

theorem repeatL_get {z : List VV} {zv : Array Value} {e : Nat} (h : F2 (RV ρ) z zv.toList) (hl : z.length = e) : ∀ n, F2 (RV ρ) (repeatL z n) ((List.range (n * e)).map fun i => zv[i % e]!) := by
  intro n
  have hzs : zv.size = e := by rw [← Array.length_toList, ← h.length, hl]
  induction n with
  | zero => simp [repeatL, F2]
  | succ n ih =>
    unfold repeatL
    have hsplit : (List.range ((n + 1) * e)).map (fun i => zv[i % e]!) = zv.toList ++ (List.range (n * e)).map fun i => zv[i % e]! := by
      rw [Nat.succ_mul, Nat.add_comm, List.range_add]
      rw [List.map_append]
      congr 1
      · apply List.ext_getElem?
        intro i
        rw [List.getElem?_map]
        by_cases hi : i < e
        · rw [List.getElem?_range hi]
          simp only [Option.map_some, Nat.mod_eq_of_lt hi]
          have hi' : i < zv.size := by omega
          simp [hi']
        · rw [List.getElem?_eq_none (by simp; omega)]
          simp
          omega
      · rw [List.map_map]
        apply List.map_congr_left
        intro i _
        simp
    rw [hsplit]
    exact h.append ih
theorem buildSlice_sound {ty e : TypeId} {len : Nat} {z : S1} {l : List VV} {parts : Array (Nat × Operand)} {ev : Operand → SV} {rv : Operand → Value}
    (hu : P.underlying ty = some (.slice e)) (hz : zeroS P e = some z) (hk : known P e = true) (hl : z.cells.length = P.cellsOf e) (hs : len * P.cellsOf e ≤ 2 ^ 24) (h0 : 0 < P.cellsOf e)
    (hrun : (vfill (fun i => some (i * P.cellsOf e, P.cellsOf e)) (repeatL z.cells len) (parts.toList.map fun p => (p.1, ev p.2))).run = some l) (hp : ∀ p ∈ parts.toList, RS ρ (ev p.2) (rv p.2))
    (h : HR S B Z ρ F H w) (hZ : Z nid) :
    Lands P ((do pure (Next.value (← Instr.buildSlice ty len (parts.map fun (i, x) => (i, rv x)))) : Sem Next).run P w) (Done S B Z ρ F H w nid ⟨.v (.sl nid 0 len len), [], [(nid, some (.cells l e))], nid + 1⟩) := by
  obtain ⟨zv, hzr, hzv⟩ := zeroS_spec hz
  have hzc := R1.cells (hzv ρ)
  have hzs : zv.cells.size = P.cellsOf e := by rw [← Array.length_toList, ← hzc.length, hl]
  obtain ⟨out, ho, hr⟩ := vfill_sound hrun (repeatL_get hzc hl len) (parts_rel parts hp)
  refine lands_val (v := .slice (some ⟨w.heap.size, 0, none⟩) len len) (w' := w.alloc (.cells out.toArray e)) ?_ (done_new h hZ hr fun ρ' _ hn => ⟨_, hn, rfl⟩)
  unfold Instr.buildSlice
  rw [run_andThen_ok (run_underlying hu w)]
  simp only
  rw [run_andThen_ok (run_sizeOf_k hk)]
  rw [if_neg (by omega)]
  have hcells : (Array.range (len * P.cellsOf e)).map (fun x => zv.cells[x % zv.cells.size]!) = ((List.range (len * P.cellsOf e)).map fun i => zv.cells[i % P.cellsOf e]!).toArray := by
    apply Array.ext'
    rw [Array.toList_map, Array.toList_range, hzs]
  split
  · rename_i h00
    have : (Array.range (len * P.cellsOf e)).map (fun x => (#[] : Array Value)[x % (#[] : Array Value).size]!) = ((List.range (len * P.cellsOf e)).map fun i => zv.cells[i % P.cellsOf e]!).toArray := by
      rw [h00]; simp
    simp only [pure_bind]
    rw [this, ho]
    simp [newRow, newObj, Sem.run]
  · rw [run_andThen_ok (hzr w)]
    simp only [pure_bind]
    rw [hcells, ho]
    simp [newRow, newObj, Sem.run]
end
end Go.Proofs.Ytcolladpdmjloaa.Eng

/-
  The engine, part E: the operations that only compute.
-/
namespace Go.Proofs.Ytcolladpdmjloaa.Eng
open Go

section
variable {A : Type} {S : Sys A} {P : Program} {B : Nat} {Z : Nat → Prop} {ρ : Rho} {F : Fm} {H : Nat → Option (VObj A)} {w : World} {nid : Nat}

theorem tmod_le_self {x : Int} (y : Int) (h : 0 ≤ x) : x.tmod y ≤ x := by
  obtain ⟨m, rfl⟩ := Int.eq_ofNat_of_zero_le h
  cases y with
  | ofNat n => exact Int.ofNat_le.2 (Nat.mod_le m n)
  | negSucc n => exact Int.ofNat_le.2 (Nat.mod_le m (n + 1))
theorem tmod_inK {k : IntKind} {x y : Int} (h : inK k x) : inK k (x.tmod y) := by
  have h1 : kmin k ≤ 0 := by cases k <;> decide
  have h2 : 0 ≤ kmax k := by cases k <;> decide
  unfold inK at *
  rcases Int.le_total 0 x with h0 | h0
  · have a := Int.tmod_nonneg y h0
    have b : x.tmod y ≤ x := by
      exact tmod_le_self y h0
    omega
  · have a : x.tmod y ≤ 0 := by
      have := Int.tmod_nonneg y (show 0 ≤ -x by omega)
      rw [Int.neg_tmod] at this
      omega
    have b : x ≤ x.tmod y := by
      have := tmod_le_self y (show 0 ≤ -x by omega)
      rw [Int.neg_tmod] at this
      omega
    omega
theorem ishr_inK {k : IntKind} {x y : Int} (h : inK k x) : inK k (ishr k x y) := by
  have h1 : kmin k ≤ 0 := by cases k <;> decide
  have h2 : 0 ≤ kmax k := by cases k <;> decide
  unfold inK ishr at *
  have hp : (0 : Int) < 2 ^ (min y.toNat k.bits) := Int.pow_pos (by decide)
  rw [Int.fdiv_eq_ediv_of_nonneg _ (Int.le_of_lt hp)]
  rcases Int.le_total 0 x with h0 | h0
  · have a := Int.ediv_nonneg h0 (Int.le_of_lt hp)
    have b := Int.ediv_le_self (2 ^ (min y.toNat k.bits)) h0
    omega
  · have a : x / 2 ^ (min y.toNat k.bits) ≤ 0 := by
      rcases Int.lt_or_le 0 (x / 2 ^ (min y.toNat k.bits)) with h3 | h3
      · have := (Int.le_ediv_iff_mul_le hp).1 (show 1 ≤ x / 2 ^ (min y.toNat k.bits) by omega)
        omega
      · exact h3
    have b : x ≤ x / 2 ^ (min y.toNat k.bits) := by
      rw [Int.le_ediv_iff_mul_le hp]
      have : x * 2 ^ (min y.toNat k.bits) ≤ x * 1 := Int.mul_le_mul_of_nonpos_left h0 (by omega)
      omega
    omega

theorem intOp_sound {op : BinOp} {k : IntKind} {x y : SI} {r : VV} (hxk : inK k x.val) (hs : isShift op = false) (hrun : (intOp op k x y).run = some r) (t : TypeId) :
    ∃ v, (binOp op t (.int k x.val) (.int k y.val)).run P w = .ok v w ∧ RV ρ r v := by
  unfold intOp at hrun
  cases op <;> simp only [Tr.run_ok, Tr.run_test, Tr.run_no, and_false, false_or] at hrun <;> first | (simp [isShift] at hs; done) | skip
  case add => subst hrun; exact ⟨_, by simp [binOp, Op.intArith]; rfl, by simp [RV, val_op2, wrap_inK]⟩
  case sub => subst hrun; exact ⟨_, by simp [binOp, Op.intArith]; rfl, by simp [RV, val_op2, wrap_inK]⟩
  case mul => subst hrun; exact ⟨_, by simp [binOp, Op.intArith]; rfl, by simp [RV, val_op2, wrap_inK]⟩
  case and => subst hrun; exact ⟨_, by simp [binOp, Op.intBits]; rfl, by simp [RV, val_op2, iand, wrap_inK]⟩
  case or => subst hrun; exact ⟨_, by simp [binOp, Op.intBits]; rfl, by simp [RV, val_op2, ior, wrap_inK]⟩
  case xor => subst hrun; exact ⟨_, by simp [binOp, Op.intBits]; rfl, by simp [RV, val_op2, ixor, wrap_inK]⟩
  case andNot => subst hrun; exact ⟨_, by simp [binOp, Op.intBits]; rfl, by simp [RV, val_op2, iandn, wrap_inK]⟩
  case quo =>
    obtain ⟨h0, rfl⟩ := hrun
    rw [val_cmp] at h0
    have h0' : y.val ≠ 0 := by simpa [SI.val] using h0
    exact ⟨_, by simp [binOp, Op.intDiv, h0']; rfl, by simp [RV, val_op2, wrap_inK]⟩
  case rem =>
    obtain ⟨h0, rfl⟩ := hrun
    rw [val_cmp] at h0
    have h0' : y.val ≠ 0 := by simpa [SI.val] using h0
    exact ⟨_, by simp [binOp, Op.intDiv, h0']; rfl, by simp [RV, val_op2, tmod_inK hxk]⟩
  case eql => subst hrun; exact ⟨_, by simp [binOp, Op.intCmp]; rfl, by simp [RV, val_cmp]⟩
  case neq => subst hrun; exact ⟨_, by simp [binOp, Op.intCmp]; rfl, by simp [RV, val_cmp]⟩
  case lss => subst hrun; exact ⟨_, by simp [binOp, Op.intCmp]; rfl, by simp [RV, val_cmp]⟩
  case leq => subst hrun; exact ⟨_, by simp [binOp, Op.intCmp]; rfl, by simp [RV, val_cmp]⟩
  case gtr => subst hrun; exact ⟨_, by simp [binOp, Op.intCmp]; rfl, by simp [RV, val_cmp]⟩
  case geq => subst hrun; exact ⟨_, by simp [binOp, Op.intCmp]; rfl, by simp [RV, val_cmp]⟩

theorem shOp_sound {op : BinOp} {k k' : IntKind} {x y : SI} {r : VV} (hxk : inK k x.val) (hrun : (shOp op k x y).run = some r) (t : TypeId) :
    ∃ v, (binOp op t (.int k x.val) (.int k' y.val)).run P w = .ok v w ∧ RV ρ r v := by
  unfold shOp at hrun
  cases op <;> simp only [Tr.run_ok, Tr.run_test, Tr.run_no, and_false, false_or] at hrun
  case shl =>
    obtain ⟨h0, rfl⟩ := hrun
    rw [val_cmp] at h0
    have h0' : ¬ y.val < 0 := of_decide_eq_false h0
    exact ⟨_, by simp only [binOp, Op.shift, if_neg h0']; rfl, by simp [RV, val_op2, ishl, wrap_inK]⟩
  case shr =>
    obtain ⟨h0, rfl⟩ := hrun
    rw [val_cmp] at h0
    have h0' : ¬ y.val < 0 := of_decide_eq_false h0
    exact ⟨_, by simp only [binOp, Op.shift, if_neg h0']; rfl, by rw [RV, val_op2]; exact ⟨rfl, ishr_inK hxk⟩⟩

theorem negIf_sound {op : BinOp} {b : SB} {r : VV} (hrun : (negIf op b).run = some r) : (op = .eql ∧ r = .bool b) ∨ (op = .neq ∧ r = .bool b.not) := by
  unfold negIf at hrun
  cases op <;> simp only [Tr.run_ok, Tr.run_no] at hrun
  · exact .inl ⟨rfl, hrun.symm⟩
  · exact .inr ⟨rfl, hrun.symm⟩

theorem negIf_eq {op : BinOp} {b : SB} {r : VV} (hrun : (negIf op b).run = some r) {t : TypeId} {u v : Value} {f : Bool → Bool}
    (h1 : (binOp .eql t u v).run P w = .ok (.bool b.val) w) (h2 : (binOp .neq t u v).run P w = .ok (.bool (!b.val)) w) (_ : f = f) : ∃ x, (binOp op t u v).run P w = .ok x w ∧ RV ρ r x := by
  rcases negIf_sound hrun with ⟨rfl, rfl⟩ | ⟨rfl, rfl⟩
  · exact ⟨_, h1, rfl⟩
  · exact ⟨_, h2, by simp [RV, val_not]⟩

/-! ### Parts of structs and arrays -/
theorem run_part {t : TypeId} {l : List VV} {off : Nat} {r : S1} {cs : List Value} (hp : partS P t l off = some r) (hl : F2 (RV ρ) l cs) :
    ∃ v, (part t cs.toArray off).run P w = .ok v w ∧ R1 ρ r v := by
  unfold partS at hp
  split at hp
  · rename_i hk
    injection hp with hp
    subst hp
    obtain ⟨d, hd⟩ := aggK_underlying hk
    refine ⟨.agg ((cs.drop off).take (P.cellsOf t)).toArray, ?_, _, rfl, (hl.drop off).take _⟩
    unfold part
    rw [run_andThen_ok (run_isAgg_k hk)]
    simp only [if_true]
    rw [run_andThen_ok (run_sizeOf_k (known_of_underlying hd))]
    show Result.ok _ w = Result.ok _ w
    congr 2
    apply Array.ext'
    simp [List.extract_eq_take_drop]
  · rename_i hk
    split at hp
    · rename_i v hv
      injection hp with hp
      subst hp
      obtain ⟨u, hu, hr⟩ := hl.get off hv
      refine ⟨u, ?_, hr⟩
      unfold part
      rw [run_andThen_ok (run_isAgg_k hk)]
      simp [hu]
    · cases hp
  · cases hp

theorem eqT_sound : ∀ (d : Nat) {t : TypeId} {x y : S1} {b : SB} {rx ry : Value}, eqT P d t x y = some b → R1 ρ x rx → R1 ρ y ry → ∀ n, d ≤ n →
    (Op.equalIn n t rx ry).run P w = .ok b.val w ∧ P.eqGuardType n t = false
  | 0, _, _, _, _, _, _, h, _, _, _, _ => by simp [eqT] at h
  | d + 1, t, x, y, b, rx, ry, h, hx, hy, 0, hn => by omega
  | d + 1, t, x, y, b, rx, ry, h, hx, hy, n + 1, hn => by
    unfold eqT at h
    split at h
    · rename_i k0 hu
      split at h
      · rename_i k a k' c
        split at h
        · rename_i hkk
          subst hkk
          injection h with h
          subst h
          obtain ⟨rfl, _⟩ := hx
          obtain ⟨rfl, _⟩ := hy
          refine ⟨?_, by simp [Program.eqGuardType, hu]⟩
          unfold Op.equalIn
          rw [run_andThen_ok (run_underlying hu w)]
          simp [val_cmp]
        · cases h
      · cases h
    · rename_i hu
      split at h
      · injection h with h
        subst h
        obtain rfl := hx
        obtain rfl := hy
        refine ⟨?_, by simp [Program.eqGuardType, hu]⟩
        unfold Op.equalIn
        rw [run_andThen_ok (run_underlying hu w)]
        simp [val_eq]
      · cases h
    · rename_i fs hu
      split at h
      · rename_i l m
        split at h
        · cases h
        · rename_i hst
          obtain ⟨cl, rfl, hl⟩ := hx
          obtain ⟨cm, rfl, hm⟩ := hy
          have hfo : P.fieldsOf t = fs := by simp [Program.fieldsOf, hu]
          have key : ∀ (fl : List Field) (b : SB), eqFs P (eqT P d) l m fl = some b →
              (Op.eqFields n cl.toArray cm.toArray fl).run P w = .ok b.val w ∧ fl.any (fun f => f.name != "_" && P.eqGuardType n f.type) = false := by
            intro fl
            induction fl with
            | nil => intro b hb; simp [eqFs] at hb; subst hb; exact ⟨rfl, rfl⟩
            | cons f fl ih =>
              intro b hb
              unfold eqFs at hb
              split at hb
              · cases hb
              · rename_i hname
                split at hb
                · rename_i a c ha hc
                  split at hb
                  · rename_i r s hr hs
                    injection hb with hb
                    subst hb
                    obtain ⟨va, hva, ra⟩ := run_part (P := P) (w := w) ha hl
                    obtain ⟨vc, hvc, rc⟩ := run_part (P := P) (w := w) hc hm
                    obtain ⟨e1, e2⟩ := eqT_sound d hr ra rc n (by omega)
                    obtain ⟨i1, i2⟩ := ih s hs
                    have hne : f.name ≠ "_" := by simpa using hname
                    refine ⟨?_, by simp [e2, i2]⟩
                    unfold Op.eqFields
                    rw [if_pos hne, run_andThen_ok hva, run_andThen_ok hvc, run_andThen_ok e1, val_and]
                    cases r.val with
                    | true => simpa using i1
                    | false => simp
                  · cases hb
                · cases hb
          obtain ⟨k1, k2⟩ := key fs.toList b h
          refine ⟨?_, ?_⟩
          · rw [run_equalIn_struct w n t cl.toArray cm.toArray (by rw [hfo]; exact hu) hst, hfo]
            exact k1
          · unfold Program.eqGuardType
            simp only [hu]
            rw [← Array.any_toList]
            exact k2
      · cases h
    · rename_i len e hu
      split at h
      · rename_i l m
        split at h
        · rename_i k hkn
          obtain ⟨cl, rfl, hl⟩ := hx
          obtain ⟨cm, rfl, hm⟩ := hy
          have key : ∀ (is : List Nat) (b : SB), eqAs P (eqT P d) e l m is = some b →
              (Op.eqItems n e (P.cellsOf e) cl.toArray cm.toArray is).run P w = .ok b.val w ∧ (is ≠ [] → P.eqGuardType n e = false) := by
            intro is
            induction is with
            | nil => intro b hb; simp [eqAs] at hb; subst hb; exact ⟨rfl, fun h => absurd rfl h⟩
            | cons i is ih =>
              intro b hb
              unfold eqAs at hb
              split at hb
              · rename_i a c ha hc
                split at hb
                · rename_i r s hr hs
                  injection hb with hb
                  subst hb
                  obtain ⟨va, hva, ra⟩ := run_part (P := P) (w := w) ha hl
                  obtain ⟨vc, hvc, rc⟩ := run_part (P := P) (w := w) hc hm
                  obtain ⟨e1, e2⟩ := eqT_sound d hr ra rc n (by omega)
                  obtain ⟨i1, _⟩ := ih s hs
                  refine ⟨?_, fun _ => e2⟩
                  unfold Op.eqItems
                  rw [run_andThen_ok hva, run_andThen_ok hvc, run_andThen_ok e1, val_and]
                  cases r.val with
                  | true => simpa using i1
                  | false => simp
                · cases hb
              · cases hb
          obtain ⟨k1, k2⟩ := key _ b h
          obtain ⟨ti, hti⟩ : ∃ i, P.info? e = some i := by
            unfold known at hkn
            exact Option.isSome_iff_exists.1 hkn
          refine ⟨?_, ?_⟩
          · rw [run_equalIn_array w n cl.toArray cm.toArray hu hti]
            exact k1
          · unfold Program.eqGuardType
            simp only [hu]
            exact k2 (by simp)
        · cases h
      · cases h
    · cases h

theorem run_eqGuard_not {op : BinOp} {t : TypeId} {x y : Operand} {u v : Value} (h : ¬∃ xs ys, u = .agg xs ∧ v = .agg ys) (h2 : u ≠ .nilIface) : (eqGuard op t x y u v).run P w = .ok () w := by
  unfold eqGuard
  cases op <;> (try rfl) <;> (cases u <;> (try rfl) <;> (try exact absurd rfl h2) <;> (cases v <;> (try rfl) <;> exact absurd ⟨_, _, rfl, rfl⟩ h))

theorem depth_ge (P : Program) : 8 ≤ P.depth := by unfold Program.depth Made.depth; omega
end
end Go.Proofs.Ytcolladpdmjloaa.Eng

/-
  The engine, part F: every operation.
-/
namespace Go.Proofs.Ytcolladpdmjloaa.Eng
open Go

section
variable {A : Type} {S : Sys A} {P : Program} {B : Nat} {Z : Nat → Prop} {ρ : Rho} {F : Fm} {H : Nat → Option (VObj A)} {w : World} {nid : Nat}

theorem RV_not_agg {x : VV} {v : Value} (h : RV ρ x v) : (∀ l, v ≠ .agg l) ∧ ∀ l, v ≠ .tuple l := by
  have := RV.one h
  constructor <;> (rintro l rfl; simp [Value.oneCell'] at this)

theorem sameV_sound {x y : VV} {ty : TypeId} {b : SB} {u v : Value} (h : sameV x y (descK P ty) = some b) (hx : RV ρ x u) (hy : RV ρ y v) :
    (Op.equal ty u v).run P w = .ok b.val w ∧ (∀ k n, u ≠ .int k n) ∧ (∀ k n, u ≠ .float k n) ∧ (∀ k n m, u ≠ .complex k n m) ∧ (∀ s, u ≠ .string s) ∧ u ≠ .nilIface := by
  have hd : ∀ {n}, descK P ty = n → (n = 1 → P.underlying ty = some .bool) ∧ (n = 2 → ∃ e, P.underlying ty = some (.pointer e)) ∧ (n = 3 → ∃ e, P.underlying ty = some (.slice e)) ∧
      (n = 4 → ∃ a b c, P.underlying ty = some (.func a b c)) := by
    intro n hn
    unfold descK at hn
    split at hn <;> subst hn <;> simp_all
  generalize hn : descK P ty = n at h
  obtain ⟨d1, d2, d3, d4⟩ := hd hn
  unfold Op.equal Op.maxDepth
  unfold sameV at h
  split at h
  · have hu := d1 rfl
    split at h
    · injection h with h
      subst h
      obtain rfl := hx
      obtain rfl := hy
      refine ⟨?_, by simp, by simp, by simp, by simp, by simp⟩
      unfold Op.equalIn
      rw [run_andThen_ok (run_underlying hu w)]
      simp [val_eq]
    · cases h
  · obtain ⟨e, hu⟩ := d2 rfl
    split at h
    · injection h with h
      subst h
      obtain rfl := hx
      obtain rfl := hy
      refine ⟨?_, by simp, by simp, by simp, by simp, by simp⟩
      unfold Op.equalIn
      rw [run_andThen_ok (run_underlying hu w)]
      simp [SB.val]
    · injection h with h
      subst h
      obtain ⟨p, _, rfl⟩ := hx
      obtain rfl := hy
      refine ⟨?_, by simp, by simp, by simp, by simp, by simp⟩
      unfold Op.equalIn
      rw [run_andThen_ok (run_underlying hu w)]
      simp [SB.val]
    · injection h with h
      subst h
      obtain rfl := hx
      obtain ⟨p, _, rfl⟩ := hy
      refine ⟨?_, by simp, by simp, by simp, by simp, by simp⟩
      unfold Op.equalIn
      rw [run_andThen_ok (run_underlying hu w)]
      simp [SB.val]
    · cases h
  · obtain ⟨e, hu⟩ := d3 rfl
    split at h
    · injection h with h
      subst h
      obtain rfl := hx
      obtain rfl := hy
      refine ⟨?_, by simp, by simp, by simp, by simp, by simp⟩
      unfold Op.equalIn
      rw [run_andThen_ok (run_underlying hu w)]
      simp [SB.val]
    · injection h with h
      subst h
      obtain ⟨p, _, rfl⟩ := hx
      obtain rfl := hy
      refine ⟨?_, by simp, by simp, by simp, by simp, by simp⟩
      unfold Op.equalIn
      rw [run_andThen_ok (run_underlying hu w)]
      simp [SB.val]
    · injection h with h
      subst h
      obtain ⟨p, _, _, _, rfl⟩ := hx
      obtain rfl := hy
      refine ⟨?_, by simp, by simp, by simp, by simp, by simp⟩
      unfold Op.equalIn
      rw [run_andThen_ok (run_underlying hu w)]
      simp [SB.val]
    · injection h with h
      subst h
      obtain rfl := hx
      obtain ⟨p, _, rfl⟩ := hy
      refine ⟨?_, by simp, by simp, by simp, by simp, by simp⟩
      unfold Op.equalIn
      rw [run_andThen_ok (run_underlying hu w)]
      simp [SB.val]
    · injection h with h
      subst h
      obtain rfl := hx
      obtain ⟨p, _, _, _, rfl⟩ := hy
      refine ⟨?_, by simp, by simp, by simp, by simp, by simp⟩
      unfold Op.equalIn
      rw [run_andThen_ok (run_underlying hu w)]
      simp [SB.val]
    · injection h with h
      subst h
      obtain ⟨a, c, rfl, _⟩ := hx
      obtain rfl := hy
      refine ⟨?_, by simp, by simp, by simp, by simp, by simp⟩
      unfold Op.equalIn
      rw [run_andThen_ok (run_underlying hu w)]
      simp [SB.val]
    · injection h with h
      subst h
      obtain rfl := hx
      obtain ⟨a, c, rfl, _⟩ := hy
      refine ⟨?_, by simp, by simp, by simp, by simp, by simp⟩
      unfold Op.equalIn
      rw [run_andThen_ok (run_underlying hu w)]
      simp [SB.val]
    · cases h
  · obtain ⟨a, b', c, hu⟩ := d4 rfl
    split at h
    · injection h with h
      subst h
      obtain rfl := hx
      obtain rfl := hy
      refine ⟨?_, by simp, by simp, by simp, by simp, by simp⟩
      unfold Op.equalIn
      rw [run_andThen_ok (run_underlying hu w)]
      simp [SB.val]
    · injection h with h
      subst h
      obtain ⟨_, _, _, _, rfl⟩ := hx
      obtain rfl := hy
      refine ⟨?_, by simp, by simp, by simp, by simp, by simp⟩
      unfold Op.equalIn
      rw [run_andThen_ok (run_underlying hu w)]
      simp [SB.val]
    · injection h with h
      subst h
      obtain rfl := hx
      obtain ⟨_, _, _, _, rfl⟩ := hy
      refine ⟨?_, by simp, by simp, by simp, by simp, by simp⟩
      unfold Op.equalIn
      rw [run_andThen_ok (run_underlying hu w)]
      simp [SB.val]
    · cases h
  · cases h

theorem binOp_eq {ty : TypeId} {u v : Value} (h1 : ∀ k n, u ≠ .int k n) (h2 : ∀ k n, u ≠ .float k n) (h3 : ∀ k n m, u ≠ .complex k n m) (h4 : ∀ s, u ≠ .string s) :
    binOp .eql ty u v = (do pure (.bool (← Op.equal ty u v))) ∧ binOp .neq ty u v = (do pure (.bool (!(← Op.equal ty u v)))) := by
  constructor <;> (cases u <;> first | rfl | exact absurd rfl (h1 _ _) | exact absurd rfl (h2 _ _) | exact absurd rfl (h3 _ _ _) | exact absurd rfl (h4 _))

theorem vbin_sound {op : BinOp} {ty : TypeId} {x y : SV} {r : VV} {u v : Value} (ox oy : Operand) (hrun : (vbin P ty op x y).run = some r) (hx : RS ρ x u) (hy : RS ρ y v) :
    ∃ z, (do eqGuard op ty ox oy u v; binOp op ty u v : Sem Value).run P w = .ok z w ∧ RV ρ r z := by
  unfold vbin at hrun
  split at hrun
  · rename_i k a k' b
    obtain ⟨rfl, hka⟩ : u = .int k a.val ∧ inK k a.val := hx
    obtain ⟨rfl, hkb⟩ : v = .int k' b.val ∧ inK k' b.val := hy
    have hg : (eqGuard op ty ox oy (.int k a.val) (.int k' b.val)).run P w = .ok () w := run_eqGuard_not (by rintro ⟨_, _, h, _⟩; cases h) (by simp)
    split at hrun
    · obtain ⟨z, hz, hr⟩ := shOp_sound (P := P) (w := w) (ρ := ρ) (k' := k') hka hrun ty
      exact ⟨z, by rw [run_andThen_ok hg]; exact hz, hr⟩
    · rename_i hs
      rw [Tr.run_chk] at hrun
      obtain ⟨hk, hrun⟩ := hrun
      obtain rfl := of_decide_eq_true hk
      obtain ⟨z, hz, hr⟩ := intOp_sound (P := P) (w := w) (ρ := ρ) hka hs hrun ty
      exact ⟨z, by rw [run_andThen_ok hg]; exact hz, hr⟩
  · rename_i a b
    rw [Tr.run_opt] at hrun
    obtain ⟨sb, hsb, hrun⟩ := hrun
    obtain ⟨ca, rfl, _⟩ := id hx
    obtain ⟨cb, rfl, _⟩ := id hy
    have h1 := (eqT_sound (P := P) (w := w) 8 hsb hx hy 10000 (by omega)).1
    have h2 := (eqT_sound (P := P) (w := w) 8 hsb hx hy P.depth (depth_ge P)).2
    have hg : (eqGuard op ty ox oy (.agg ca.toArray) (.agg cb.toArray)).run P w = .ok () w := run_eqGuard_agg w op ty ox oy _ _ h2
    have e1 : (binOp .eql ty (.agg ca.toArray) (.agg cb.toArray)).run P w = .ok (.bool sb.val) w := by
      rw [run_eql_struct, h1]; rfl
    have e2 : (binOp .neq ty (.agg ca.toArray) (.agg cb.toArray)).run P w = .ok (.bool (!sb.val)) w := by
      rw [run_neq_struct, h1]; rfl
    obtain ⟨z, hz, hr⟩ := negIf_eq (P := P) (w := w) (ρ := ρ) (f := id) hrun e1 e2 rfl
    exact ⟨z, by rw [run_andThen_ok hg]; exact hz, hr⟩
  · rename_i x y _
    rw [Tr.run_opt] at hrun
    obtain ⟨sb, hsb, hrun⟩ := hrun
    obtain ⟨he, n1, n2, n3, n4, n5⟩ := sameV_sound (P := P) (w := w) hsb hx hy
    have hg : (eqGuard op ty ox oy u v).run P w = .ok () w := run_eqGuard_not (by rintro ⟨xs, _, h, _⟩; exact (RV_not_agg hx).1 _ h) n5
    obtain ⟨b1, b2⟩ := binOp_eq (ty := ty) (v := v) n1 n2 n3 n4
    have e1 : (binOp .eql ty u v).run P w = .ok (.bool sb.val) w := by
      rw [b1, run_andThen_ok he]; rfl
    have e2 : (binOp .neq ty u v).run P w = .ok (.bool (!sb.val)) w := by
      rw [b2, run_andThen_ok he]; rfl
    obtain ⟨z, hz, hr⟩ := negIf_eq (P := P) (w := w) (ρ := ρ) (f := id) hrun e1 e2 rfl
    exact ⟨z, by rw [run_andThen_ok hg]; exact hz, hr⟩
  · simp [Tr.run] at hrun

theorem eachIdx_sound {α : Type} {x : Int} {f : Nat → Tr α} {r : α} : ∀ {n : Nat}, (eachIdx x f n).run = some r → ∃ i : Nat, x = (i : Int) ∧ i < n ∧ (f i).run = some r
  | 0, h => by simp [eachIdx, Tr.run] at h
  | n + 1, h => by
    rw [eachIdx, Tr.run_ite] at h
    rcases h with ⟨h1, h2⟩ | ⟨_, h2⟩
    · exact ⟨n, by simpa using h1, Nat.lt_succ_self n, h2⟩
    · obtain ⟨i, h3, h4, h5⟩ := eachIdx_sound h2
      exact ⟨i, h3, Nat.lt_succ_of_lt h4, h5⟩
theorem atIdx_sound {α : Type} {x : SI} {n : Nat} {f : Nat → Tr α} {r : α} (h : (atIdx x n f).run = some r) : ∃ i : Nat, x.val = (i : Int) ∧ i < n ∧ (f i).run = some r := by
  unfold atIdx at h
  split at h
  · split at h
    · rw [Tr.run_chk] at h
      exact ⟨_, rfl, of_decide_eq_true h.1, h.2⟩
    · simp [Tr.run] at h
  · exact eachIdx_sound h

theorem mm2_val (mx : Bool) (x y : SI) : (mm2 mx x y).val = if mx then (if y.val > x.val then y.val else x.val) else (if y.val < x.val then y.val else x.val) := by
  cases mx <;> simp [mm2, val_op2]
theorem mmFold_sound {mx : Bool} {k : IntKind} : ∀ {l : List SV} {vs : List Value} {x : SI} {r : VV}, inK k x.val → (mmFold mx k x l).run = some r → F2 (RS ρ) l vs →
    ∃ v, (vs.foldlM (if mx then Builtin.max2 else Builtin.min2) (.int k x.val)).run P w = .ok v w ∧ RV ρ r v
  | [], [], x, r, hk, h, _ => by
    simp only [mmFold, Tr.run_ok] at h
    subst h
    exact ⟨_, rfl, rfl, hk⟩
  | .s (.one (.int k' y)) :: l, v :: vs, x, r, hk, h, hl => by
    obtain ⟨hv, hl⟩ := hl
    obtain ⟨rfl, hky⟩ : v = .int k' y.val ∧ inK k' y.val := hv
    unfold mmFold at h
    rw [Tr.run_chk] at h
    obtain ⟨hkk, h⟩ := h
    obtain rfl := of_decide_eq_true hkk
    have hk2 : inK k (mm2 mx x y).val := by
      rw [mm2_val]
      split <;> split <;> assumption
    obtain ⟨u, hu, hr⟩ := mmFold_sound hk2 h hl
    refine ⟨u, ?_, hr⟩
    rw [List.foldlM_cons]
    have : ((if mx then Builtin.max2 else Builtin.min2) (.int k x.val) (.int k y.val) : Sem Value).run P w = .ok (.int k (mm2 mx x y).val) w := by
      rw [mm2_val]
      cases mx <;> rfl
    rw [run_andThen_ok this]
    exact hu
  | [], _ :: _, _, _, _, _, h => h.elim
  | _ :: _, [], _, _, _, _, h => h.elim
  | .t _ :: _, _ :: _, _, _, _, h, _ => by simp [mmFold, Tr.run] at h
  | .s (.agg _) :: _, _ :: _, _, _, _, h, _ => by simp [mmFold, Tr.run] at h
  | .s (.one (.bool _)) :: _, _ :: _, _, _, _, h, _ => by simp [mmFold, Tr.run] at h
  | .s (.one (.ptr _ _)) :: _, _ :: _, _, _, _, h, _ => by simp [mmFold, Tr.run] at h
  | .s (.one .nilp) :: _, _ :: _, _, _, _, h, _ => by simp [mmFold, Tr.run] at h
  | .s (.one (.tptr _ _ _)) :: _, _ :: _, _, _, _, h, _ => by simp [mmFold, Tr.run] at h
  | .s (.one (.sl _ _ _ _)) :: _, _ :: _, _, _, _, h, _ => by simp [mmFold, Tr.run] at h
  | .s (.one (.ts _ _ _ _)) :: _, _ :: _, _, _, _, h, _ => by simp [mmFold, Tr.run] at h
  | .s (.one .nils) :: _, _ :: _, _, _, _, h, _ => by simp [mmFold, Tr.run] at h
  | .s (.one (.es _)) :: _, _ :: _, _, _, _, h, _ => by simp [mmFold, Tr.run] at h
  | .s (.one (.an _ _)) :: _, _ :: _, _, _, _, h, _ => by simp [mmFold, Tr.run] at h
  | .s (.one (.fn _ _ _)) :: _, _ :: _, _, _, _, h, _ => by simp [mmFold, Tr.run] at h
  | .s (.one .nilf) :: _, _ :: _, _, _, _, h, _ => by simp [mmFold, Tr.run] at h
  | .s (.one .any) :: _, _ :: _, _, _, _, h, _ => by simp [mmFold, Tr.run] at h
  | .s (.one (.raw _)) :: _, _ :: _, _, _, _, h, _ => by simp [mmFold, Tr.run] at h

theorem vlen_sound {x : SV} {n : SI} {v : Value} (h : vlen x = some n) (hx : RS ρ x v) : ∃ a len cap, v = .slice a len cap ∧ n.val = (len : Int) ∧ inK .i64 n.val := by
  unfold vlen at h
  split at h
  · split at h
    · rename_i hle
      injection h with h; subst h
      obtain ⟨p, _, rfl⟩ := hx
      have := Nat.le_of_ble_eq_true hle
      exact ⟨_, _, _, rfl, rfl, by simp only [inK, kmin, kmax, SI.val]; omega⟩
    · cases h
  · rename_i b r len cap
    injection h with h; subst h
    obtain ⟨p, _, hle, _, rfl⟩ := hx
    refine ⟨_, _, _, rfl, by cases len <;> rfl, ?_⟩
    have : len.toSI.val = (len.val : Int) := by cases len <;> rfl
    rw [this]
    simp only [inK, kmin, kmax]
    omega
  · injection h with h; subst h
    obtain rfl := hx
    exact ⟨_, _, _, rfl, rfl, by simp [inK, kmin, kmax, SI.val]⟩
  · injection h with h; subst h
    obtain ⟨a, c, rfl, _⟩ := hx
    exact ⟨_, _, _, rfl, rfl, by simp [inK, kmin, kmax, SI.val]⟩
  · rename_i b len
    injection h with h; subst h
    obtain ⟨o, cap, rfl, hle, _⟩ := hx
    refine ⟨_, _, _, rfl, by cases len <;> rfl, ?_⟩
    have : len.toSI.val = (len.val : Int) := by cases len <;> rfl
    rw [this]
    simp only [inK, kmin, kmax]
    omega
  · cases h

theorem ptrs_sound : ∀ {l : List SV} {m : List (Nat × Nat)} {vs : List Value}, ptrsOf l = some m → F2 (RS ρ) l vs → F2 (RP ρ) m vs
  | [], m, [], h, _ => by simp [ptrsOf] at h; subst h; trivial
  | .s (.one (.ptr b off)) :: l, m, v :: vs, h, hl => by
    simp only [ptrsOf, Option.map_eq_some_iff] at h
    obtain ⟨m', hm, rfl⟩ := h
    exact ⟨hl.1, ptrs_sound hm hl.2⟩
  | [], _, _ :: _, _, h => h.elim
  | _ :: _, _, [], _, h => h.elim
  | .t _ :: _, _, _ :: _, h, _ => by simp [ptrsOf] at h
  | .s (.agg _) :: _, _, _ :: _, h, _ => by simp [ptrsOf] at h
  | .s (.one (.bool _)) :: _, _, _ :: _, h, _ => by simp [ptrsOf] at h
  | .s (.one (.int _ _)) :: _, _, _ :: _, h, _ => by simp [ptrsOf] at h
  | .s (.one .nilp) :: _, _, _ :: _, h, _ => by simp [ptrsOf] at h
  | .s (.one (.tptr _ _ _)) :: _, _, _ :: _, h, _ => by simp [ptrsOf] at h
  | .s (.one (.sl _ _ _ _)) :: _, _, _ :: _, h, _ => by simp [ptrsOf] at h
  | .s (.one (.ts _ _ _ _)) :: _, _, _ :: _, h, _ => by simp [ptrsOf] at h
  | .s (.one .nils) :: _, _, _ :: _, h, _ => by simp [ptrsOf] at h
  | .s (.one (.es _)) :: _, _, _ :: _, h, _ => by simp [ptrsOf] at h
  | .s (.one (.an _ _)) :: _, _, _ :: _, h, _ => by simp [ptrsOf] at h
  | .s (.one (.fn _ _ _)) :: _, _, _ :: _, h, _ => by simp [ptrsOf] at h
  | .s (.one .nilf) :: _, _, _ :: _, h, _ => by simp [ptrsOf] at h
  | .s (.one .any) :: _, _, _ :: _, h, _ => by simp [ptrsOf] at h
  | .s (.one (.raw _)) :: _, _, _ :: _, h, _ => by simp [ptrsOf] at h

theorem intLit_sound {x : SV} {n : Nat} {v : Value} (h : intLit x = some n) (hx : RS ρ x v) : ∃ k, v = .int k (n : Int) := by
  unfold intLit at h
  split at h
  · rename_i k m
    split at h
    · injection h with h; subst h
      exact ⟨k, hx.1⟩
    · cases h
  · cases h

theorem fieldPlace_run {a : Addr} {fd : Field} (hk : known P fd.type = true) (h0 : P.cellsOf fd.type ≠ 0) : (fieldPlace a fd).run P w = .ok (a.add fd.offset) w := by
  unfold fieldPlace
  rw [run_andThen_ok (run_sizeOf_k hk), if_neg h0]
  rfl
end
end Go.Proofs.Ytcolladpdmjloaa.Eng

/-
  The engine, part G: the law of all operations, calls too.
-/
namespace Go.Proofs.Ytcolladpdmjloaa.Eng
open Go

section
variable {A : Type} {S : Sys A} {P : Program} {B : Nat} {Z : Nat → Prop} {ρ : Rho} {F : Fm} {H : Nat → Option (VObj A)} {w : World} {nid : Nat}

theorem hget_restrict (hp : HP A) (b : Nat) : ∀ R : List Nat, hget (restrict hp R) b = if b ∈ R then hget hp b else none
  | [] => by simp [restrict, hget]
  | c :: R => by
    show (match Nat.beq c b with | true => hget hp c | false => hget (restrict hp R) b) = _
    cases h : Nat.beq c b with
    | true =>
      obtain rfl := Nat.eq_of_beq_eq_true h
      simp
    | false =>
      have hne : c ≠ b := Nat.ne_of_beq_eq_false h
      simp only
      rw [hget_restrict hp b R]
      by_cases hb : b ∈ R
      · simp [hb]
      · simp [hb, Ne.symm hne]
theorem mem_pick {keep : List Nat} {hp : HP A} {b : Nat} : ∀ {l : List Nat}, b ∈ (pickIds nid keep hp l).map (·.1) ↔ b ∈ l ∧ (b < nid ∨ b ∈ keep)
  | [] => by simp [pickIds]
  | c :: l => by
    unfold pickIds
    cases h : (Nat.blt c nid || memN c keep) with
    | true =>
      simp only [Bool.or_eq_true, memN_iff] at h
      have hc : c < nid ∨ c ∈ keep := h.imp (fun h => by simpa using h) id
      simp only [List.map_cons, List.mem_cons, mem_pick (l := l)]
      constructor
      · rintro (rfl | ⟨h1, h2⟩)
        · exact ⟨.inl rfl, hc⟩
        · exact ⟨.inr h1, h2⟩
      · rintro ⟨rfl | h1, h2⟩
        · exact .inl rfl
        · exact .inr ⟨h1, h2⟩
    | false =>
      simp only [Bool.or_eq_false_iff] at h
      have hc : ¬(c < nid ∨ c ∈ keep) := by
        rintro (h1 | h1)
        · have := h.1
          rw [show Nat.blt c nid = true from by rw [Nat.blt_eq]; exact h1] at this
          cases this
        · have := h.2
          rw [(memN_iff _ _).2 h1] at this
          cases this
      simp only [mem_pick (l := l), List.mem_cons]
      constructor
      · rintro ⟨h1, h2⟩
        exact ⟨.inr h1, h2⟩
      · rintro ⟨rfl | h1, h2⟩
        · exact absurd h2 hc
        · exact ⟨h1, h2⟩
theorem over_pick {keep : List Nat} {hp : HP A} {b : Nat} : ∀ {l : List Nat} {H : Nat → Option (VObj A)}, b ∈ (pickIds nid keep hp l).map (·.1) → over H (pickIds nid keep hp l) b = hget hp b
  | [], _, h => by simp [pickIds] at h
  | c :: l, H, h => by
    unfold pickIds at h ⊢
    split
    · rename_i hc
      simp only [hc, List.map_cons, List.mem_cons] at h
      simp only [over]
      by_cases hb : b ∈ (pickIds nid keep hp l).map (·.1)
      · exact over_pick hb
      · rw [over_out hb]
        rcases h with rfl | h
        · simp
        · exact absurd h hb
    · rename_i hc
      simp only [hc] at h
      exact over_pick h

theorem ptrs_RS {m : List (Nat × Nat)} {vs : List Value} (h : F2 (RP ρ) m vs) : F2 (RS ρ) (m.map fun p => SV.v (.ptr p.1 p.2)) vs := by
  have := h.map (R := RS ρ) (fun p : Nat × Nat => SV.v (.ptr p.1 p.2)) (id : Value → Value) (fun c d hcd => hcd)
  simpa using this

theorem vcall_sound {call : FuncId → List SV → HP A → Nat → Tr (CR A)} (hcall : CallOK S P call) {f : FuncId} {args : List SV} {hp : HP A} {e : Eff A} {vargs : List Value}
    (hrun : (vcall P call f args hp nid).run = some e) (h : HR S B Z ρ F H w) (hag : ∀ b, b ∈ e.rd ∨ b ∈ e.asg.map (·.1) → H b = hget hp b)
    (hz : ∀ b, nid ≤ b → b < e.nid → Z b) (ha : F2 (RS ρ) args vargs) :
    nid ≤ e.nid ∧ hasBody P f = true ∧ Calls P f vargs.toArray w fun en w' => ∃ v, en = .returned v ∧ Done S B Z ρ F H w nid e v w' := by
  unfold vcall at hrun
  simp only [Tr.run_chk, Tr.run_bind, Tr.run_ok, Bool.and_eq_true] at hrun
  obtain ⟨⟨hb, hR⟩, r, hr, hn, rfl⟩ := hrun
  generalize hRR : reach hp 1000 (args.flatMap svIds) [] = R at *
  have hRlt : ∀ b ∈ R, b < nid := fun b hb => by
    have := List.all_eq_true.1 hR b hb
    simpa using this
  have hn' : nid ≤ r.nid := by simpa using hn
  refine ⟨hn', hb, ?_⟩
  let FR : Fm := fun b => if b ∈ R then F b else fun _ => False
  have hRR : HR S B Z ρ FR (hget (restrict hp R)) w := by
    refine ⟨fun b o ho => ?_, fun b hn x hx => ?_, fun b x hx => ?_, fun b c x hb hc => ?_, h.fresh, h.base⟩
    · rw [hget_restrict] at ho
      split at ho
      · rename_i hbR
        simp only [FR, hbR, if_true]
        exact h.live b o (by rw [hag b (.inl hbR)]; exact ho)
      · cases ho
    · rw [hget_restrict] at hn
      by_cases hbR : b ∈ R
      · simp only [hbR, if_true] at hn
        simp only [FR, hbR, if_true] at hx
        exact h.dead b (by rw [hag b (.inl hbR)]; exact hn) x hx
      · simp [FR, hbR] at hx
    · by_cases hbR : b ∈ R
      · simp only [FR, hbR, if_true] at hx
        exact h.bound b x hx
      · simp [FR, hbR] at hx
    · by_cases hbR : b ∈ R
      · by_cases hcR : c ∈ R
        · simp only [FR, hbR, hcR, if_true] at hb hc
          exact h.disj b c x hb hc
        · simp [FR, hcR] at hc
      · simp [FR, hbR] at hb
  refine (hcall f args _ nid r hr hb B Z ρ FR w vargs hRR hz ha).mono ?_
  rintro en w' ⟨v, ρ', Fc, rfl, hv, hHR, hchg⟩
  refine ⟨v, rfl, ?_⟩
  generalize hkeep : reach r.hp 1000 (svIds r.val ++ R) [] = keep at *
  let asg := pickIds nid keep r.hp r.dirty
  let F' : Fm := fun b => if b ∈ asg.map (·.1) then Fc b else F b
  have hsub : ∀ b, b ∈ asg.map (·.1) → b ∈ r.dirty := fun b hb => (mem_pick.1 hb).1
  have hfr : ∀ c x, c ∈ r.dirty → FR c x → c ∈ asg.map (·.1) ∧ F c x := fun c x hc hx => by
    by_cases hcR : c ∈ R
    · simp only [FR, hcR, if_true] at hx
      exact ⟨mem_pick.2 ⟨hc, .inl (hRlt c hcR)⟩, hx⟩
    · simp [FR, hcR] at hx
  have hc : Chg (fun b => b ∈ asg.map (·.1)) ρ F w ρ' F' w' := by
    refine ⟨hchg.rho, fun b hb => by simp only [F']; rw [if_neg hb], fun b x hb hx => ?_, hchg.same, fun k hk hck => ?_⟩
    · simp only [F'] at hx
      rw [if_pos hb] at hx
      rcases hchg.own b x (hsub b hb) hx with h1 | ⟨c, hc, hcx⟩
      · exact .inl h1
      · obtain ⟨h2, h3⟩ := hfr c x hc hcx
        exact .inr ⟨c, h2, h3⟩
    · refine hchg.heap k hk fun c hc hcx => ?_
      obtain ⟨h2, h3⟩ := hfr c k hc hcx
      exact hck c h2 h3
  have hF' : ∀ b, b ∈ asg.map (·.1) → F' b = Fc b := fun b hb => by simp only [F']; rw [if_pos hb]
  refine ⟨ρ', F', hv, ?_, hc⟩
  refine h.step hc (fun b hb => over_out hb) (fun b o hb ho => ?_) (fun b hb ho x hx => ?_) (fun b x hb hx => ?_) (fun b c x hb hc' hbx hcx => ?_) hHR.fresh
  · rw [hF' b hb]
    exact hHR.live b o (by rw [← over_pick hb]; exact ho)
  · rw [hF' b hb] at hx
    exact hHR.dead b (by rw [← over_pick hb]; exact ho) x hx
  · rw [hF' b hb] at hx
    exact (hHR.bound b x hx).2
  · rw [hF' b hb] at hbx
    rw [hF' c hc'] at hcx
    exact hHR.disj b c x hbx hcx

theorem callFunc_run (hnames : ∀ (f : FuncId) fn, P.funcs[f]? = some fn → (fn.name == "runtime.NumGoroutine") = false) {f : FuncId} {args : Array Value} (hb : hasBody P f = true) :
    (callFunc f args).run P w = .ok (.enter f args) w := by
  unfold hasBody at hb
  cases hf : P.funcs[f]? with
  | none => simp [hf] at hb
  | some fn =>
    simp only [hf] at hb
    unfold callFunc
    rw [run_andThen_ok (run_program P w)]
    simp only [hf, hnames f fn hf]
    have : fn.body.isNone = false := by cases hbb : fn.body <;> simp_all
    simp [this]

theorem lands_mono {r : Result Next} {K K' : Value → World → Prop} (h : ∀ v w, K v w → K' v w) (hl : Lands P r K) : Lands P r K' := by
  unfold Lands at *
  split at hl
  · exact h _ _ hl
  · exact h _ _ hl
  · exact hl.mono fun e w'' ⟨v, he, hk⟩ => ⟨v, he, h _ _ hk⟩
  · exact hl.elim

theorem args_RS {ev : Operand → SV} {rv : Operand → Value} (l : Array Operand) (h : ∀ x ∈ l.toList, RS ρ (ev x) (rv x)) : F2 (RS ρ) (l.toList.map ev) (l.map rv).toList := by
  rw [Array.toList_map]
  exact F2.of_map _ _ h
end
end Go.Proofs.Ytcolladpdmjloaa.Eng
