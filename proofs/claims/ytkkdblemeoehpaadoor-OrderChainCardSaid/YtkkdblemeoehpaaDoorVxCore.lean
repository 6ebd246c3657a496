/- A symbolic executor for loaded Go code: values by shape, memory by names, slices as lists. Definitions alone; its soundness stands in VxSound. -/
import Derived.Calls
import Derived.Orders
import Derived.LoopN
import Derived.KernelRfl
namespace Vx
open Go

inductive Shape where
  | int (k : IntKind) | bool | str | fn | unit
  | slice (e : Shape) | pair (a b : Shape)
  deriving DecidableEq

@[reducible] def Den : Shape → Type
  | .int _ => Int
  | .bool => Bool
  | .str => ByteArray
  | .fn => Option Nat
  | .unit => Unit
  | .slice e => List (Den e)
  | .pair a b => Den a × Den b

def Shape.width : Shape → Nat
  | .unit => 0
  | .pair a b => a.width + b.width
  | _ => 1

def Shape.dflt : (τ : Shape) → Den τ
  | .int _ => (0 : Int)
  | .bool => false
  | .str => ⟨#[]⟩
  | .fn => none
  | .unit => ()
  | .slice _ => []
  | .pair a b => (a.dflt, b.dflt)

/-- One cell's content. -/
inductive SC where
  | undef
  | v (x : Value)
  | fl (k : FloatKind) (o : Option Nat)
  | sl (τ : Shape) (xs : List (Den τ))
  | own (b : Nat)
  | ptr (b off : Nat)
  | eptr (b i off : Nat)
  | iptr (τ : Shape) (x : Den τ) (off : Nat)
  | gptr (g : Nat)
  | fnv (o : Option Nat)
  | fn (f : FuncId) (caps : List (Nat × Nat))

inductive SV where
  | one (c : SC)
  | agg (cs : List SC)

inductive TV where
  | un
  | val (x : SV)
  | tup (xs : List SV)

inductive Blk where
  | gone
  | raw (cells : List SC)
  | arr (τ : Shape) (xs : List (Den τ))
  | acc (τ : Shape) (xs : List (Den τ))
  | froz (τ : Shape) (xs : List (Den τ))

abbrev Mem := List Blk

/-- cs: what guarded operations of the region at hand gave: (slot, the guard's slot, the guard's wish, value). -/
structure St where
  n : Nat
  m0 : Nat
  tm : List (Nat × TV)
  mem : Mem
  cs : List (Nat × Nat × Bool × TV)

def SV.cells : SV → List SC
  | .one c => [c]
  | .agg cs => cs

def cellsOf : (τ : Shape) → Den τ → List SC
  | .int k, n => [.v (.int k n)]
  | .bool, b => [.v (.bool b)]
  | .str, s => [.v (.string s)]
  | .fn, o => [.fnv o]
  | .unit, _ => []
  | .slice e, xs => [.sl e xs]
  | .pair a b, x => cellsOf a x.1 ++ cellsOf b x.2

def flat (τ : Shape) : List (Den τ) → List SC
  | [] => []
  | x :: xs => cellsOf τ x ++ flat τ xs

def castL (e' e : Shape) (xs : List (Den e')) : Option (List (Den e)) :=
  if h : e' = e then some (h ▸ xs) else none

def parse : (τ : Shape) → List SC → Option (Den τ × List SC)
  | .int k, c :: r => match c with
    | .v (.int k' n) => if k' = k then some (n, r) else none
    | _ => none
  | .bool, c :: r => match c with
    | .v (.bool b) => some (b, r)
    | _ => none
  | .str, c :: r => match c with
    | .v (.string s) => some (s, r)
    | _ => none
  | .fn, c :: r => match c with
    | .v .nilFunc => some (none, r)
    | .fn f [] => some (some f, r)
    | .fnv o => some (o, r)
    | _ => none
  | .unit, cs => some ((), cs)
  | .slice e, c :: r => match c with
    | .sl e' xs => match castL e' e xs with
      | some ys => some (ys, r)
      | none => none
    | .v (.slice none 0 0) => some ([], r)
    | _ => none
  | .pair a b, cs => match parse a cs with
    | none => none
    | some (x, r) => match parse b r with
      | none => none
      | some (y, r') => some ((x, y), r')
  | _, [] => none

def parseMany (τ : Shape) : Nat → List SC → Option (List (Den τ))
  | 0, [] => some []
  | 0, _ :: _ => none
  | n + 1, cs => match parse τ cs with
    | none => none
    | some (x, r) => match parseMany τ n r with
      | none => none
      | some xs => some (x :: xs)

def many (τ : Shape) (n : Nat) (cs : List SC) : Option (List (Den τ)) :=
  bif Nat.ble n 1048576 then parseMany τ n cs else none

/-! types -/
section types
variable (P : Program)

def foldSh : List (Option Shape) → Option Shape
  | [] => some .unit
  | none :: _ => none
  | some a :: r => match foldSh r with
    | none => none
    | some b => some (.pair a b)

def shapeOf : Nat → TypeId → Option Shape
  | 0, _ => none
  | d + 1, T => match P.underlying T with
    | some (.int k) => some (.int k)
    | some .bool => some .bool
    | some .string => some .str
    | some (.func _ _ _) => some .fn
    | some (.slice e) => match shapeOf d e with
      | some s => some (.slice s)
      | none => none
    | some (.struct fs) => foldSh (fs.toList.map fun f => shapeOf d f.type)
    | _ => none

def aggT (T : TypeId) : Option Bool :=
  match P.underlying T with
  | some (.struct _) => some true
  | some (.array _ _) => some true
  | some _ => some false
  | none => none

def okLit (k : IntKind) (n : Int) : Bool :=
  match k with
  | .i8 => decide (-128 ≤ n) && decide (n ≤ 127)
  | .i16 => decide (-32768 ≤ n) && decide (n ≤ 32767)
  | .i32 => decide (-2147483648 ≤ n) && decide (n ≤ 2147483647)
  | .i64 => decide (-9223372036854775808 ≤ n) && decide (n ≤ 9223372036854775807)
  | .u8 => decide (0 ≤ n) && decide (n ≤ 255)
  | .u16 => decide (0 ≤ n) && decide (n ≤ 65535)
  | .u32 => decide (0 ≤ n) && decide (n ≤ 4294967295)
  | .u64 => decide (0 ≤ n) && decide (n ≤ 18446744073709551615)

def scOfConst : Value → Option SC
  | .bool b => some (.v (.bool b))
  | .int k n => bif okLit k n then some (.v (.int k n)) else none
  | .float .f32 b => bif Nat.blt b 4294967296 then some (.fl .f32 (some b)) else none
  | .float .f64 b => bif Nat.blt b 18446744073709551616 then some (.fl .f64 (some b)) else none
  | .string s => bif Nat.blt s.size 9223372036854775808 then some (.v (.string s)) else none
  | .pointer none => some (.v (.pointer none))
  | .slice none 0 0 => some (.v (.slice none 0 0))
  | .nilFunc => some (.v .nilFunc)
  | .nilIface => some (.v .nilIface)
  | .func (.func f) first captured => match first.toList, captured.toList with
    | [], [] => some (.fn f [])
    | _, _ => none
  | _ => none

def scsOfConst : List Value → Option (List SC)
  | [] => some []
  | v :: r => match scOfConst v, scsOfConst r with
    | some c, some cs => some (c :: cs)
    | _, _ => none

def svOfConst : Value → Option SV
  | .agg cs => match scsOfConst cs.toList with
    | some l => some (.agg l)
    | none => none
  | v => match scOfConst v with
    | some c => some (.one c)
    | none => none

def zeroSV (T : TypeId) : Option SV :=
  match P.info? T with
  | some i => match i.zero with
    | some z => svOfConst z
    | none => none
  | none => none
end types

/-! slots -/
def getT : List (Nat × TV) → Nat → TV
  | [], _ => .un
  | (n, x) :: r, m => bif Nat.beq n m then x else getT r m

def pb : Bool → Bool → Bool
  | true, b => b
  | false, b => !b

def getCs : List (Nat × Nat × Bool × TV) → Nat → Option ((Nat × Bool) × TV)
  | [], _ => none
  | (d, g, p, x) :: r, t => bif Nat.beq d t then some ((g, p), x) else getCs r t

/-- the tags that hold where slot t is the Bool p -/
def ctxOf : List (Nat × Nat × Bool × TV) → Nat → Bool → List (Nat × Bool)
  | [], t, p => [(t, p)]
  | (d, g, q, _) :: r, t, p => bif Nat.beq d t then (t, p) :: ctxOf r g q else ctxOf r t p

/-- is slot t the Bool p? -/
def cval (tm : List (Nat × TV)) : List (Nat × Nat × Bool × TV) → Nat → Bool → Option Bool
  | [], t, p => match getT tm t with
    | .val (.one (.v (.bool b))) => some (pb p b)
    | _ => none
  | (d, g, q, x) :: r, t, p => bif Nat.beq d t then
      (match x with
       | .val (.one (.v (.bool b))) => match cval tm r g q with
         | some c => some (c && pb p b)
         | none => none
       | _ => none)
    else cval tm r t p

def hasTag : List (Nat × Bool) → Nat → Bool → Bool
  | [], _, _ => false
  | (t, p) :: r, g, q => (Nat.beq t g && pb p q) || hasTag r g q

def ev (s : St) (ctx : List (Nat × Bool)) : Operand → Option TV
  | .tmp t => match getCs s.cs t with
    | some ((g, p), x) => bif hasTag ctx g p then some x else none
    | none => some (getT s.tm t)
  | .const v => match svOfConst v with
    | some x => some (.val x)
    | none => none
  | .global g => some (.val (.one (.gptr g)))
  | .func f => some (.val (.one (.fn f [])))

def ev1 (s : St) (ctx : List (Nat × Bool)) (x : Operand) : Option SC :=
  match ev s ctx x with
  | some (.val (.one c)) => some c
  | _ => none

def evV (s : St) (ctx : List (Nat × Bool)) (x : Operand) : Option SV :=
  match ev s ctx x with
  | some (.val v) => some v
  | _ => none

def evVs (s : St) (ctx : List (Nat × Bool)) : List Operand → Option (List SV)
  | [] => some []
  | x :: r => match evV s ctx x, evVs s ctx r with
    | some v, some vs => some (v :: vs)
    | _, _ => none

/-! memory -/
def blkAt (mem : Mem) (b : Nat) : Blk := (mem[b]?).getD .gone

def freeze1 (mem : Mem) (c : SC) : SC × Mem :=
  match c with
  | .own b => match blkAt mem b with
    | .arr τ xs => (.sl τ xs, mem.set b (.froz τ xs))
    | .acc τ xs => (.sl τ xs, mem.set b (.froz τ xs))
    | .froz τ xs => (.sl τ xs, mem)
    | _ => (.undef, mem)
  | c => (c, mem)

def freezeL : Mem → List SC → List SC × Mem
  | mem, [] => ([], mem)
  | mem, c :: r => match freeze1 mem c with
    | (c', mem') => match freezeL mem' r with
      | (r', mem'') => (c' :: r', mem'')

def freezeSV (mem : Mem) : SV → SV × Mem
  | .one c => match freeze1 mem c with
    | (c', m) => (.one c', m)
  | .agg cs => match freezeL mem cs with
    | (cs', m) => (.agg cs', m)

def freezeSVs : Mem → List SV → List SV × Mem
  | mem, [] => ([], mem)
  | mem, x :: r => match freezeSV mem x with
    | (x', m) => match freezeSVs m r with
      | (r', m') => (x' :: r', m')

def asList (mem : Mem) (τ : Shape) : SC → Option (List (Den τ))
  | .sl τ' xs => castL τ' τ xs
  | .v (.slice none 0 0) => some []
  | .own b => match blkAt mem b with
    | .arr τ' xs => castL τ' τ xs
    | .acc τ' xs => castL τ' τ xs
    | .froz τ' xs => castL τ' τ xs
    | _ => none
  | _ => none

def lenOf (mem : Mem) : SC → Option Nat
  | .sl _ xs => some xs.length
  | .v (.slice none 0 0) => some 0
  | .v (.string s) => some s.size
  | .own b => match blkAt mem b with
    | .arr _ xs => some xs.length
    | .acc _ xs => some xs.length
    | .froz _ xs => some xs.length
    | _ => none
  | _ => none

/-- the cells that a place lies among, and where -/
def cellsAt (mem : Mem) : SC → Option (List SC × Nat)
  | .ptr b off => match blkAt mem b with
    | .raw cs => some (cs, off)
    | _ => none
  | .eptr b i off => match blkAt mem b with
    | .arr τ xs => some (cellsOf τ (xs.getD i τ.dflt), off)
    | _ => none
  | .iptr τ x off => some (cellsOf τ x, off)
  | _ => none

def takeN : Nat → List SC → Option (List SC)
  | 0, _ => some []
  | _ + 1, [] => none
  | n + 1, c :: r => match takeN n r with
    | some l => some (c :: l)
    | none => none

def dropN : Nat → List SC → List SC
  | 0, l => l
  | _ + 1, [] => []
  | n + 1, _ :: r => dropN n r

/-- new cells from place off on; they all fit -/
def splice : Nat → List SC → List SC → Option (List SC)
  | 0, [], old => some old
  | 0, _ :: _, [] => none
  | 0, c :: r, _ :: old => match splice 0 r old with
    | some l => some (c :: l)
    | none => none
  | _ + 1, _, [] => none
  | n + 1, new, c :: old => match splice n new old with
    | some l => some (c :: l)
    | none => none

def defd : SC → Bool
  | .undef => false
  | _ => true

def lenIs : Nat → List SC → Bool
  | 0, [] => true
  | n + 1, _ :: r => lenIs n r
  | _, _ => false

/-! numbers -/
def shlI (k : IntKind) (x y : Int) : Int := k.wrap (x * 2 ^ (min y.toNat k.bits))
def shrI (k : IntKind) (x y : Int) : Int := x.fdiv (2 ^ (min y.toNat k.bits))
def andI (k : IntKind) (x y : Int) : Int := k.wrap ((BitVec.ofInt k.bits x &&& BitVec.ofInt k.bits y).toNat : Int)
def orI (k : IntKind) (x y : Int) : Int := k.wrap ((BitVec.ofInt k.bits x ||| BitVec.ofInt k.bits y).toNat : Int)
def xorI (k : IntKind) (x y : Int) : Int := k.wrap ((BitVec.ofInt k.bits x ^^^ BitVec.ofInt k.bits y).toNat : Int)
def andNotI (k : IntKind) (x y : Int) : Int := k.wrap ((BitVec.ofInt k.bits x &&& ~~~(BitVec.ofInt k.bits y)).toNat : Int)
def notI (k : IntKind) (x : Int) : Int := xorI k (if k.signed then -1 else k.max) x
def quoI (k : IntKind) (x y : Int) : Int := k.wrap (x.tdiv y)

def fop (op : BinOp) (k : FloatKind) (x y : Nat) : Option Nat :=
  match op with
  | .add => k.format.add x y
  | .sub => k.format.sub x y
  | .mul => k.format.mul x y
  | _ => k.format.div x y
def flop (op : BinOp) (k : FloatKind) : Option Nat → Option Nat → Option Nat
  | some x, some y => fop op k x y
  | _, _ => none
def flord (k : FloatKind) : Option Nat → Option Nat → Option Ordering
  | some x, some y => k.format.order x y
  | _, _ => none

def binV (op : BinOp) : SC → SC → Option (Bool × SC)
  | .v (.int k x), .v (.int k' y) =>
    match op with
    | .shl => some ((match k'.signed with | true => decide (0 ≤ y) | false => true), .v (.int k (shlI k x y)))
    | .shr => some ((match k'.signed with | true => decide (0 ≤ y) | false => true), .v (.int k (shrI k x y)))
    | op => if k' = k then
        match op with
        | .add => some (true, .v (.int k (k.wrap (x + y))))
        | .sub => some (true, .v (.int k (k.wrap (x - y))))
        | .mul => some (true, .v (.int k (k.wrap (x * y))))
        | .quo => some (y != 0, .v (.int k (quoI k x y)))
        | .rem => some (y != 0, .v (.int k (x.tmod y)))
        | .and => some (true, .v (.int k (andI k x y)))
        | .or => some (true, .v (.int k (orI k x y)))
        | .xor => some (true, .v (.int k (xorI k x y)))
        | .andNot => some (true, .v (.int k (andNotI k x y)))
        | .eql => some (true, .v (.bool (x == y)))
        | .neq => some (true, .v (.bool (x != y)))
        | .lss => some (true, .v (.bool (decide (x < y))))
        | .leq => some (true, .v (.bool (decide (x ≤ y))))
        | .gtr => some (true, .v (.bool (decide (x > y))))
        | .geq => some (true, .v (.bool (decide (x ≥ y))))
        | _ => none
      else none
  | .v (.bool x), .v (.bool y) =>
    match op with
    | .eql => some (true, .v (.bool (x == y)))
    | .neq => some (true, .v (.bool (!(x == y))))
    | _ => none
  | .v (.string x), .v (.string y) =>
    match op with
    | .eql => some (true, .v (.bool (x.toList == y.toList)))
    | .neq => some (true, .v (.bool (x.toList != y.toList)))
    | _ => none
  | .fl k x, .fl k' y =>
    if k' = k then
      match op with
      | .eql => some (true, .v (.bool (flord k x y == some .eq)))
      | .neq => some (true, .v (.bool (flord k x y != some .eq)))
      | .lss => some (true, .v (.bool (flord k x y == some .lt)))
      | .leq => some (true, .v (.bool (flord k x y == some .lt || flord k x y == some .eq)))
      | .gtr => some (true, .v (.bool (flord k x y == some .gt)))
      | .geq => some (true, .v (.bool (flord k x y == some .gt || flord k x y == some .eq)))
      | _ => none
    else none
  | _, _ => none

def isBoolT (P : Program) (T : TypeId) : Bool := match P.underlying T with | some .bool => true | _ => false

def okBoolT (P : Program) (T : TypeId) : SC → Bool
  | .v (.bool _) => isBoolT P T
  | _ => true

def eqCell (P : Program) (T : TypeId) : SC → SC → Option Bool
  | .v (.int k x), .v (.int k' y) => match P.underlying T with
    | some (.int _) => if k' = k then some (x == y) else none
    | _ => none
  | .v (.bool x), .v (.bool y) => match P.underlying T with
    | some .bool => some (x == y)
    | _ => none
  | _, _ => none

/-- two structs of whole numbers and Bools, field by field -/
def eqFlds (P : Program) : Nat → List Field → List SC → List SC → Option Bool
  | _, [], [], [] => some true
  | n, f :: fs, a :: as, b :: bs => bif Nat.beq f.offset n && f.name != "_" then
      (match eqCell P f.type a b, eqFlds P (n + 1) fs as bs with
       | some x, some r => match fs with
         | [] => some x
         | _ :: _ => some (x && r)
       | _, _ => none)
    else none
  | _, _, _, _ => none

def unV (op : UnOp) : SC → Option SC
  | .v (.int k n) => match op with
    | .neg => some (.v (.int k (k.wrap (0 - n))))
    | .xor => some (.v (.int k (notI k n)))
    | _ => none
  | .v (.bool b) => match op with
    | .not => some (.v (.bool !b))
    | _ => none
  | _ => none

/-! what is known of functions, loops and package-level arrays -/
/-- types of results or parameters: is it a struct or an array; its shape -/
abbrev Sig := List (Bool × Shape)
@[reducible] def DenS : Sig → Type
  | [] => Unit
  | (_, τ) :: r => Den τ × DenS r

def parseS : (S : Sig) → List SV → Option (DenS S)
  | [], [] => some ()
  | (a, τ) :: S, x :: r => match x with
    | .one c => bif a then none else match parse τ [c] with
      | some (y, []) => match parseS S r with
        | some z => some (y, z)
        | none => none
      | _ => none
    | .agg cs => bif a then (match parse τ cs with
      | some (y, []) => match parseS S r with
        | some z => some (y, z)
        | none => none
      | _ => none) else none
  | _, _ => none

def svsOf : (S : Sig) → DenS S → Option (List SV)
  | [], _ => some []
  | (a, τ) :: S, x => match svsOf S x.2 with
    | none => none
    | some r => bif a then some (.agg (cellsOf τ x.1) :: r) else match cellsOf τ x.1 with
      | [c] => some (.one c :: r)
      | _ => none

structure Sum where
  ins : Sig
  outs : Sig
  pre : DenS ins → Bool
  F : DenS ins → DenS outs

/-! the shape of a state at a loop's head and behind it -/
inductive PC where
  | v (k : IntKind) | bool | str | fnv | sl (τ : Shape) | fl (k : FloatKind)
  | own (b : Nat) | ptr (b off : Nat) | gptr (g : Nat) | fn (f : FuncId) | nilp | undef

@[reducible] def PC.D : PC → Type
  | .v _ => Int
  | .bool => Bool
  | .str => ByteArray
  | .fnv => Option Nat
  | .sl τ => List (Den τ)
  | .fl _ => Option Nat
  | _ => Unit

@[reducible] def PCs : List PC → Type
  | [] => Unit
  | c :: r => c.D × PCs r

inductive PV where
  | one (c : PC)
  | agg (cs : List PC)
@[reducible] def PV.D : PV → Type
  | .one c => c.D
  | .agg cs => PCs cs
@[reducible] def PTm : List (Nat × PV) → Type
  | [] => Unit
  | (_, v) :: r => v.D × PTm r

inductive PB where
  | gone
  | raw (cs : List PC)
  | arr (τ : Shape)
  | acc (τ : Shape)
  | froz (τ : Shape)
@[reducible] def PB.D : PB → Type
  | .gone => Unit
  | .raw cs => PCs cs
  | .arr τ => List (Den τ)
  | .acc τ => List (Den τ)
  | .froz τ => List (Den τ)
@[reducible] def PMem : List PB → Type
  | [] => Unit
  | b :: r => b.D × PMem r

structure Pat where
  n : Nat
  tm : List (Nat × PV)
  mem : List PB
@[reducible] def Pat.D (p : Pat) : Type := PTm p.tm × PMem p.mem

def readC (mem : Mem) (len : Nat) : (c : PC) → SC → Option c.D
  | .v k, z => match z with
    | .v (.int k' n) => if k' = k then some n else none
    | _ => none
  | .bool, z => match z with
    | .v (.bool b) => some b
    | _ => none
  | .str, z => match z with
    | .v (.string b) => some b
    | _ => none
  | .fnv, z => match z with
    | .v .nilFunc => some none
    | .fn f [] => some (some f)
    | .fnv o => some o
    | _ => none
  | .sl τ, z => match z with
    | .sl τ' xs => castL τ' τ xs
    | .v (.slice none 0 0) => some []
    | .own b => match blkAt mem b with
      | .froz τ' xs => castL τ' τ xs
      | _ => none
    | _ => none
  | .fl k, z => match z with
    | .fl k' o => if k' = k then some o else none
    | _ => none
  | .own b, z => match z with
    | .own b' => bif Nat.beq b' b && Nat.blt b len then some () else none
    | _ => none
  | .ptr b off, z => match z with
    | .ptr b' off' => bif Nat.beq b' b && Nat.beq off' off && Nat.blt b len then some () else none
    | _ => none
  | .gptr g, z => match z with
    | .gptr g' => bif Nat.beq g' g then some () else none
    | _ => none
  | .fn f, z => match z with
    | .fn f' [] => bif Nat.beq f' f then some () else none
    | _ => none
  | .nilp, z => match z with
    | .v (.pointer none) => some ()
    | _ => none
  | .undef, _ => some ()

def buildC : (c : PC) → c.D → SC
  | .v k, n => .v (.int k n)
  | .bool, b => .v (.bool b)
  | .str, b => .v (.string b)
  | .fnv, o => .fnv o
  | .sl τ, xs => .sl τ xs
  | .fl k, o => .fl k o
  | .own b, _ => .own b
  | .ptr b off, _ => .ptr b off
  | .gptr g, _ => .gptr g
  | .fn f, _ => .fn f []
  | .nilp, _ => .v (.pointer none)
  | .undef, _ => .undef

def readCs (mem : Mem) (len : Nat) : (l : List PC) → List SC → Option (PCs l)
  | [], [] => some ()
  | c :: r, z :: zs => match readC mem len c z, readCs mem len r zs with
    | some d, some ds => some (d, ds)
    | _, _ => none
  | _, _ => none
def buildCs : (l : List PC) → PCs l → List SC
  | [], _ => []
  | c :: r, x => buildC c x.1 :: buildCs r x.2

def readV (mem : Mem) (len : Nat) : (v : PV) → TV → Option v.D
  | .one c, .val (.one z) => readC mem len c z
  | .agg cs, .val (.agg zs) => readCs mem len cs zs
  | _, _ => none
def buildV : (v : PV) → v.D → SV
  | .one c, x => .one (buildC c x)
  | .agg cs, x => .agg (buildCs cs x)

def readTm (s : St) (len : Nat) : (l : List (Nat × PV)) → Option (PTm l)
  | [] => some ()
  | (t, v) :: r => match readV s.mem len v (getT s.tm t), readTm s len r with
    | some d, some ds => some (d, ds)
    | _, _ => none
def buildTm : (l : List (Nat × PV)) → PTm l → List (Nat × TV)
  | [], _ => []
  | (t, v) :: r, x => (t, .val (buildV v x.1)) :: buildTm r x.2

def readB (mem : Mem) (len : Nat) : (b : PB) → Blk → Option b.D
  | .gone, _ => some ()
  | .raw cs, .raw zs => readCs mem len cs zs
  | .arr τ, .arr τ' xs => castL τ' τ xs
  | .acc τ, .acc τ' xs => castL τ' τ xs
  | .froz τ, .froz τ' xs => castL τ' τ xs
  | _, _ => none
def buildB : (b : PB) → b.D → Blk
  | .gone, _ => .gone
  | .raw cs, x => .raw (buildCs cs x)
  | .arr τ, x => .arr τ x
  | .acc τ, x => .acc τ x
  | .froz τ, x => .froz τ x

def readMem (mem : Mem) (len : Nat) : (l : List PB) → List Blk → Option (PMem l)
  | [], _ => some ()
  | b :: r, z :: zs => match readB mem len b z, readMem mem len r zs with
    | some d, some ds => some (d, ds)
    | _, _ => none
  | _, _ => none
def buildMem : (l : List PB) → PMem l → Mem
  | [], _ => []
  | b :: r, x => buildB b x.1 :: buildMem r x.2

def readPat (p : Pat) (s : St) : Option p.D :=
  bif Nat.beq s.n p.n && Nat.beq s.m0 0 then
    (match readTm s p.mem.length p.tm, readMem s.mem p.mem.length p.mem s.mem with
     | some x, some y => some (x, y)
     | _, _ => none)
  else none
def buildPat (p : Pat) (x : p.D) : St := { n := p.n, m0 := 0, tm := buildTm p.tm x.1, mem := buildMem p.mem x.2, cs := [] }

structure LoopSpec where
  pat : Pat
  accs : List (Nat × Shape)
  exits : List (Nat × Pat)
  ret : Option Pat
  run : {R : Type} → pat.D → (Nat → St → Option R) → (St → Option R) → Option R

structure Cfg where
  P : Program
  sums : List (FuncId × Sum)
  loops : List (FuncId × Nat × LoopSpec)
  globs : List (Nat × Sigma fun τ => List (Den τ))

def findSum : List (FuncId × Sum) → FuncId → Option Sum
  | [], _ => none
  | (g, S) :: r, f => bif Nat.beq g f then some S else findSum r f
def findLoop : List (FuncId × Nat × LoopSpec) → FuncId → Nat → Option LoopSpec
  | [], _, _ => none
  | (g, k, S) :: r, f, n => bif Nat.beq g f && Nat.beq k n then some S else findLoop r f n
def findGlob : List (Nat × Sigma fun τ => List (Den τ)) → Nat → Option (Sigma fun τ => List (Den τ))
  | [], _ => none
  | (g, S) :: r, f => bif Nat.beq g f then some S else findGlob r f
def Cfg.sum (C : Cfg) (f : FuncId) : Option Sum := findSum C.sums f
def Cfg.loop (C : Cfg) (f : FuncId) (k : Nat) : Option LoopSpec := findLoop C.loops f k
def Cfg.glob (C : Cfg) (g : Nat) : Option (Sigma fun τ => List (Den τ)) := findGlob C.globs g

def tvOf : List SV → TV
  | [x] => .val x
  | l => .tup l

/-! operations -/
inductive Res where
  | ok (g : Bool) (x : TV) (mem : Mem)
  | inl (f : FuncId) (args : List SV)

def intArg (s : St) (ctx : List (Nat × Bool)) (x : Operand) : Option Int :=
  match ev1 s ctx x with
  | some (.v (.int _ n)) => some n
  | _ => none

def fieldOff (P : Program) (T : TypeId) (i : Nat) : Option (Nat × TypeId) :=
  match P.underlying T with
  | some (.struct fs) => match fs.toList[i]? with
    | some f => bif Nat.beq (P.cellsOf f.type) 0 then none else some (f.offset, f.type)
    | none => none
  | _ => none

def elemSh (P : Program) (e : TypeId) : Option Shape :=
  match shapeOf P 12 e with
  | some τ => bif Nat.beq (P.cellsOf e) τ.width then some τ else none
  | none => none

def svSplice (place : Nat → Option (Nat × Nat)) : List (Nat × SV) → List SC → Option (List SC)
  | [], old => some old
  | (i, x) :: r, old => match place i with
    | none => none
    | some (off, size) => bif lenIs size x.cells then
        (match splice off x.cells old with
         | some old' => svSplice place r old'
         | none => none)
      else none

def evParts (s : St) (ctx : List (Nat × Bool)) : List (Nat × Operand) → Option (List (Nat × SV))
  | [] => some []
  | (i, x) :: r => match evV s ctx x, evParts s ctx r with
    | some v, some vs => some ((i, v) :: vs)
    | _, _ => none

def allDef : List SC → Bool
  | [] => true
  | c :: r => defd c && allDef r

def ptrsOf (mem : Mem) : List SV → Option (List (Nat × Nat))
  | [] => some []
  | .one (.ptr b off) :: r => match blkAt mem b, ptrsOf mem r with
    | .raw _, some l => some ((b, off) :: l)
    | _, _ => none
  | _ => none

def allRaw (mem : Mem) : List (Nat × Nat) → Bool
  | [] => true
  | (b, _) :: r => match blkAt mem b with
    | .raw _ => allRaw mem r
    | _ => false

def dropOwn (b : Nat) : SC → SC
  | .own b' => bif Nat.beq b b' then .undef else .own b'
  | c => c
def dropOwnV (b : Nat) : SV → SV
  | .one c => .one (dropOwn b c)
  | .agg cs => .agg (cs.map (dropOwn b))
def dropOwnT (b : Nat) : TV → TV
  | .un => .un
  | .val x => .val (dropOwnV b x)
  | .tup l => .tup (l.map (dropOwnV b))
def dropOwnB (b : Nat) : Blk → Blk
  | .raw cs => .raw (cs.map (dropOwn b))
  | x => x

def zeroOk (P : Program) (e : TypeId) : Bool :=
  match zeroSV P e with
  | some z => lenIs (P.cellsOf e) z.cells
  | none => false

def maxRoom : Int := 140737488355328

/-- a plain operation, its operands valid under ctx -/
def plainOp (C : Cfg) (s : St) (ctx : List (Nat × Bool)) (o : Oper) : Option Res :=
  let P := C.P
  match o.op with
  | .move x => match ev s ctx x with
    | some v => some (.ok true v s.mem)
    | none => none
  | .assign x => match ev s ctx x with
    | some v => some (.ok true v s.mem)
    | none => none
  | .pick c a b => match c with
    | .tmp t => match ev1 s ctx (.tmp t), ev1 s ((t, true) :: ctx) a, ev1 s ((t, false) :: ctx) b with
      | some (.v (.bool cb)), some (.v (.bool x)), some (.v (.bool y)) =>
        (match a, b with
         | .const _, _ => (match x with
           | true => some (.ok true (.val (.one (.v (.bool (cb || y))))) s.mem)
           | false => some (.ok true (.val (.one (.v (.bool (bif cb then x else y))))) s.mem))
         | _, .const _ => (match y with
           | false => some (.ok true (.val (.one (.v (.bool (cb && x))))) s.mem)
           | true => some (.ok true (.val (.one (.v (.bool (bif cb then x else y))))) s.mem))
         | _, _ => some (.ok true (.val (.one (.v (.bool (bif cb then x else y))))) s.mem))
      | _, _, _ => none
    | _ => none
  | .alloc T => match zeroSV P T, P.underlying T with
    | some z, some (.array n e) => match elemSh P e with
      | some τ => match many τ n z.cells with
        | some xs => some (.ok true (.val (.one (.ptr s.mem.length 0))) (s.mem ++ [.arr τ xs]))
        | none => none
      | none => none
    | some z, some _ => some (.ok true (.val (.one (.ptr s.mem.length 0))) (s.mem ++ [.raw z.cells]))
    | _, _ => none
  | .box T x => match evV s ctx x, P.underlying T with
    | some v, some (.array n e) => match elemSh P e with
      | some τ => match many τ n v.cells with
        | some xs => some (.ok true (.val (.one (.ptr s.mem.length 0))) (s.mem ++ [.arr τ xs]))
        | none => none
      | none => none
    | some v, some _ => some (.ok true (.val (.one (.ptr s.mem.length 0))) (s.mem ++ [.raw v.cells]))
    | _, _ => none
  | .build T parts => match zeroSV P T, evParts s ctx parts.toList, P.underlying T with
    | some z, some ps, some (.struct fs) => bif fs.toList.all (fun f => (P.info? f.type).isSome) then
      (match svSplice (fun i => match fs.toList[i]? with | some f => some (f.offset, P.cellsOf f.type) | none => none) ps z.cells with
       | some cs => some (.ok true (.val (.agg cs)) s.mem)
       | none => none)
      else none
    | some z, some ps, some (.array _ e) => bif (P.info? e).isSome then
      (match svSplice (fun i => some (i * P.cellsOf e, P.cellsOf e)) ps z.cells with
       | some cs => some (.ok true (.val (.agg cs)) s.mem)
       | none => none)
      else none
    | _, _, _ => none
  | .buildSlice T n parts => match P.underlying T with
    | some (.slice e) => match elemSh P e, zeroSV P e, evParts s ctx parts.toList with
      | some τ, some z, some ps =>
        (match svSplice (fun i => some (i * P.cellsOf e, P.cellsOf e)) ps ((List.replicate n z.cells).flatten) with
         | some cs => match freezeL s.mem cs with
           | (cs', mem') => match many τ n cs' with
             | some xs => bif Nat.ble (n * P.cellsOf e) 16777216 && Nat.blt 0 (P.cellsOf e) && lenIs (P.cellsOf e) z.cells && Nat.blt 0 n then some (.ok true (.val (.one (.sl τ xs))) mem') else none
             | none => none
         | none => none)
      | _, _, _ => none
    | _ => none
  | .load T x => match ev1 s ctx x with
    | some a => match cellsAt s.mem a, aggT P T with
      | some (cs, off), some true => match takeN (P.cellsOf T) (dropN off cs) with
        | some l => some (.ok true (.val (.agg l)) s.mem)
        | none => none
      | some (cs, off), some false => match dropN off cs with
        | c :: _ => some (.ok true (.val (.one c)) s.mem)
        | [] => none
      | _, _ => none
    | none => none
  | .store T x y => match ev1 s ctx x, evV s ctx y with
    | some (.ptr b off), some v => match blkAt s.mem b with
      | .raw cs => bif lenIs (P.cellsOf T) v.cells && allDef v.cells && Nat.blt 0 (P.cellsOf T) then
          (match splice off v.cells cs with
           | some cs' => some (.ok true .un (s.mem.set b (.raw cs')))
           | none => none)
        else none
      | _ => none
    | some (.eptr b i off), some v => match freezeSV s.mem v with
      | (v', mem') => match blkAt mem' b with
        | .arr τ xs => bif lenIs (P.cellsOf T) v'.cells && allDef v'.cells && Nat.blt 0 (P.cellsOf T) then
            (match splice off v'.cells (cellsOf τ (xs.getD i τ.dflt)) with
             | some cs' => match parse τ cs' with
               | some (x', []) => some (.ok true .un (mem'.set b (.arr τ (xs.set i x'))))
               | _ => none
             | none => none)
          else none
        | _ => none
    | _, _ => none
  | .nilCheck x => match ev s ctx x with
    | some (.val (.one (.ptr b off))) => match blkAt s.mem b with
      | .raw _ => some (.ok true (.val (.one (.ptr b off))) s.mem)
      | _ => none
    | _ => none
  | .binOp op T x y _ => match evV s ctx x, evV s ctx y with
    | some (.one a), some (.one b) => bif okBoolT P T a then
        (match binV op a b with
         | some (g, c) => some (.ok g (.val (.one c)) s.mem)
         | none => none)
      else none
    | some (.agg a), some (.agg b) => match P.underlying T with
      | some (.struct fs) => bif !(P.eqGuardType P.depth T) && !(P.stoodInHeld T) then
          (match op, eqFlds P 0 fs.toList a b with
           | .eql, some r => some (.ok true (.val (.one (.v (.bool r)))) s.mem)
           | .neq, some r => some (.ok true (.val (.one (.v (.bool !r)))) s.mem)
           | _, _ => none)
        else none
      | _ => none
    | _, _ => none
  | .unOp op _ x => match ev1 s ctx x with
    | some a => match unV op a with
      | some c => some (.ok true (.val (.one c)) s.mem)
      | none => none
    | none => none
  | .convert src dst x => match P.underlying dst, ev1 s ctx x with
    | some (.int k), some (.v (.int _ n)) => match P.underlying src with
      | some _ => some (.ok true (.val (.one (.v (.int k (k.wrap n))))) s.mem)
      | none => none
    | _, _ => none
  | .makeSlice T l c => match P.underlying T, intArg s ctx l, intArg s ctx c with
    | some (.slice e), some n, some m => match elemSh P e, zeroSV P e with
      | some τ, some z => match parse τ z.cells with
        | some (d, []) =>
          (match l, c with
           | .tmp t, .tmp t' => bif Nat.beq t t' && Nat.blt 0 (P.cellsOf e) && Nat.blt 0 (P.bytesOf e) then
               some (.ok (decide (0 ≤ n) && decide (n * (P.bytesOf e : Int) ≤ maxRoom)) (.val (.one (.own s.mem.length))) (s.mem ++ [.arr τ (List.replicate n.toNat d)]))
             else none
           | .const (.int _ 0), _ => bif Nat.blt 0 (P.cellsOf e) && Nat.blt 0 (P.bytesOf e) then
               some (.ok (decide (0 ≤ m) && decide (m * (P.bytesOf e : Int) ≤ maxRoom)) (.val (.one (.own s.mem.length))) (s.mem ++ [.acc τ []]))
             else none
           | _, _ => none)
        | _ => none
      | _, _ => none
    | _, _, _ => none
  | .slice T x lo hi mx => match mx, P.underlying T, ev1 s ctx x with
    | none, some (.slice e), some c => match elemSh P e with
      | some τ => match freeze1 s.mem c with
        | (c', mem') => match asList mem' τ c' with
          | some xs =>
            (match (match lo with | none => some (0 : Int) | some a => intArg s ctx a), (match hi with | none => some (xs.length : Int) | some a => intArg s ctx a) with
             | some l, some h => some (.ok (decide (0 ≤ l) && decide (l ≤ h) && decide (h ≤ (xs.length : Int))) (.val (.one (.sl τ ((xs.take h.toNat).drop l.toNat)))) mem')
             | _, _ => none)
          | none => none
      | none => none
    | _, _, _ => none
  | .fieldAddr T x i => match ev1 s ctx x, fieldOff P T i with
    | some (.ptr b off), some (d, _) => match blkAt s.mem b with
      | .raw _ => some (.ok true (.val (.one (.ptr b (off + d)))) s.mem)
      | _ => none
    | some (.eptr b j off), some (d, _) => match blkAt s.mem b with
      | .arr _ _ => some (.ok true (.val (.one (.eptr b j (off + d)))) s.mem)
      | _ => none
    | some (.iptr τ y off), some (d, _) => some (.ok true (.val (.one (.iptr τ y (off + d)))) s.mem)
    | _, _ => none
  | .field T x i => match evV s ctx x, fieldOff P T i with
    | some (.agg cs), some (d, ft) => match aggT P ft with
      | some true => match takeN (P.cellsOf ft) (dropN d cs) with
        | some l => some (.ok true (.val (.agg l)) s.mem)
        | none => none
      | some false => match dropN d cs with
        | c :: _ => some (.ok true (.val (.one c)) s.mem)
        | [] => none
      | none => none
    | _, _ => none
  | .indexAddr T x ix => match P.underlying T, ev1 s ctx x, intArg s ctx ix with
    | some (.array n e), some (.gptr g), some i => match C.glob g, elemSh P e with
      | some ⟨τ, xs⟩, some τ' => if τ' = τ then
          bif Nat.beq xs.length n then some (.ok (decide (0 ≤ i) && decide (i < (n : Int))) (.val (.one (.iptr τ (xs.getD i.toNat τ.dflt) 0))) s.mem) else none
        else none
      | _, _ => none
    | some (.array n e), some (.ptr b 0), some i => match blkAt s.mem b, elemSh P e with
      | .arr τ xs, some τ' => if τ' = τ then
          some (.ok (decide (0 ≤ i) && decide (i < (n : Int)) && decide (i < (xs.length : Int))) (.val (.one (.eptr b i.toNat 0))) s.mem)
        else none
      | _, _ => none
    | some (.slice e), some c, some i => match elemSh P e with
      | some τ => match c with
        | .own b => match blkAt s.mem b with
          | .arr τ' xs => if τ' = τ then
              some (.ok (decide (0 ≤ i) && decide (i < (xs.length : Int))) (.val (.one (.eptr b i.toNat 0))) s.mem)
            else none
          | .acc τ' xs => if τ' = τ then
              some (.ok (decide (0 ≤ i) && decide (i < (xs.length : Int))) (.val (.one (.iptr τ' (xs.getD i.toNat τ'.dflt) 0))) (s.mem.set b (.froz τ' xs)))
            else none
          | .froz τ' xs => if τ' = τ then
              some (.ok (decide (0 ≤ i) && decide (i < (xs.length : Int))) (.val (.one (.iptr τ' (xs.getD i.toNat τ'.dflt) 0))) s.mem)
            else none
          | _ => none
        | .sl τ' xs => if τ' = τ then
            some (.ok (decide (0 ≤ i) && decide (i < (xs.length : Int))) (.val (.one (.iptr τ' (xs.getD i.toNat τ'.dflt) 0))) s.mem)
          else none
        | _ => none
      | none => none
    | _, _, _ => none
  | .index T x ix => match P.underlying T, ev1 s ctx x, intArg s ctx ix with
    | some .string, some (.v (.string str)), some i =>
      some (.ok (decide (0 ≤ i) && decide (i < (str.size : Int))) (.val (.one (.v (.int .u8 ((str.data.toList.getD i.toNat 0).toNat : Int))))) s.mem)
    | _, _, _ => none
  | .extract x i => match ev s ctx x with
    | some (.tup l) => match l[i]? with
      | some v => some (.ok true (.val v) s.mem)
      | none => none
    | _ => none
  | .makeFunc fn first captured => match fn, first.toList, captured.toList with
    | .func f, [], caps => match evVs s ctx caps with
      | some vs => match ptrsOf s.mem vs with
        | some cl => some (.ok true (.val (.one (.fn f cl))) s.mem)
        | none => none
      | none => none
    | _, _, _ => none
  | .call c => match c.callee with
    | .builtin .len => match c.args.toList, c.argTypes.toList with
      | [x], [T] => match P.underlying T with
        | some (.array n _) => bif Nat.blt n 9223372036854775808 then some (.ok true (.val (.one (.v (.int .i64 (n : Int))))) s.mem) else none
        | some (.slice _) => match ev1 s ctx x with
          | some a => match a with
            | .v (.string _) => none
            | a => match lenOf s.mem a with
              | some n => some (.ok true (.val (.one (.v (.int .i64 (n : Int))))) s.mem)
              | none => none
          | none => none
        | some .string => match ev1 s ctx x with
          | some (.v (.string str)) => some (.ok true (.val (.one (.v (.int .i64 (str.size : Int))))) s.mem)
          | _ => none
        | _ => none
      | _, _ => none
    | .builtin .min => match c.args.toList with
      | [x, y] => match ev1 s ctx x, ev1 s ctx y with
        | some (.v (.int k a)), some (.v (.int k' b)) => if k' = k then some (.ok true (.val (.one (.v (.int k (if b < a then b else a))))) s.mem) else none
        | _, _ => none
      | _ => none
    | .builtin .max => match c.args.toList with
      | [x, y] => match ev1 s ctx x, ev1 s ctx y with
        | some (.v (.int k a)), some (.v (.int k' b)) => if k' = k then some (.ok true (.val (.one (.v (.int k (if b > a then b else a))))) s.mem) else none
        | _, _ => none
      | _ => none
    | .builtin .append => match c.args.toList, c.argTypes.toList with
      | [x, y], T :: T2 :: _ => match P.underlying T, P.underlying T2, ev1 s ctx x, ev1 s ctx y with
        | some (.slice e), some (.slice _), some a, some yc => match elemSh P e with
          | some τ => match freeze1 s.mem yc with
            | (yc', mem') => match asList mem' τ yc', a with
              | some ys, .v (.slice none 0 0) =>
                some (.ok (decide ((ys.length : Int) * 2 * (P.bytesOf e : Int) ≤ maxRoom) && Nat.blt 0 (P.bytesOf e) && zeroOk P e) (.val (.one (.own mem'.length))) (mem' ++ [.acc τ ys]))
              | some ys, .own b => match blkAt mem' b with
                | .acc τ' xs => match castL τ' τ xs with
                  | some xs' => some (.ok (decide (((xs'.length : Int) + (ys.length : Int)) * 2 * (P.bytesOf e : Int) ≤ maxRoom) && Nat.blt 0 (P.bytesOf e) && zeroOk P e) (.val (.one (.own b))) (mem'.set b (.acc τ (xs' ++ ys))))
                  | none => none
                | _ => none
              | _, _ => none
          | none => none
        | _, _, _, _ => none
      | _, _ => none
    | .builtin .copy => match c.args.toList, c.argTypes.toList with
      | [x, y], T :: _ => match P.underlying T, ev1 s ctx x, ev1 s ctx y with
        | some (.slice e), some (.own b), some yc => match elemSh P e with
          | some τ => match freeze1 s.mem yc with
            | (yc', mem') => match asList mem' τ yc', blkAt mem' b with
              | some ys, .arr τ' xs => match castL τ' τ xs with
                | some xs' => some (.ok true (.val (.one (.v (.int .i64 ((min ys.length xs'.length : Nat) : Int))))) (mem'.set b (.arr τ (ys.take xs'.length ++ xs'.drop ys.length))))
                | none => none
              | _, _ => none
          | none => none
        | _, _, _ => none
      | _, _ => none
    | .value fo => match ev1 s ctx fo, evVs s ctx c.args.toList with
      | some (.fn f caps), some args =>
        (match (match caps with | [] => C.sum f | _ => none) with
         | some S => match freezeSVs s.mem args with
           | (args', mem') => match parseS S.ins args' with
             | some x => match svsOf S.outs (S.F x) with
               | some vs => some (.ok (S.pre x) (tvOf vs) mem')
               | none => none
             | none => none
         | none => bif allRaw s.mem caps then some (.inl f (args ++ caps.map fun p => .one (.ptr p.1 p.2))) else none)
      | _, _ => none
    | _ => none
  | _ => none

/-- may the operation stand under a guard? (it makes and writes nothing) -/
def lazyOp : Op → Bool
  | .alloc _ | .box _ _ | .store _ _ _ | .makeSlice _ _ _ => false
  | .call c => match c.callee with
    | .builtin .append | .builtin .copy => false
    | _ => true
  | _ => true

def noTag (d : Nat) : List (Nat × Nat × Bool × TV) → Bool
  | [] => true
  | (e, g, _, _) :: r => !(Nat.beq e d) && !(Nat.beq g d) && noTag d r

/-- the slot's new content; appended rows are no longer known by other names -/
def putRes (s : St) (o : Oper) (x : TV) (mem : Mem) : Option St :=
  match o.dst with
  | none => some { s with mem := mem }
  | some d => bif noTag d s.cs && Nat.blt d s.n then some { s with tm := (d, x) :: s.tm, mem := mem } else none

def stripFor (o : Oper) (x : TV) (s : St) (mem : Mem) : St × Mem :=
  match o.op with
  | .call c => match c.callee with
    | .builtin .append => match x with
      | .val (.one (.own b)) => ({ s with tm := s.tm.map fun p => (p.1, dropOwnT b p.2), cs := s.cs.map fun p => (p.1, p.2.1, p.2.2.1, dropOwnT b p.2.2.2) }, mem.map (dropOwnB b))
      | _ => (s, mem)
    | _ => (s, mem)
  | _ => (s, mem)

def gslot (ops : List Oper) (gi : Nat) : Option Nat :=
  match ops[gi]? with
  | some o => o.dst
  | none => none

inductive Step where
  | ok (g : Bool) (s : St)
  | inl (f : FuncId) (args : List SV)

/-- one operation of the region ops -/
def step (C : Cfg) (ops : List Oper) (o : Oper) (s : St) : Option Step :=
  match o.guard with
  | none => match plainOp C s [] o with
    | some (.ok g x mem) => match stripFor o x s mem with
      | (s', mem') => match putRes s' o x mem' with
        | some s'' => some (.ok g s'')
        | none => none
    | some (.inl f args) => some (.inl f args)
    | none => none
  | some (gi, p) => match gslot ops gi, o.dst with
    | some t, some d => bif lazyOp o.op && noTag d s.cs && !(Nat.beq d t) && Nat.blt d s.n then
        (match cval s.tm s.cs t p, plainOp C s (ctxOf s.cs t p) o with
         | some c, some (.ok g x mem) => some (.ok (g || !c) { s with tm := (d, .un) :: s.tm, cs := (d, t, p, x) :: s.cs, mem := mem })
         | _, _ => none)
      else none
    | _, _ => none

/-! draws: the operations come in whatever order their edges allow -/
def preds (o : Oper) : List Nat := (o.after.toList.filter fun e => Region.binds .any e).map (·.on)
/-- what each operation waits for, directly or through others -/
def ancs : List (List Nat) → List Oper → List (List Nat)
  | acc, [] => acc
  | acc, o :: r => ancs (acc ++ [(preds o).flatMap fun i => i :: (acc[i]?).getD []]) r
def tmpsOf : List Operand → List Nat
  | [] => []
  | .tmp t :: r => t :: tmpsOf r
  | _ :: r => tmpsOf r
/-- the slots of an operation's guard, of that one's guard, and so on -/
def gchain (ops : List Oper) : Nat → Option (Nat × Bool) → List Nat
  | 0, _ => []
  | _ + 1, none => []
  | k + 1, some (g, _) => match ops[g]? with
    | some o => match o.dst with
      | some t => t :: gchain ops k o.guard
      | none => gchain ops k o.guard
    | none => []
def looks (ops : List Oper) (o : Oper) : List Nat := gchain ops 12 o.guard ++ tmpsOf o.op.operands.toList
/-- 0: looks at no memory; 1: looks at it; 2: writes it or makes some; 3: not here -/
def memKind : Op → Nat
  | .move _ | .assign _ | .pick _ _ _ | .binOp _ _ _ _ _ | .unOp _ _ _ | .convert _ _ _ | .extract _ _ | .build _ _ | .field _ _ _ => 0
  | .load _ _ | .nilCheck _ | .makeFunc _ _ _ | .fieldAddr _ _ _ | .buildSlice _ _ _ | .indexAddr _ _ _ | .index _ _ _ => 1
  | .store _ _ _ | .alloc _ | .box _ _ => 2
  | .call c => match c.callee with
    | .value _ => 1
    | .builtin .len | .builtin .min | .builtin .max => 1
    | _ => 3
  | _ => 3
/-- what an operation has to do with the memory: nothing; reads a block (or any); writes a block (or any) -/
inductive FP where
  | pure
  | rd (o : Option Nat)
  | wr (o : Option Nat)
def fpApart : FP → FP → Bool
  | .pure, _ => true
  | _, .pure => true
  | .rd _, .rd _ => true
  | .rd (some b), .wr (some c) => !(Nat.beq b c)
  | .wr (some b), .rd (some c) => !(Nat.beq b c)
  | .wr (some b), .wr (some c) => !(Nat.beq b c)
  | _, _ => false
def memB (n : Nat) : List Nat → Bool
  | [] => false
  | m :: r => Nat.beq m n || memB n r
def dstIn (o : Oper) (l : List Nat) : Bool :=
  match o.dst with
  | some d => memB d l
  | none => false
def dstSame (x y : Oper) : Bool :=
  match x.dst, y.dst with
  | some d, some e => Nat.beq d e
  | _, _ => false
/-- any two operations, of which neither waits for the other, are apart; nobody waits for a later one; the slots that are written are all others -/
def okPair (ops : List Oper) (fps : List FP) (A : List (List Nat)) (i j : Nat) (x y : Oper) : Bool :=
  !(dstSame x y) && (memB i ((A[j]?).getD []) || (!(dstIn x (looks ops y)) && !(dstIn y (looks ops x)) && fpApart ((fps[i]?).getD (.wr none)) ((fps[j]?).getD (.wr none))))
def okRow (ops : List Oper) (fps : List FP) (A : List (List Nat)) (j : Nat) (y : Oper) : Nat → List Oper → Bool
  | _, [] => true
  | i, x :: r => (bif Nat.blt i j then okPair ops fps A i j x y && okRow ops fps A j y (i + 1) r else true)
def allLt (j : Nat) : List Nat → Bool
  | [] => true
  | i :: r => Nat.blt i j && allLt j r
def okRows (ops : List Oper) (fps : List FP) (A : List (List Nat)) : Nat → List Oper → Bool
  | _, [] => true
  | j, y :: r => allLt j (preds y) && Nat.blt (memKind y.op) 3 && !(dstIn y (looks ops y)) && okRow ops fps A j y 0 ops && (match y.guard with | some (g, _) => Nat.blt g j | none => true) && okRows ops fps A (j + 1) r
def okDraw (ops : List Oper) (fps : List FP) : Bool := okRows ops fps (ancs [] ops) 0 ops

def restr (ops : List Oper) (o : Oper) (s : St) : St :=
  { s with tm := (looks ops o).map fun t => (t, getT s.tm t), cs := s.cs.filter fun e => memB e.1 (looks ops o) }

def notOwn : SC → Bool
  | .own _ => false
  | _ => true
def notOwns : List SC → Bool
  | [] => true
  | c :: r => notOwn c && notOwns r
def notOwnT : TV → Bool
  | .un => true
  | .val x => notOwns x.cells
  | .tup l => l.all fun x => notOwns x.cells
/-- no operand is a row that is still written -/
def noOwns (s : St) (ctx : List (Nat × Bool)) : List Operand → Bool
  | [] => true
  | x :: r => (match ev s ctx x with | some v => notOwnT v | none => true) && noOwns s ctx r

/-- the operation freezes nothing -/
def calm (s : St) (ctx : List (Nat × Bool)) (op : Op) : Bool :=
  match op with
  | .indexAddr _ x _ => match ev1 s ctx x with
    | some (.own b) => match blkAt s.mem b with
      | .acc _ _ => false
      | _ => true
    | _ => true
  | .buildSlice _ _ _ => noOwns s ctx op.operands.toList
  | .call c => match c.callee with
    | .value _ => noOwns s ctx op.operands.toList
    | _ => true
  | _ => true

/-- the block that a value names -/
def blkOfC : SC → Option Nat
  | .ptr b _ => some b
  | .eptr b _ _ => some b
  | .own b => some b
  | _ => none
def fpAddr (s : St) (ctx : List (Nat × Bool)) (x : Operand) : FP :=
  match ev1 s ctx x with
  | some c => match blkOfC c with
    | some b => .rd (some b)
    | none => .pure
  | none => .pure
def fpOf (s : St) (ctx : List (Nat × Bool)) (op : Op) : FP :=
  match op with
  | .load _ x => fpAddr s ctx x
  | .nilCheck x => fpAddr s ctx x
  | .fieldAddr _ x _ => fpAddr s ctx x
  | .indexAddr _ x _ => fpAddr s ctx x
  | .index _ _ _ => .pure
  | .buildSlice _ _ _ => .pure
  | .makeFunc _ _ _ => .rd none
  | .store _ x y => match ev1 s ctx x, evV s ctx y with
    | some (.ptr b _), _ => .wr (some b)
    | some (.eptr b _ _), some v => bif notOwns v.cells then .wr (some b) else .wr none
    | _, _ => .wr none
  | .alloc _ => .wr none
  | .box _ _ => .wr none
  | .call c => match c.callee with
    | .value _ => .pure
    | .builtin .len => match c.args.toList with
      | [x] => fpAddr s ctx x
      | _ => .pure
    | _ => .pure
  | _ => .pure

/-- one operation: its guard, its value, the memory behind it -/
def evalD (C : Cfg) (ops : List Oper) (o : Oper) (s0 : St) : Option (FP × Bool × TV × Mem) :=
  let s := restr ops o s0
  match o.guard with
  | none => bif calm s [] o.op || Nat.beq (memKind o.op) 2 then
      (match plainOp C s [] o with
       | some (.ok g x mem) => some (fpOf s [] o.op, g, x, mem)
       | _ => none)
    else none
  | some (gi, p) => match gslot ops gi, o.dst with
    | some t, some d => bif lazyOp o.op && !(Nat.beq d t) && calm s (ctxOf s.cs t p) o.op then
        (match cval s.tm s.cs t p, plainOp C s (ctxOf s.cs t p) o with
         | some c, some (.ok g x mem) => some (fpOf s (ctxOf s.cs t p) o.op, g || !c, x, mem)
         | _, _ => none)
      else none
    | _, _ => none

def applyD (ops : List Oper) (o : Oper) (s : St) (x : TV) (mem : Mem) : St :=
  match o.dst with
  | none => { s with mem := mem }
  | some d => match o.guard with
    | none => { s with tm := (d, x) :: s.tm, mem := mem }
    | some (gi, p) => match gslot ops gi with
      | some t => { s with tm := (d, .un) :: s.tm, cs := (d, t, p, x) :: s.cs, mem := mem }
      | none => { s with mem := mem }

def drawRun (C : Cfg) (ops : List Oper) : List Oper → St → Option (List FP × List Bool × St)
  | [], s => some ([], [], s)
  | o :: r, s => match evalD C ops o s with
    | some (fp, g, x, mem) => bif (match o.dst with | some d => Nat.blt d s.n | none => true) then
        (match drawRun C ops r (applyD ops o s x mem) with
         | some (fps, gs, s'') => some (fp :: fps, g :: gs, s'')
         | none => none)
      else none
    | none => none

def chk {α : Type} : List Bool → Option α → Option α
  | [], x => x
  | g :: gs, x => bif g then chk gs x else none

/-- rows that may have grown behind a call that is followed in place are no longer known by their names -/
def dropAcc (mem : Mem) : SC → SC
  | .own b => match blkAt mem b with
    | .acc _ _ => .undef
    | _ => .own b
  | c => c
def dropAccV (mem : Mem) : SV → SV
  | .one c => .one (dropAcc mem c)
  | .agg cs => .agg (cs.map (dropAcc mem))
def dropAccT (mem : Mem) : TV → TV
  | .un => .un
  | .val x => .val (dropAccV mem x)
  | .tup l => .tup (l.map (dropAccV mem))
def dropAccs (s : St) : St :=
  { s with tm := s.tm.map (fun p => (p.1, dropAccT s.mem p.2)), cs := s.cs.map fun p => (p.1, p.2.1, p.2.2.1, dropAccT s.mem p.2.2.2) }

section exec
variable {R : Type}

/-- a list of operations in the text's order; inl: a call that is followed in place -/
def runOps (C : Cfg) (inl : FuncId → List SV → Mem → (List SV → Mem → Option R) → Option R) (ops : List Oper) : List Oper → St → (St → Option R) → Option R
  | [], s, k => k s
  | o :: r, s, k => match step C ops o s with
    | some (.ok g s') => bif g then runOps C inl ops r s' k else none
    | some (.inl f args) => match o.guard with
      | none => inl f args s.mem fun rs mem => match putRes (dropAccs s) o (tvOf rs) mem with
        | some s' => runOps C inl ops r s' k
        | none => none
      | some _ => none
    | none => none

/-- nil rows that a loop appends to get a name of their own -/
def accUp : List (Nat × Shape) → St → St
  | [], s => s
  | (t, τ) :: r, s => match getT s.tm t with
    | .val (.one (.v (.slice none 0 0))) => accUp r { s with tm := (t, .val (.one (.own s.mem.length))) :: s.tm, mem := s.mem ++ [.acc τ []] }
    | _ => accUp r s

def findPat : List (Nat × Pat) → Nat → Option Pat
  | [], _ => none
  | (i, p) :: r, k => bif Nat.beq i k then some p else findPat r k
/-- what is kept of the state at a loop's exit -/
def outE (l : List (Nat × Pat)) (ke : Nat → St → Option R) (id : Nat) (s : St) : Option R :=
  match findPat l id with
  | some p => match readPat p s with
    | some y => ke id (buildPat p y)
    | none => none
  | none => none
def outR (o : Option Pat) (kr : St → Option R) (s : St) : Option R :=
  match o with
  | some p => match readPat p s with
    | some y => kr (buildPat p y)
    | none => none
  | none => none

def iter {α β : Type} (φ : (α → Option β) → α → Option β) : Nat → α → Option β
  | 0, _ => none
  | n + 1, x => φ (iter φ n) x

/-- the bodies of the loops in a piece of code -/
def loopsOf : Code → List Code
  | .seq a b => loopsOf a ++ loopsOf b
  | .cond _ a b => loopsOf a ++ loopsOf b
  | .block _ a => loopsOf a
  | .loop a => a :: loopsOf a
  | _ => []

/-- the first region's number: a loop's name -/
def keyOf : Code → Nat
  | .region id _ _ => id
  | .seq a _ => keyOf a
  | .cond _ a _ => keyOf a
  | .block _ a => keyOf a
  | .loop a => keyOf a
  | _ => 0

def exec (C : Cfg) (inl : FuncId → List SV → Mem → (List SV → Mem → Option R) → Option R) (lp : Bool) (fid : FuncId) :
    Code → St → (St → Option R) → (Nat → St → Option R) → (St → Option R) → Option R
  | .skip, s, kn, _, _ => kn s
  | .region _ ops false, s, kn, _, _ => runOps C inl ops.toList ops.toList { s with cs := [] } fun s' => kn { s' with cs := [] }
  | .region _ ops true, s, kn, _, _ => match drawRun C ops.toList ops.toList { s with cs := [] } with
    | some (fps, gs, s') => bif okDraw ops.toList fps then chk gs (kn { s' with cs := [] }) else none
    | none => none
  | .seq a b, s, kn, ke, kr => exec C inl lp fid a s (fun s' => exec C inl lp fid b s' kn ke kr) ke kr
  | .cond c a b, s, kn, ke, kr => match ev1 s [] c with
    | some (.v (.bool t)) => bif t then exec C inl lp fid a s kn ke kr else exec C inl lp fid b s kn ke kr
    | _ => none
  | .block id a, s, kn, ke, kr => exec C inl lp fid a s kn (fun i s' => bif Nat.beq i id then kn s' else ke i s') kr
  | .loop a, s, _, ke, kr => match C.loop fid (keyOf a) with
    | none => none
    | some sp => bif lp then
        (match readPat sp.pat (accUp sp.accs { s with cs := [] }) with
         | some x => sp.run x ke kr
         | none => none)
      else none
  | .exit id, s, _, ke, _ => ke id s
  | .ret, s, _, _, kr => kr s
  | _, _, _, _, _ => none

def readRes (P : Program) (s : St) : List ResultVar → Option (List SV)
  | [] => some []
  | .tmp t :: r => match getT s.tm t, readRes P s r with
    | .val x, some l => some (x :: l)
    | _, _ => none
  | .cell a T :: r => match getT s.tm a, readRes P s r with
    | .val (.one c), some l => match cellsAt s.mem c, aggT P T with
      | some (cs, off), some true => match takeN (P.cellsOf T) (dropN off cs) with
        | some x => some (.agg x :: l)
        | none => none
      | some (cs, off), some false => match dropN off cs with
        | x :: _ => some (.one x :: l)
        | [] => none
      | _, _ => none
    | _, _ => none

def argT : Nat → List SV → List (Nat × TV)
  | _, [] => []
  | n, x :: r => (n, .val x) :: argT (n + 1) r

def fin (P : Program) (fn : Func) (k : List SV → Mem → Option R) (s : St) : Option R :=
  match readRes P s fn.results.toList with
  | some rs => k rs s.mem
  | none => none

def bodyRun (C : Cfg) (inl : FuncId → List SV → Mem → (List SV → Mem → Option R) → Option R) (lp : Bool) (f : FuncId) (fn : Func) (args : List SV) (mem : Mem) (k : List SV → Mem → Option R) : Option R :=
  match fn.body with
  | some c => bif Nat.ble args.length fn.ntmps && !(fn.name == "runtime.NumGoroutine") then exec C inl lp f c { n := fn.ntmps, m0 := mem.length, tm := argT 0 args, mem := mem, cs := [] } (fin C.P fn k) (fun _ _ => none) (fin C.P fn k) else none
  | none => none

def inlRun (C : Cfg) : Nat → FuncId → List SV → Mem → (List SV → Mem → Option R) → Option R
  | 0, _, _, _, _ => none
  | d + 1, f, args, mem, k => match C.P.funcs[f]? with
    | some fn => bif Nat.beq fn.params.size args.length then bodyRun C (inlRun C d) (Nat.ble 2 d) f fn args mem k else none
    | none => none
end exec

/-- a loop's body, as a step -/
def lBody (C : Cfg) (d : Nat) (fid : FuncId) (body : Code) (sp : LoopSpec) {R : Type} (ke : Nat → St → Option R) (kr : St → Option R) (L : sp.pat.D → Option R) (x : sp.pat.D) : Option R :=
  exec C (inlRun C d) true fid body (buildPat sp.pat x) (fun s' => match readPat sp.pat (accUp sp.accs { s' with cs := [] }) with
    | some y => L y
    | none => none) (outE sp.exits ke) (outR sp.ret kr)

/-- the call of a function on plain data -/
def run (C : Cfg) (d : Nat) (f : FuncId) (fn : Func) (S T : Sig) (x : DenS S) : Option (DenS T) :=
  match svsOf S x with
  | some args => bodyRun C (inlRun C d) (Nat.ble 2 d) f fn args [] fun rs mem => match freezeSVs mem rs with
    | (rs', _) => parseS T rs'
  | none => none

end Vx
