/- Part 1 of the proof. What is proved: symbolic execution of the functions, proved sound; what each function of the program computes, and that every run ends with it; what these functions compute, in plain numbers. Conditions: each theorem bears its own. -/
import Derived.Calls
import Derived.Orders
import Derived.LoopN
import Derived.KernelRfl
import Derived.Below
import Derived.Laws.Closers25b
import Derived.Laws.Sem
import Derived.Laws.World
import Derived.Laws.Cells
import Derived.Laws.Slices
import Derived.Laws.StructEq
import Derived.Laws.MakeOwn
import Derived.Laws.Tables
set_option linter.all false
set_option exponentiation.threshold 1000000
namespace Vx
open Go
inductive Shape where
 | int (k:IntKind) | flt (k:FloatKind) | bool | str | fn | unit
 | slice (e:Shape) | pair (a b:Shape)
 deriving DecidableEq
@[reducible] def Den:Shape→Type
 | .int _=>Int
 | .flt _=>Option Nat
 | .bool=>Bool
 | .str=>ByteArray
 | .fn=>Option Nat
 | .unit=>Unit
 | .slice e=>List (Den e)
 | .pair a b=>Den a×Den b
def Shape.width:Shape→Nat
 | .unit=>0
 | .pair a b=>a.width+b.width
 | _=>1
def Shape.dflt:(τ:Shape)→Den τ
 | .int _=>(0:Int)
 | .flt _=>some 0
 | .bool=>false
 | .str=>⟨#[]⟩
 | .fn=>none
 | .unit=>()
 | .slice _=>[]
 | .pair a b=>(a.dflt,b.dflt)
inductive SC where
 | undef
 | v (x:Value)
 | fl (k:FloatKind) (o:Option Nat)
 | sl (τ:Shape) (xs:List (Den τ))
 | own (b:Nat)
 | ptr (b off:Nat)
 | eptr (b i off:Nat)
 | sub (b lo len:Nat)
 | iptr (τ:Shape) (x:Den τ) (off:Nat)
 | gptr (g:Nat)
 | fnv (o:Option Nat)
 | fn (f:FuncId) (caps:List (Nat×Nat))
inductive SV where
 | one (c:SC)
 | agg (cs:List SC)
inductive TV where
 | un
 | val (x:SV)
 | tup (xs:List SV)
inductive Blk where
 | gone
 | raw (cells:List SC)
 | arr (τ:Shape) (xs:List (Den τ))
 | acc (τ:Shape) (xs:List (Den τ))
 | froz (τ:Shape) (xs:List (Den τ))
abbrev Mem:=List Blk
structure St where
 n:Nat
 m0:Nat
 tm:List (Nat×TV)
 mem:Mem
 cs:List (Nat×Nat×Bool×TV)
def SV.cells:SV→List SC
 | .one c=>[c]
 | .agg cs=>cs
def cellsOf:(τ:Shape)→Den τ→List SC
 | .int k,n=>[.v (.int k n)]
 | .flt k,o=>[.fl k o]
 | .bool,b=>[.v (.bool b)]
 | .str,s=>[.v (.string s)]
 | .fn,o=>[.fnv o]
 | .unit,_=>[]
 | .slice e,xs=>[.sl e xs]
 | .pair a b,x=>cellsOf a x.1++cellsOf b x.2
def castL (e' e:Shape) (xs:List (Den e')):Option (List (Den e)) :=
 if h:e'=e then some (h ▸ xs) else none
def parse:(τ:Shape)→List SC→Option (Den τ×List SC)
 | .int k,c::r=>match c with
  | .v (.int k' n)=>if k'=k then some (n,r) else none
  | _=>none
 | .flt k,c::r=>match c with
  | .fl k' o=>if k'=k then some (o,r) else none
  | _=>none
 | .bool,c::r=>match c with
  | .v (.bool b)=>some (b,r)
  | _=>none
 | .str,c::r=>match c with
  | .v (.string s)=>some (s,r)
  | _=>none
 | .fn,c::r=>match c with
  | .v .nilFunc=>some (none,r)
  | .fn f []=>some (some f,r)
  | .fnv o=>some (o,r)
  | _=>none
 | .unit,cs=>some ((),cs)
 | .slice e,c::r=>match c with
  | .sl e' xs=>match castL e' e xs with
   | some ys=>some (ys,r)
   | none=>none
  | .v (.slice none 0 0)=>some ([],r)
  | _=>none
 | .pair a b,cs=>match parse a cs with
  | none=>none
  | some (x,r)=>match parse b r with
   | none=>none
   | some (y,r')=>some ((x,y),r')
 | _,[]=>none
def parseMany (τ:Shape):Nat→List SC→Option (List (Den τ))
 | 0,[]=>some []
 | 0,_::_=>none
 | n+1,cs=>match parse τ cs with
  | none=>none
  | some (x,r)=>match parseMany τ n r with
   | none=>none
   | some xs=>some (x::xs)
def many (τ:Shape) (n:Nat) (cs:List SC):Option (List (Den τ)) :=
 bif Nat.ble n 1048576 then parseMany τ n cs else none
section types
variable (P:Program)
def foldSh:List (Option Shape)→Option Shape
 | []=>some .unit
 | none::_=>none
 | some a::r=>match foldSh r with
  | none=>none
  | some b=>some (.pair a b)
def shapeOf:Nat→TypeId→Option Shape
 | 0,_=>none
 | d+1,T=>match P.underlying T with
  | some (.int k)=>some (.int k)
  | some (.float k)=>some (.flt k)
  | some .bool=>some .bool
  | some .string=>some .str
  | some (.func _ _ _)=>some .fn
  | some (.slice e)=>match shapeOf d e with
   | some s=>some (.slice s)
   | none=>none
  | some (.struct fs)=>foldSh (fs.toList.map fun f=>shapeOf d f.type)
  | _=>none
def aggT (T:TypeId):Option Bool :=
 match P.underlying T with
 | some (.struct _)=>some true
 | some (.array _ _)=>some true
 | some _=>some false
 | none=>none
def okLit (k:IntKind) (n:Int):Bool :=
 match k with
 | .i8=>decide (-128≤n)&&decide (n≤127)
 | .i16=>decide (-32768≤n)&&decide (n≤32767)
 | .i32=>decide (-2147483648≤n)&&decide (n≤2147483647)
 | .i64=>decide (-9223372036854775808≤n)&&decide (n≤9223372036854775807)
 | .u8=>decide (0≤n)&&decide (n≤255)
 | .u16=>decide (0≤n)&&decide (n≤65535)
 | .u32=>decide (0≤n)&&decide (n≤4294967295)
 | .u64=>decide (0≤n)&&decide (n≤18446744073709551615)
def scOfConst:Value→Option SC
 | .bool b=>some (.v (.bool b))
 | .int k n=>bif okLit k n then some (.v (.int k n)) else none
 | .float .f32 b=>bif Nat.blt b 4294967296 then some (.fl .f32 (some b)) else none
 | .float .f64 b=>bif Nat.blt b 18446744073709551616 then some (.fl .f64 (some b)) else none
 | .string s=>bif Nat.blt s.size 9223372036854775808 then some (.v (.string s)) else none
 | .pointer none=>some (.v (.pointer none))
 | .slice none 0 0=>some (.v (.slice none 0 0))
 | .nilFunc=>some (.v .nilFunc)
 | .nilIface=>some (.v .nilIface)
 | .func (.func f) first captured=>match first.toList,captured.toList with
  | [],[]=>some (.fn f [])
  | _,_=>none
 | _=>none
def scsOfConst:List Value→Option (List SC)
 | []=>some []
 | v::r=>match scOfConst v,scsOfConst r with
  | some c,some cs=>some (c::cs)
  | _,_=>none
def svOfConst:Value→Option SV
 | .agg cs=>match scsOfConst cs.toList with
  | some l=>some (.agg l)
  | none=>none
 | v=>match scOfConst v with
  | some c=>some (.one c)
  | none=>none
def zeroSV (T:TypeId):Option SV :=
 match P.info? T with
 | some i=>match i.zero with
  | some z=>svOfConst z
  | none=>none
 | none=>none
end types
def getT:List (Nat×TV)→Nat→TV
 | [],_=>.un
 | (n,x)::r,m=>bif Nat.beq n m then x else getT r m
def pb:Bool→Bool→Bool
 | true,b=>b
 | false,b=>!b
def getCs:List (Nat×Nat×Bool×TV)→Nat→Option ((Nat×Bool)×TV)
 | [],_=>none
 | (d,g,p,x)::r,t=>bif Nat.beq d t then some ((g,p),x) else getCs r t
def ctxOf:List (Nat×Nat×Bool×TV)→Nat→Bool→List (Nat×Bool)
 | [],t,p=>[(t,p)]
 | (d,g,q,_)::r,t,p=>bif Nat.beq d t then (t,p)::ctxOf r g q else ctxOf r t p
def cval (tm:List (Nat×TV)):List (Nat×Nat×Bool×TV)→Nat→Bool→Option Bool
 | [],t,p=>match getT tm t with
  | .val (.one (.v (.bool b)))=>some (pb p b)
  | _=>none
 | (d,g,q,x)::r,t,p=>bif Nat.beq d t then
   (match x with
    | .val (.one (.v (.bool b)))=>match cval tm r g q with
     | some c=>some (c&&pb p b)
     | none=>none
    | _=>none)
  else cval tm r t p
def hasTag:List (Nat×Bool)→Nat→Bool→Bool
 | [],_,_=>false
 | (t,p)::r,g,q=>(Nat.beq t g&&pb p q)||hasTag r g q
def ev (s:St) (ctx:List (Nat×Bool)):Operand→Option TV
 | .tmp t=>match getCs s.cs t with
  | some ((g,p),x)=>bif hasTag ctx g p then some x else none
  | none=>some (getT s.tm t)
 | .const v=>match svOfConst v with
  | some x=>some (.val x)
  | none=>none
 | .global g=>some (.val (.one (.gptr g)))
 | .func f=>some (.val (.one (.fn f [])))
def ev1 (s:St) (ctx:List (Nat×Bool)) (x:Operand):Option SC :=
 match ev s ctx x with
 | some (.val (.one c))=>some c
 | _=>none
def evV (s:St) (ctx:List (Nat×Bool)) (x:Operand):Option SV :=
 match ev s ctx x with
 | some (.val v)=>some v
 | _=>none
def evVs (s:St) (ctx:List (Nat×Bool)):List Operand→Option (List SV)
 | []=>some []
 | x::r=>match evV s ctx x,evVs s ctx r with
  | some v,some vs=>some (v::vs)
  | _,_=>none
def blkAt (mem:Mem) (b:Nat):Blk:=(mem[b]?).getD .gone
def freeze1 (mem:Mem) (c:SC):SC×Mem :=
 match c with
 | .own b=>match blkAt mem b with
  | .arr τ xs=>(.sl τ xs,mem.set b (.froz τ xs))
  | .acc τ xs=>(.sl τ xs,mem.set b (.froz τ xs))
  | .froz τ xs=>(.sl τ xs,mem)
  | _=>(.undef,mem)
 | c=>(c,mem)
def freezeL:Mem→List SC→List SC×Mem
 | mem,[]=>([],mem)
 | mem,c::r=>match freeze1 mem c with
  | (c',mem')=>match freezeL mem' r with
   | (r',mem'')=>(c'::r',mem'')
def freezeSV (mem:Mem):SV→SV×Mem
 | .one c=>match freeze1 mem c with
  | (c',m)=>(.one c',m)
 | .agg cs=>match freezeL mem cs with
  | (cs',m)=>(.agg cs',m)
def asList (mem:Mem) (τ:Shape):SC→Option (List (Den τ))
 | .sl τ' xs=>castL τ' τ xs
 | .v (.slice none 0 0)=>some []
 | .own b=>match blkAt mem b with
  | .arr τ' xs=>castL τ' τ xs
  | .acc τ' xs=>castL τ' τ xs
  | .froz τ' xs=>castL τ' τ xs
  | _=>none
 | _=>none
def lenOf (mem:Mem):SC→Option Nat
 | .sl _ xs=>some xs.length
 | .v (.slice none 0 0)=>some 0
 | .v (.string s)=>some s.size
 | .own b=>match blkAt mem b with
  | .arr _ xs=>some xs.length
  | .acc _ xs=>some xs.length
  | .froz _ xs=>some xs.length
  | _=>none
 | _=>none
def cellsAt (mem:Mem):SC→Option (List SC×Nat)
 | .ptr b off=>match blkAt mem b with
  | .raw cs=>some (cs,off)
  | _=>none
 | .eptr b i off=>match blkAt mem b with
  | .arr τ xs=>some (cellsOf τ (xs.getD i τ.dflt),off)
  | _=>none
 | .iptr τ x off=>some (cellsOf τ x,off)
 | _=>none
def takeN:Nat→List SC→Option (List SC)
 | 0,_=>some []
 | _+1,[]=>none
 | n+1,c::r=>match takeN n r with
  | some l=>some (c::l)
  | none=>none
def dropN:Nat→List SC→List SC
 | 0,l=>l
 | _+1,[]=>[]
 | n+1,_::r=>dropN n r
def splice:Nat→List SC→List SC→Option (List SC)
 | 0,[],old=>some old
 | 0,_::_,[]=>none
 | 0,c::r,_::old=>match splice 0 r old with
  | some l=>some (c::l)
  | none=>none
 | _+1,_,[]=>none
 | n+1,new,c::old=>match splice n new old with
  | some l=>some (c::l)
  | none=>none
def defd:SC→Bool
 | .undef=>false
 | _=>true
def lenIs:Nat→List SC→Bool
 | 0,[]=>true
 | n+1,_::r=>lenIs n r
 | _,_=>false
def shlI (k:IntKind) (x y:Int):Int:=k.wrap (x*2^(min y.toNat k.bits))
def shrI (k:IntKind) (x y:Int):Int:=x.fdiv (2^(min y.toNat k.bits))
def andI (k:IntKind) (x y:Int):Int:=k.wrap ((BitVec.ofInt k.bits x &&& BitVec.ofInt k.bits y).toNat:Int)
def orI (k:IntKind) (x y:Int):Int:=k.wrap ((BitVec.ofInt k.bits x ||| BitVec.ofInt k.bits y).toNat:Int)
def xorI (k:IntKind) (x y:Int):Int:=k.wrap ((BitVec.ofInt k.bits x ^^^ BitVec.ofInt k.bits y).toNat:Int)
def andNotI (k:IntKind) (x y:Int):Int:=k.wrap ((BitVec.ofInt k.bits x &&& ~~~(BitVec.ofInt k.bits y)).toNat:Int)
def notI (k:IntKind) (x:Int):Int:=xorI k (if k.signed then -1 else k.max) x
def quoI (k:IntKind) (x y:Int):Int:=k.wrap (x.tdiv y)
def fop (op:BinOp) (k:FloatKind) (x y:Nat):Option Nat :=
 match op with
 | .add=>k.format.add x y
 | .sub=>k.format.sub x y
 | .mul=>k.format.mul x y
 | _=>k.format.div x y
def flop (op:BinOp) (k:FloatKind):Option Nat→Option Nat→Option Nat
 | some x,some y=>fop op k x y
 | _,_=>none
def flord (k:FloatKind):Option Nat→Option Nat→Option Ordering
 | some x,some y=>k.format.order x y
 | _,_=>none
def binV (op:BinOp):SC→SC→Option (Bool×SC)
 | .v (.int k x),.v (.int k' y) =>
  match op with
  | .shl=>some ((match k'.signed with | true=>decide (0≤y) | false=>true),.v (.int k (shlI k x y)))
  | .shr=>some ((match k'.signed with | true=>decide (0≤y) | false=>true),.v (.int k (shrI k x y)))
  | op=>if k'=k then
    match op with
    | .add=>some (true,.v (.int k (k.wrap (x+y))))
    | .sub=>some (true,.v (.int k (k.wrap (x-y))))
    | .mul=>some (true,.v (.int k (k.wrap (x*y))))
    | .quo=>some (y != 0,.v (.int k (quoI k x y)))
    | .rem=>some (y != 0,.v (.int k (x.tmod y)))
    | .and=>some (true,.v (.int k (andI k x y)))
    | .or=>some (true,.v (.int k (orI k x y)))
    | .xor=>some (true,.v (.int k (xorI k x y)))
    | .andNot=>some (true,.v (.int k (andNotI k x y)))
    | .eql=>some (true,.v (.bool (x==y)))
    | .neq=>some (true,.v (.bool (x != y)))
    | .lss=>some (true,.v (.bool (decide (x<y))))
    | .leq=>some (true,.v (.bool (decide (x≤y))))
    | .gtr=>some (true,.v (.bool (decide (x>y))))
    | .geq=>some (true,.v (.bool (decide (x≥y))))
    | _=>none
   else none
 | .v (.bool x),.v (.bool y) =>
  match op with
  | .eql=>some (true,.v (.bool (x==y)))
  | .neq=>some (true,.v (.bool (!(x==y))))
  | _=>none
 | .v (.string x),.v (.string y) =>
  match op with
  | .eql=>some (true,.v (.bool (x.toList==y.toList)))
  | .neq=>some (true,.v (.bool (x.toList != y.toList)))
  | _=>none
 | .fl k x,.fl k' y =>
  if k'=k then
   match op with
   | .eql=>some (true,.v (.bool (flord k x y==some .eq)))
   | .neq=>some (true,.v (.bool (flord k x y != some .eq)))
   | .lss=>some (true,.v (.bool (flord k x y==some .lt)))
   | .leq=>some (true,.v (.bool (flord k x y==some .lt||flord k x y==some .eq)))
   | .gtr=>some (true,.v (.bool (flord k x y==some .gt)))
   | .geq=>some (true,.v (.bool (flord k x y==some .gt||flord k x y==some .eq)))
   | .add=>some (true,.fl k (flop .add k x y))
   | .sub=>some (true,.fl k (flop .sub k x y))
   | .mul=>some (true,.fl k (flop .mul k x y))
   | .quo=>some (true,.fl k (flop .quo k x y))
   | _=>none
  else none
 | _,_=>none
def isBoolT (P:Program) (T:TypeId):Bool:=match P.underlying T with | some .bool=>true | _=>false
def okBoolT (P:Program) (T:TypeId):SC→Bool
 | .v (.bool _)=>isBoolT P T
 | _=>true
def eqCell (P:Program) (T:TypeId):SC→SC→Option Bool
 | .v (.int k x),.v (.int k' y)=>match P.underlying T with
  | some (.int _)=>if k'=k then some (x==y) else none
  | _=>none
 | .v (.bool x),.v (.bool y)=>match P.underlying T with
  | some .bool=>some (x==y)
  | _=>none
 | _,_=>none
def eqFlds (P:Program):Nat→List Field→List SC→List SC→Option Bool
 | _,[],[],[]=>some true
 | n, f :: fs, a :: as, b :: bs => bif Nat.beq f.offset n && f.name != "_" then
   (match eqCell P f.type a b,eqFlds P (n+1) fs as bs with
    | some x,some r=>match fs with
     | []=>some x
     | _::_=>some (x&&r)
    | _,_=>none)
  else none
 | _,_,_,_=>none
def unV (op:UnOp):SC→Option SC
 | .v (.int k n)=>match op with
  | .neg=>some (.v (.int k (k.wrap (0-n))))
  | .xor=>some (.v (.int k (notI k n)))
  | _=>none
 | .v (.bool b)=>match op with
  | .not=>some (.v (.bool !b))
  | _=>none
 | _=>none
inductive LK where
 | win (e:Shape)
 | ref (τ:Shape)
@[reducible] def LK.D:LK→Type
 | .win e=>List (Den e)×Nat×Nat
 | .ref τ=>Den τ
@[reducible] def LK.B:LK→Type
 | .win e=>List (Den e)
 | .ref τ=>Den τ
abbrev Sig:=List (Bool×Shape)
@[reducible] def DenS:Sig→Type
 | []=>Unit
 | (_,τ)::r=>Den τ×DenS r
def parseP (mem:Mem) (a:Bool) (τ:Shape) (z:SV):Option (Den τ×Mem) :=
 match z with
 | .one c=>bif a then none else (match parse τ [c] with
  | some (y,[])=>some (y,mem)
  | _=>none)
 | .agg cs=>bif a then (match parse τ cs with
  | some (y,[])=>some (y,mem)
  | _=>none) else none
def takeOne (mem:Mem) (a:Bool):(τ:Shape)→SV→Option (Den τ×Mem)
 | .slice e,z=>bif a then (match z with
  | .one (.own b)=>(match blkAt mem b with
   | .arr τ' xs=>(match castL τ' e xs with
    | some xs'=>some (xs',mem.set b .gone)
    | none=>none)
   | .acc τ' xs=>(match castL τ' e xs with
    | some xs'=>some (xs',mem.set b .gone)
    | none=>none)
   | _=>none)
  | .one (.v (.slice none 0 0))=>some ([],mem)
  | _=>none) else parseP mem false (.slice e) z
 | .int k,z=>parseP mem a (.int k) z
 | .flt k,z=>parseP mem a (.flt k) z
 | .bool,z=>parseP mem a .bool z
 | .str,z=>parseP mem a .str z
 | .fn,z=>parseP mem a .fn z
 | .unit,z=>parseP mem a .unit z
 | .pair σ τ,z=>parseP mem a (.pair σ τ) z
def takeS:Mem→(S:Sig)→List SV→Option (DenS S×Mem)
 | mem,[],[]=>some ((),mem)
 | mem,(a,τ)::S,z::r=>match takeOne mem a τ z with
  | some (x,m1)=>(match takeS m1 S r with
   | some (y,m2)=>some ((x,y),m2)
   | none=>none)
  | none=>none
 | _,_,_=>none
def ownE (a:Bool):Shape→Bool
 | .slice _=>a
 | _=>false
def frzS:Mem→Sig→List SV→List SV×Mem
 | mem,[],r=>(r,mem)
 | mem,_::_,[]=>([],mem)
 | mem,(a,τ)::S,z::r=>bif ownE a τ then (match frzS mem S r with
   | (r',m')=>(z::r',m'))
  else (match freezeSV mem z with
   | (z',m1)=>(match frzS m1 S r with
    | (r',m')=>(z'::r',m')))
def giveOne (mem:Mem) (a:Bool):(τ:Shape)→Den τ→Option (SV×Mem)
 | .slice e,x=>bif a then some (.one (.own mem.length),mem++[.arr e x]) else (match cellsOf (.slice e) x with
  | [c]=>some (.one c,mem)
  | _=>none)
 | .int k,x=>giveP mem a (.int k) x
 | .flt k,x=>giveP mem a (.flt k) x
 | .bool,x=>giveP mem a .bool x
 | .str,x=>giveP mem a .str x
 | .fn,x=>giveP mem a .fn x
 | .unit,x=>giveP mem a .unit x
 | .pair σ τ,x=>giveP mem a (.pair σ τ) x
where giveP (mem:Mem) (a:Bool) (τ:Shape) (x:Den τ):Option (SV×Mem) :=
 bif a then some (.agg (cellsOf τ x),mem) else match cellsOf τ x with
  | [c]=>some (.one c,mem)
  | _=>none
def giveS:Mem→(S:Sig)→DenS S→Option (List SV×Mem)
 | mem,[],_=>some ([],mem)
 | mem,(a,τ)::S,x=>match giveOne mem a τ x.1 with
  | some (v,m1)=>(match giveS m1 S x.2 with
   | some (r,m2)=>some (v::r,m2)
   | none=>none)
  | none=>none
structure Sum where
 ins:Sig
 outs:Sig
 pre:DenS ins→Bool
 F:DenS ins→DenS outs
structure SumL where
 lend:LK
 ins:Sig
 outs:Sig
 pre:lend.D×DenS ins→Bool
 F:lend.D×DenS ins→lend.B×DenS outs
def preOne (mem:Mem):LK→SV→Mem
 | .win _,_=>mem
 | .ref _,z=>match z with
  | .one (.ptr b 0)=>(match blkAt mem b with
   | .raw cs=>(match freezeL mem cs with
    | (cs',m1)=>m1.set b (.raw cs'))
   | _=>mem)
  | _=>mem
def lendOne (mem:Mem):(k:LK)→SV→Option (Nat×k.D×Mem)
 | .win e,z=>match z with
  | .one (.sub b lo len)=>(match blkAt mem b with
   | .arr τ xs=>(match castL τ e xs with
    | some xs'=>some (b,(xs',lo,len),mem.set b .gone)
    | none=>none)
   | _=>none)
  | .one (.own b)=>(match blkAt mem b with
   | .arr τ xs=>(match castL τ e xs with
    | some xs'=>some (b,(xs',0,xs.length),mem.set b .gone)
    | none=>none)
   | _=>none)
  | _=>none
 | .ref τ,z=>match z with
  | .one (.ptr b 0)=>(match blkAt mem b with
   | .raw cs=>(match parse τ cs with
    | some (x,[])=>some (b,x,mem.set b .gone)
    | _=>none)
   | _=>none)
  | _=>none
def backOne (mem:Mem) (b:Nat):(k:LK)→k.B→Mem
 | .win e,xs=>mem.set b (.arr e xs)
 | .ref τ,x=>mem.set b (.raw (cellsOf τ x))
def namesC (b:Nat):SC→Bool
 | .own b'=>Nat.beq b' b
 | .ptr b' _=>Nat.beq b' b
 | .eptr b' _ _=>Nat.beq b' b
 | .sub b' _ _=>Nat.beq b' b
 | .fn _ caps=>caps.any fun p=>Nat.beq p.1 b
 | _=>false
def freeB (b:Nat):Blk→Bool
 | .raw cs=>cs.all fun c=>!(namesC b c)
 | _=>true
def freeM (b:Nat) (mem:Mem):Bool:=mem.all (freeB b)
def fitL1 (mem:Mem):LK→SV→Bool
 | .win _,z=>match z with
  | .one (.sub b _ _)=>(match blkAt mem b with | .arr _ _=>true | _=>false)
  | .one (.own b)=>(match blkAt mem b with | .arr _ _=>true | _=>false)
  | _=>false
 | .ref _,z=>match z with
  | .one (.ptr b 0)=>(match blkAt mem b with | .raw _=>true | _=>false)
  | _=>false
def fitL (mem:Mem) (k:LK):List SV→Bool
 | []=>false
 | z::_=>fitL1 mem k z
inductive PC where
 | v (k:IntKind) | bool | str | fnv | sl (τ:Shape) | fl (k:FloatKind)
 | own (b:Nat) | ptr (b off:Nat) | gptr (g:Nat) | fn (f:FuncId) | nilp | undef | sub (b:Nat)
@[reducible] def PC.D:PC→Type
 | .v _=>Int
 | .bool=>Bool
 | .str=>ByteArray
 | .fnv=>Option Nat
 | .sl τ=>List (Den τ)
 | .fl _=>Option Nat
 | .sub _=>Nat×Nat
 | _=>Unit
@[reducible] def PCs:List PC→Type
 | []=>Unit
 | c::r=>c.D×PCs r
inductive PV where
 | one (c:PC)
 | agg (cs:List PC)
@[reducible] def PV.D:PV→Type
 | .one c=>c.D
 | .agg cs=>PCs cs
@[reducible] def PTm:List (Nat×PV)→Type
 | []=>Unit
 | (_,v)::r=>v.D×PTm r
inductive PB where
 | gone
 | raw (cs:List PC)
 | arr (τ:Shape)
 | acc (τ:Shape)
 | froz (τ:Shape)
@[reducible] def PB.D:PB→Type
 | .gone=>Unit
 | .raw cs=>PCs cs
 | .arr τ=>List (Den τ)
 | .acc τ=>List (Den τ)
 | .froz τ=>List (Den τ)
@[reducible] def PMem:List PB→Type
 | []=>Unit
 | b::r=>b.D×PMem r
structure Pat where
 n:Nat
 tm:List (Nat×PV)
 mem:List PB
@[reducible] def Pat.D (p:Pat):Type:=PTm p.tm×PMem p.mem
def readC (mem:Mem) (len:Nat):(c:PC)→SC→Option c.D
 | .v k,z=>match z with
  | .v (.int k' n)=>if k'=k then some n else none
  | _=>none
 | .bool,z=>match z with
  | .v (.bool b)=>some b
  | _=>none
 | .str,z=>match z with
  | .v (.string b)=>some b
  | _=>none
 | .fnv,z=>match z with
  | .v .nilFunc=>some none
  | .fn f []=>some (some f)
  | .fnv o=>some o
  | _=>none
 | .sl τ,z=>match z with
  | .sl τ' xs=>castL τ' τ xs
  | .v (.slice none 0 0)=>some []
  | .own b=>match blkAt mem b with
   | .froz τ' xs=>castL τ' τ xs
   | _=>none
  | _=>none
 | .fl k,z=>match z with
  | .fl k' o=>if k'=k then some o else none
  | _=>none
 | .own b,z=>match z with
  | .own b'=>bif Nat.beq b' b&&Nat.blt b len then some () else none
  | _=>none
 | .ptr b off,z=>match z with
  | .ptr b' off'=>bif Nat.beq b' b&&Nat.beq off' off&&Nat.blt b len then some () else none
  | _=>none
 | .gptr g,z=>match z with
  | .gptr g'=>bif Nat.beq g' g then some () else none
  | _=>none
 | .fn f,z=>match z with
  | .fn f' []=>bif Nat.beq f' f then some () else none
  | _=>none
 | .nilp,z=>match z with
  | .v (.pointer none)=>some ()
  | _=>none
 | .undef,_=>some ()
 | .sub b,z=>match z with
  | .sub b' lo n=>bif Nat.beq b' b&&Nat.blt b len then some (lo,n) else none
  | _=>none
def buildC:(c:PC)→c.D→SC
 | .v k,n=>.v (.int k n)
 | .bool,b=>.v (.bool b)
 | .str,b=>.v (.string b)
 | .fnv,o=>.fnv o
 | .sl τ,xs=>.sl τ xs
 | .fl k,o=>.fl k o
 | .own b,_=>.own b
 | .ptr b off,_=>.ptr b off
 | .gptr g,_=>.gptr g
 | .fn f,_=>.fn f []
 | .nilp,_=>.v (.pointer none)
 | .undef,_=>.undef
 | .sub b,x=>.sub b x.1 x.2
def readCs (mem:Mem) (len:Nat):(l:List PC)→List SC→Option (PCs l)
 | [],[]=>some ()
 | c::r,z::zs=>match readC mem len c z,readCs mem len r zs with
  | some d,some ds=>some (d,ds)
  | _,_=>none
 | _,_=>none
def buildCs:(l:List PC)→PCs l→List SC
 | [],_=>[]
 | c::r,x=>buildC c x.1::buildCs r x.2
def readV (mem:Mem) (len:Nat):(v:PV)→TV→Option v.D
 | .one c,.val (.one z)=>readC mem len c z
 | .agg cs,.val (.agg zs)=>readCs mem len cs zs
 | _,_=>none
def buildV:(v:PV)→v.D→SV
 | .one c,x=>.one (buildC c x)
 | .agg cs,x=>.agg (buildCs cs x)
def readTm (s:St) (len:Nat):(l:List (Nat×PV))→Option (PTm l)
 | []=>some ()
 | (t,v)::r=>match readV s.mem len v (getT s.tm t),readTm s len r with
  | some d,some ds=>some (d,ds)
  | _,_=>none
def buildTm:(l:List (Nat×PV))→PTm l→List (Nat×TV)
 | [],_=>[]
 | (t,v)::r,x=>(t,.val (buildV v x.1))::buildTm r x.2
def readB (mem:Mem) (len:Nat):(b:PB)→Blk→Option b.D
 | .gone,_=>some ()
 | .raw cs,.raw zs=>readCs mem len cs zs
 | .arr τ,.arr τ' xs=>castL τ' τ xs
 | .acc τ,.acc τ' xs=>castL τ' τ xs
 | .froz τ,.froz τ' xs=>castL τ' τ xs
 | _,_=>none
def buildB:(b:PB)→b.D→Blk
 | .gone,_=>.gone
 | .raw cs,x=>.raw (buildCs cs x)
 | .arr τ,x=>.arr τ x
 | .acc τ,x=>.acc τ x
 | .froz τ,x=>.froz τ x
def readMem (mem:Mem) (len:Nat):(l:List PB)→List Blk→Option (PMem l)
 | [],_=>some ()
 | b::r,z::zs=>match readB mem len b z,readMem mem len r zs with
  | some d,some ds=>some (d,ds)
  | _,_=>none
 | _,_=>none
def buildMem:(l:List PB)→PMem l→Mem
 | [],_=>[]
 | b::r,x=>buildB b x.1::buildMem r x.2
def readPat (p:Pat) (s:St) (m:Nat:=0):Option p.D :=
 bif Nat.beq s.n p.n&&Nat.beq s.m0 m&&Nat.ble m p.mem.length then
  (match readTm s p.mem.length p.tm,readMem s.mem p.mem.length p.mem s.mem with
   | some x,some y=>some (x,y)
   | _,_=>none)
 else none
def buildPat (p:Pat) (x:p.D) (m:Nat:=0):St:={ n:=p.n,m0:=m,tm:=buildTm p.tm x.1,mem:=buildMem p.mem x.2,cs:=[] }
structure LoopSpec where
 pat:Pat
 accs:List (Nat×Shape)
 exits:List (Nat×Pat)
 ret:Option Pat
 run:{R:Type}→pat.D→(Nat→St→Option R)→(St→Option R)→Option R
 /-- so many names of the caller's lie ahead -/
 m0:Nat:=0
structure Cfg where
 P:Program
 sums:List (FuncId×Sum)
 loops:List (FuncId×Nat×LoopSpec)
 globs:List (Nat×Sigma fun τ=>List (Den τ))
 /-- are rows that are cut at their end still the call's own? -/
 keep:Bool:=false
 /-- functions to which something is lent -/
 lsums:List (FuncId×SumL):=[]
 /-- is a row that is cut at both ends a piece of it? -/
 cut:Bool:=false
 /-- loops without a spec are followed for so many rounds -/
 unroll:Nat:=0
def fitA (mem:Mem):Sig→List SV→Bool
 | [],[]=>true
 | (a,τ)::S,z::r=>(bif ownE a τ then (match z with
  | .one (.own b)=>(match blkAt mem b with
   | .arr _ _=>true
   | .acc _ _=>true
   | _=>false)
  | .one (.v (.slice none 0 0))=>true
  | _=>false) else true)&&fitA mem S r
 | _,_=>false
def findSum:List (FuncId×Sum)→FuncId→Mem→List SV→Option Sum
 | [],_,_,_=>none
 | (g,S)::r,f,mem,args=>bif Nat.beq g f&&fitA mem S.ins args then some S else findSum r f mem args
def findLoop:List (FuncId×Nat×LoopSpec)→FuncId→Nat→Option LoopSpec
 | [],_,_=>none
 | (g,k,S)::r,f,n=>bif Nat.beq g f&&Nat.beq k n then some S else findLoop r f n
def findGlob:List (Nat×Sigma fun τ=>List (Den τ))→Nat→Option (Sigma fun τ=>List (Den τ))
 | [],_=>none
 | (g,S)::r,f=>bif Nat.beq g f then some S else findGlob r f
def Cfg.sum (C:Cfg) (f:FuncId) (mem:Mem) (args:List SV):Option Sum:=findSum C.sums f mem args
def findL:List (FuncId×SumL)→FuncId→Mem→List SV→Option SumL
 | [],_,_,_=>none
 | (g,S)::r,f,mem,args=>bif Nat.beq g f&&fitL mem S.lend args then some S else findL r f mem args
def Cfg.lsum (C:Cfg) (f:FuncId) (mem:Mem) (args:List SV):Option SumL:=findL C.lsums f mem args
def Cfg.loop (C:Cfg) (f:FuncId) (k:Nat):Option LoopSpec:=findLoop C.loops f k
def Cfg.glob (C:Cfg) (g:Nat):Option (Sigma fun τ=>List (Den τ)):=findGlob C.globs g
def tvOf:List SV→TV
 | [x]=>.val x
 | l=>.tup l
inductive Res where
 | ok (g:Bool) (x:TV) (mem:Mem)
 | inl (f:FuncId) (args:List SV)
def intArg (s:St) (ctx:List (Nat×Bool)) (x:Operand):Option Int :=
 match ev1 s ctx x with
 | some (.v (.int _ n))=>some n
 | _=>none
def fieldOff (P:Program) (T:TypeId) (i:Nat):Option (Nat×TypeId) :=
 match P.underlying T with
 | some (.struct fs)=>match fs.toList[i]? with
  | some f=>bif Nat.beq (P.cellsOf f.type) 0 then none else some (f.offset,f.type)
  | none=>none
 | _=>none
def elemSh (P:Program) (e:TypeId):Option Shape :=
 match shapeOf P 12 e with
 | some τ=>bif Nat.beq (P.cellsOf e) τ.width then some τ else none
 | none=>none
def svSplice (place:Nat→Option (Nat×Nat)):List (Nat×SV)→List SC→Option (List SC)
 | [],old=>some old
 | (i,x)::r,old=>match place i with
  | none=>none
  | some (off,size)=>bif lenIs size x.cells then
    (match splice off x.cells old with
     | some old'=>svSplice place r old'
     | none=>none)
   else none
def evParts (s:St) (ctx:List (Nat×Bool)):List (Nat×Operand)→Option (List (Nat×SV))
 | []=>some []
 | (i,x)::r=>match evV s ctx x,evParts s ctx r with
  | some v,some vs=>some ((i,v)::vs)
  | _,_=>none
def allDef:List SC→Bool
 | []=>true
 | c::r=>defd c&&allDef r
def ptrsOf (mem:Mem):List SV→Option (List (Nat×Nat))
 | []=>some []
 | .one (.ptr b off)::r=>match blkAt mem b,ptrsOf mem r with
  | .raw _,some l=>some ((b,off)::l)
  | _,_=>none
 | _=>none
def allRaw (mem:Mem):List (Nat×Nat)→Bool
 | []=>true
 | (b,_)::r=>match blkAt mem b with
  | .raw _=>allRaw mem r
  | _=>false
def dropOwn (b:Nat):SC→SC
 | .own b'=>bif Nat.beq b b' then .undef else .own b'
 | c=>c
def dropOwnV (b:Nat):SV→SV
 | .one c=>.one (dropOwn b c)
 | .agg cs=>.agg (cs.map (dropOwn b))
def dropOwnT (b:Nat):TV→TV
 | .un=>.un
 | .val x=>.val (dropOwnV b x)
 | .tup l=>.tup (l.map (dropOwnV b))
def dropOwnB (b:Nat):Blk→Blk
 | .raw cs=>.raw (cs.map (dropOwn b))
 | x=>x
def zeroOk (P:Program) (e:TypeId):Bool :=
 match zeroSV P e with
 | some z=>lenIs (P.cellsOf e) z.cells
 | none=>false
noncomputable def sealB (b:Bool):Bool:=(Classical.choice ⟨(⟨b,rfl⟩:{ c:Bool // c=b })⟩).1
theorem sealB_eq (b:Bool):sealB b=b:=(Classical.choice ⟨(⟨b,rfl⟩:{ c:Bool // c=b })⟩).2
noncomputable def sealN (n:Nat) (b:Bool):Bool:=bif Nat.blt 15 n then sealB b else b
theorem sealN_eq (n:Nat) (b:Bool):sealN n b=b:=by
 unfold sealN
 cases Nat.blt 15 n with
 | true=>exact sealB_eq b
 | false=>rfl
def maxRoom:Int:=140737488355328
def roomOk (n b:Nat):Bool:=Nat.ble (n*2*b) 140737488355328
def sameArg:Operand→Operand→Bool
 | .tmp t,.tmp t'=>Nat.beq t t'
 | .const (.int k a),.const (.int k' b)=>decide (k=k')&&decide (a=b)
 | _,_=>false
def rowAt (mem:Mem) (τ:Shape) (b:Nat):Option (List (Den τ)) :=
 match blkAt mem b with
 | .arr τ' xs=>castL τ' τ xs
 | .acc τ' xs=>castL τ' τ xs
 | _=>none
def truncB (C:Cfg) (s:St) (ctx:List (Nat×Bool)) (x:Operand) (lo mx:Option Operand):Option Nat :=
 bif C.keep&&lo.isNone&&mx.isNone then (match ev1 s ctx x with
  | some (.own b)=>(match blkAt s.mem b with
   | .arr _ _=>some b
   | .acc _ _=>some b
   | _=>none)
  | _=>none) else none
def subOp (C:Cfg) (s:St) (ctx:List (Nat×Bool)) (T:TypeId) (x:Operand) (lo hi mx:Option Operand):Option (Bool×SC) :=
 match mx,ev1 s ctx x with
 | none,some (.own b)=>bif C.cut then (match lo,hi,C.P.underlying T,blkAt s.mem b with
  | some l,some h,some (.slice e),.arr τ' xs=>(match elemSh C.P e,intArg s ctx l,intArg s ctx h with
   | some τ,some l,some h=>if τ'=τ then some (decide (0≤l)&&decide (l≤h)&&decide (h≤(xs.length:Int)),.sub b l.toNat (h.toNat-l.toNat)) else none
   | _,_,_=>none)
  | _,_,_,_=>none) else none
 | none,some (.ptr b 0)=>(match lo,hi,C.P.underlying T,blkAt s.mem b with
  | none,none,some (.array n e),.arr τ' xs=>(match elemSh C.P e with
   | some τ=>if τ'=τ then (bif Nat.beq xs.length n then some (true,.sub b 0 xs.length) else none) else none
   | none=>none)
  | _,_,_,_=>none)
 | _,_=>none
noncomputable def plainOp (C:Cfg) (s:St) (ctx:List (Nat×Bool)) (o:Oper):Option Res :=
 let P:=C.P
 match o.op with
 | .move x=>match ev s ctx x with
  | some v=>some (.ok true v s.mem)
  | none=>none
 | .assign x=>match ev s ctx x with
  | some v=>some (.ok true v s.mem)
  | none=>none
 | .pick c a b=>match c with
  | .tmp t=>match ev1 s ctx (.tmp t),ev1 s ((t,true)::ctx) a,ev1 s ((t,false)::ctx) b with
   | some (.v (.bool cb)),some (.v (.bool x)),some (.v (.bool y)) =>
    (match a,b with
     | .const _,_=>(match x with
      | true=>some (.ok true (.val (.one (.v (.bool (cb||y))))) s.mem)
      | false=>some (.ok true (.val (.one (.v (.bool (bif cb then x else y))))) s.mem))
     | _,.const _=>(match y with
      | false=>some (.ok true (.val (.one (.v (.bool (cb&&x))))) s.mem)
      | true=>some (.ok true (.val (.one (.v (.bool (bif cb then x else y))))) s.mem))
     | _,_=>some (.ok true (.val (.one (.v (.bool (bif cb then x else y))))) s.mem))
   | _,_,_=>none
  | _=>none
 | .alloc T=>match zeroSV P T,P.underlying T with
  | some z,some (.array n e)=>match elemSh P e with
   | some τ=>match many τ n z.cells with
    | some xs=>some (.ok true (.val (.one (.ptr s.mem.length 0))) (s.mem++[.arr τ xs]))
    | none=>none
   | none=>none
  | some z,some _=>some (.ok true (.val (.one (.ptr s.mem.length 0))) (s.mem++[.raw z.cells]))
  | _,_=>none
 | .box T x=>match evV s ctx x,P.underlying T with
  | some v,some (.array n e)=>match elemSh P e with
   | some τ=>match many τ n v.cells with
    | some xs=>some (.ok true (.val (.one (.ptr s.mem.length 0))) (s.mem++[.arr τ xs]))
    | none=>none
   | none=>none
  | some v,some _=>some (.ok true (.val (.one (.ptr s.mem.length 0))) (s.mem++[.raw v.cells]))
  | _,_=>none
 | .build T parts=>match zeroSV P T,evParts s ctx parts.toList,P.underlying T with
  | some z,some ps,some (.struct fs)=>bif fs.toList.all (fun f=>(P.info? f.type).isSome) then
   (match svSplice (fun i=>match fs.toList[i]? with | some f=>some (f.offset,P.cellsOf f.type) | none=>none) ps z.cells with
    | some cs=>some (.ok true (.val (.agg cs)) s.mem)
    | none=>none)
   else none
  | some z,some ps,some (.array _ e)=>bif (P.info? e).isSome then
   (match svSplice (fun i=>some (i*P.cellsOf e,P.cellsOf e)) ps z.cells with
    | some cs=>some (.ok true (.val (.agg cs)) s.mem)
    | none=>none)
   else none
  | _,_,_=>none
 | .buildSlice T n parts=>match P.underlying T with
  | some (.slice e)=>match elemSh P e,zeroSV P e,evParts s ctx parts.toList with
   | some τ,some z,some ps =>
    (match svSplice (fun i=>some (i*P.cellsOf e,P.cellsOf e)) ps ((List.replicate n z.cells).flatten) with
     | some cs=>match freezeL s.mem cs with
      | (cs',mem')=>match many τ n cs' with
       | some xs=>bif Nat.ble (n*P.cellsOf e) 16777216&&Nat.blt 0 (P.cellsOf e)&&lenIs (P.cellsOf e) z.cells&&Nat.blt 0 n then some (.ok true (.val (.one (.sl τ xs))) mem') else none
       | none=>none
     | none=>none)
   | _,_,_=>none
  | _=>none
 | .load T x=>match ev1 s ctx x with
  | some a=>match cellsAt s.mem a,aggT P T with
   | some (cs,off),some true=>match takeN (P.cellsOf T) (dropN off cs) with
    | some l=>some (.ok true (.val (.agg l)) s.mem)
    | none=>none
   | some (cs,off),some false=>match dropN off cs with
    | c::_=>some (.ok true (.val (.one c)) s.mem)
    | []=>none
   | _,_=>none
  | none=>none
 | .store T x y=>match ev1 s ctx x,evV s ctx y with
  | some (.ptr b off),some v=>match blkAt s.mem b with
   | .raw cs=>bif lenIs (P.cellsOf T) v.cells&&allDef v.cells&&Nat.blt 0 (P.cellsOf T) then
     (match splice off v.cells cs with
      | some cs'=>some (.ok true .un (s.mem.set b (.raw cs')))
      | none=>none)
    else none
   | _=>none
  | some (.eptr b i off),some v=>match freezeSV s.mem v with
   | (v',mem')=>match blkAt mem' b with
    | .arr τ xs=>bif lenIs (P.cellsOf T) v'.cells&&allDef v'.cells&&Nat.blt 0 (P.cellsOf T) then
      (match splice off v'.cells (cellsOf τ (xs.getD i τ.dflt)) with
       | some cs'=>match parse τ cs' with
        | some (x',[])=>some (.ok true .un (mem'.set b (.arr τ (xs.set i x'))))
        | _=>none
       | none=>none)
     else none
    | _=>none
  | _,_=>none
 | .nilCheck x=>match ev s ctx x with
  | some (.val (.one (.ptr b off)))=>match blkAt s.mem b with
   | .raw _=>some (.ok true (.val (.one (.ptr b off))) s.mem)
   | _=>none
  | _=>none
 | .binOp op T x y _=>match evV s ctx x,evV s ctx y with
  | some (.one a),some (.one b)=>bif okBoolT P T a then
    (match binV op a b with
     | some (g,c)=>some (.ok g (.val (.one c)) s.mem)
     | none=>none)
   else none
  | some (.agg a),some (.agg b)=>match P.underlying T with
   | some (.struct fs)=>bif !(P.eqGuardType P.depth T)&&!(P.stoodInHeld T) then
     (match op,eqFlds P 0 fs.toList a b with
      | .eql,some r=>some (.ok true (.val (.one (.v (.bool r)))) s.mem)
      | .neq,some r=>some (.ok true (.val (.one (.v (.bool !r)))) s.mem)
      | _,_=>none)
    else none
   | _=>none
  | _,_=>none
 | .unOp op _ x=>match ev1 s ctx x with
  | some a=>match unV op a with
   | some c=>some (.ok true (.val (.one c)) s.mem)
   | none=>none
  | none=>none
 | .convert src dst x=>match P.underlying dst,ev1 s ctx x with
  | some (.int k),some (.v (.int _ n))=>match P.underlying src with
   | some _=>some (.ok true (.val (.one (.v (.int k (k.wrap n))))) s.mem)
   | none=>none
  | _,_=>none
 | .makeSlice T l c=>match P.underlying T,intArg s ctx l,intArg s ctx c with
  | some (.slice e),some n,some m=>match elemSh P e,zeroSV P e with
   | some τ,some z=>match parse τ z.cells with
    | some (d,[]) =>
     bif sameArg l c&&Nat.blt 0 (P.cellsOf e)&&Nat.blt 0 (P.bytesOf e) then
      some (.ok (decide (0≤n)&&decide (n*(P.bytesOf e:Int)≤maxRoom)) (.val (.one (.own s.mem.length))) (s.mem++[.arr τ (List.replicate n.toNat d)]))
     else bif Nat.blt 0 (P.cellsOf e)&&Nat.blt 0 (P.bytesOf e) then
      some (.ok (decide (0≤n)&&decide (n≤m)&&decide (m*(P.bytesOf e:Int)≤maxRoom)) (.val (.one (.own s.mem.length))) (s.mem++[.acc τ (List.replicate n.toNat d)]))
     else none
    | _=>none
   | _,_=>none
  | _,_,_=>none
 | .slice T x lo hi mx=>match subOp C s ctx T x lo hi mx with
  | some (g,c)=>some (.ok g (.val (.one c)) s.mem)
  | none=>match truncB C s ctx x lo mx with
  | some b=>(match P.underlying T with
   | some (.slice e)=>(match elemSh P e with
    | some τ=>(match rowAt s.mem τ b with
     | some xs=>(match (match hi with | none=>some (xs.length:Int) | some a=>intArg s ctx a) with
      | some h=>some (.ok (decide (0≤h)&&decide (h≤(xs.length:Int))) (.val (.one (.own s.mem.length))) (s.mem.set b .gone++[.arr τ (xs.take h.toNat)]))
      | none=>none)
     | none=>none)
    | none=>none)
   | _=>none)
  | none=>match mx,P.underlying T,ev1 s ctx x with
  | none,some (.slice e),some c=>match elemSh P e with
   | some τ=>match freeze1 s.mem c with
    | (c',mem')=>match asList mem' τ c' with
     | some xs =>
      (match (match lo with | none=>some (0:Int) | some a=>intArg s ctx a),(match hi with | none=>some (xs.length:Int) | some a=>intArg s ctx a) with
       | some l,some h=>some (.ok (decide (0≤l)&&decide (l≤h)&&decide (h≤(xs.length:Int))) (.val (.one (.sl τ ((xs.take h.toNat).drop l.toNat)))) mem')
       | _,_=>none)
     | none=>none
   | none=>none
  | _,_,_=>none
 | .fieldAddr T x i=>match ev1 s ctx x,fieldOff P T i with
  | some (.ptr b off),some (d,_)=>match blkAt s.mem b with
   | .raw _=>some (.ok true (.val (.one (.ptr b (off+d)))) s.mem)
   | _=>none
  | some (.eptr b j off),some (d,_)=>match blkAt s.mem b with
   | .arr _ _=>some (.ok true (.val (.one (.eptr b j (off+d)))) s.mem)
   | _=>none
  | some (.iptr τ y off),some (d,_)=>some (.ok true (.val (.one (.iptr τ y (off+d)))) s.mem)
  | _,_=>none
 | .field T x i=>match evV s ctx x,fieldOff P T i with
  | some (.agg cs),some (d,ft)=>match aggT P ft with
   | some true=>match takeN (P.cellsOf ft) (dropN d cs) with
    | some l=>some (.ok true (.val (.agg l)) s.mem)
    | none=>none
   | some false=>match dropN d cs with
    | c::_=>some (.ok true (.val (.one c)) s.mem)
    | []=>none
   | none=>none
  | _,_=>none
 | .indexAddr T x ix=>match P.underlying T,ev1 s ctx x,intArg s ctx ix with
  | some (.array n e),some (.gptr g),some i=>match C.glob g,elemSh P e with
   | some ⟨τ,xs⟩,some τ'=>if τ'=τ then
     bif Nat.beq xs.length n then some (.ok (sealN n (decide (0≤i)&&decide (i<(n:Int)))) (.val (.one (.iptr τ (xs.getD i.toNat τ.dflt) 0))) s.mem) else none
    else none
   | _,_=>none
  | some (.array n e),some (.ptr b 0),some i=>match blkAt s.mem b,elemSh P e with
   | .arr τ xs,some τ'=>if τ'=τ then
     some (.ok (decide (0≤i)&&decide (i<(n:Int))&&decide (i<(xs.length:Int))) (.val (.one (.eptr b i.toNat 0))) s.mem)
    else none
   | _,_=>none
  | some (.slice e),some c,some i=>match elemSh P e with
   | some τ=>match c with
    | .own b=>match blkAt s.mem b with
     | .arr τ' xs=>if τ'=τ then
       some (.ok (decide (0≤i)&&decide (i<(xs.length:Int))) (.val (.one (.eptr b i.toNat 0))) s.mem)
      else none
     | .acc τ' xs=>if τ'=τ then
       some (.ok (decide (0≤i)&&decide (i<(xs.length:Int))) (.val (.one (.iptr τ' (xs.getD i.toNat τ'.dflt) 0))) (s.mem.set b (.froz τ' xs)))
      else none
     | .froz τ' xs=>if τ'=τ then
       some (.ok (decide (0≤i)&&decide (i<(xs.length:Int))) (.val (.one (.iptr τ' (xs.getD i.toNat τ'.dflt) 0))) s.mem)
      else none
     | _=>none
    | .sl τ' xs=>if τ'=τ then
      some (.ok (decide (0≤i)&&decide (i<(xs.length:Int))) (.val (.one (.iptr τ' (xs.getD i.toNat τ'.dflt) 0))) s.mem)
     else none
    | .sub b lo n=>match blkAt s.mem b with
     | .arr τ' _=>if τ'=τ then
       some (.ok (decide (0≤i)&&decide (i<(n:Int))) (.val (.one (.eptr b (lo+i.toNat) 0))) s.mem)
      else none
     | _=>none
    | _=>none
   | none=>none
  | _,_,_=>none
 | .index T x ix=>match P.underlying T,ev1 s ctx x,intArg s ctx ix with
  | some .string,some (.v (.string str)),some i =>
   some (.ok (decide (0≤i)&&decide (i<(str.size:Int))) (.val (.one (.v (.int .u8 ((str.data.toList.getD i.toNat 0).toNat:Int))))) s.mem)
  | _,_,_=>none
 | .extract x i=>match ev s ctx x with
  | some (.tup l)=>match l[i]? with
   | some v=>some (.ok true (.val v) s.mem)
   | none=>none
  | _=>none
 | .makeFunc fn first captured=>match fn,first.toList,captured.toList with
  | .func f,[],caps=>match evVs s ctx caps with
   | some vs=>match ptrsOf s.mem vs with
    | some cl=>some (.ok true (.val (.one (.fn f cl))) s.mem)
    | none=>none
   | none=>none
  | _,_,_=>none
 | .call c=>match c.callee with
  | .builtin .len=>match c.args.toList,c.argTypes.toList with
   | [x],[T]=>match P.underlying T with
    | some (.array n _)=>bif Nat.blt n 9223372036854775808 then some (.ok true (.val (.one (.v (.int .i64 (n:Int))))) s.mem) else none
    | some (.slice _)=>match ev1 s ctx x with
     | some a=>match a with
      | .v (.string _)=>none
      | .sub b _ n=>(match blkAt s.mem b with
       | .arr _ _=>some (.ok true (.val (.one (.v (.int .i64 (n:Int))))) s.mem)
       | _=>none)
      | a=>match lenOf s.mem a with
       | some n=>some (.ok true (.val (.one (.v (.int .i64 (n:Int))))) s.mem)
       | none=>none
     | none=>none
    | some .string=>match ev1 s ctx x with
     | some (.v (.string str))=>some (.ok true (.val (.one (.v (.int .i64 (str.size:Int))))) s.mem)
     | _=>none
    | _=>none
   | _,_=>none
  | .builtin .min=>match c.args.toList with
   | [x,y]=>match ev1 s ctx x,ev1 s ctx y with
    | some (.v (.int k a)),some (.v (.int k' b))=>if k'=k then some (.ok true (.val (.one (.v (.int k (if b<a then b else a))))) s.mem) else none
    | _,_=>none
   | _=>none
  | .builtin .max=>match c.args.toList with
   | [x,y]=>match ev1 s ctx x,ev1 s ctx y with
    | some (.v (.int k a)),some (.v (.int k' b))=>if k'=k then some (.ok true (.val (.one (.v (.int k (if b>a then b else a))))) s.mem) else none
    | _,_=>none
   | _=>none
  | .builtin .append=>match c.args.toList,c.argTypes.toList with
   | [x,y],T::T2::_=>match P.underlying T,P.underlying T2,ev1 s ctx x,ev1 s ctx y with
    | some (.slice e),some (.slice _),some a,some yc=>match elemSh P e with
     | some τ=>match freeze1 s.mem yc with
      | (yc',mem')=>match asList mem' τ yc',a with
       | some ys,.v (.slice none 0 0) =>
        some (.ok (roomOk ys.length (P.bytesOf e)&&Nat.blt 0 (P.bytesOf e)&&zeroOk P e) (.val (.one (.own mem'.length))) (mem'++[.acc τ ys]))
       | some ys,.own b=>match blkAt mem' b with
        | .acc τ' xs=>match castL τ' τ xs with
         | some xs'=>some (.ok (roomOk (xs'.length+ys.length) (P.bytesOf e)&&Nat.blt 0 (P.bytesOf e)&&zeroOk P e) (.val (.one (.own b))) (mem'.set b (.acc τ (xs'++ys))))
         | none=>none
        | _=>none
       | _,_=>none
     | none=>none
    | _,_,_,_=>none
   | _,_=>none
  | .builtin .copy=>match c.args.toList,c.argTypes.toList with
   | [x,y],T::_=>match P.underlying T,ev1 s ctx x,ev1 s ctx y with
    | some (.slice e),some (.own b),some yc=>match elemSh P e with
     | some τ=>match freeze1 s.mem yc with
      | (yc',mem')=>match asList mem' τ yc',blkAt mem' b with
       | some ys,.arr τ' xs=>match castL τ' τ xs with
        | some xs'=>some (.ok true (.val (.one (.v (.int .i64 ((min ys.length xs'.length:Nat):Int))))) (mem'.set b (.arr τ (ys.take xs'.length++xs'.drop ys.length))))
        | none=>none
       | _,_=>none
     | none=>none
    | some (.slice e),some (.sub b lo n),some yc=>match elemSh P e with
     | some τ=>match freeze1 s.mem yc with
      | (yc',mem')=>match asList mem' τ yc',blkAt mem' b with
       | some ys,.arr τ' xs=>match castL τ' τ xs with
        | some xs'=>some (.ok true (.val (.one (.v (.int .i64 ((min ys.length n:Nat):Int))))) (mem'.set b (.arr τ (xs'.take lo++ys.take n++xs'.drop (lo+min ys.length n)))))
        | none=>none
       | _,_=>none
     | none=>none
    | _,_,_=>none
   | _,_=>none
  | .value fo=>match ev1 s ctx fo,evVs s ctx c.args.toList with
   | some (.fn f caps),some args =>
    (match (match caps,o.guard with | [],none=>C.lsum f s.mem args | _,_=>none) with
     | some L=>(match args with
      | z::rest=>(match frzS (preOne s.mem L.lend z) L.ins rest with
       | (rest',m1)=>(match takeS m1 L.ins rest' with
        | some (x,m2)=>(match lendOne m2 L.lend z with
         | some (b,xl,m3)=>bif freeM b m3 then (match giveS (backOne m3 b L.lend (L.F (xl,x)).1) L.outs (L.F (xl,x)).2 with
          | some (vs,m4)=>some (.ok (L.pre (xl,x)) (tvOf vs) m4)
          | none=>none) else none
         | none=>none)
        | none=>none))
      | []=>none)
     | none=>match (match caps with | []=>C.sum f s.mem args | _=>none) with
     | some S=>match frzS s.mem S.ins args with
      | (args',m1)=>match takeS m1 S.ins args' with
       | some (x,m2)=>match giveS m2 S.outs (S.F x) with
        | some (vs,mem')=>some (.ok (S.pre x) (tvOf vs) mem')
        | none=>none
       | none=>none
     | none=>bif allRaw s.mem caps then some (.inl f (args++caps.map fun p=>.one (.ptr p.1 p.2))) else none)
   | _,_=>none
  | _=>none
 | _=>none
def lazyOp:Op→Bool
 | .alloc _ | .box _ _ | .store _ _ _ | .makeSlice _ _ _=>false
 | .call c=>match c.callee with
  | .builtin .append | .builtin .copy=>false
  | _=>true
 | _=>true
def noTag (d:Nat):List (Nat×Nat×Bool×TV)→Bool
 | []=>true
 | (e,g,_,_)::r=>!(Nat.beq e d)&&!(Nat.beq g d)&&noTag d r
def putRes (s:St) (o:Oper) (x:TV) (mem:Mem):Option St :=
 match o.dst with
 | none=>some { s with mem:=mem }
 | some d=>bif noTag d s.cs&&Nat.blt d s.n then some { s with tm:=(d,x)::s.tm,mem:=mem } else none
def stripFor (o:Oper) (x:TV) (s:St) (mem:Mem):St×Mem :=
 match o.op with
 | .call c=>match c.callee with
  | .builtin .append=>match x with
   | .val (.one (.own b))=>({ s with tm:=s.tm.map fun p=>(p.1,dropOwnT b p.2),cs:=s.cs.map fun p=>(p.1,p.2.1,p.2.2.1,dropOwnT b p.2.2.2) },mem.map (dropOwnB b))
   | _=>(s,mem)
  | _=>(s,mem)
 | _=>(s,mem)
def gslot (ops:List Oper) (gi:Nat):Option Nat :=
 match ops[gi]? with
 | some o=>o.dst
 | none=>none
def still (op:Op) (mem mem':Mem):Bool :=
 match op with
 | .call c=>match c.callee with
  | .value _=>Nat.beq mem'.length mem.length
  | _=>true
 | .slice _ _ _ _ _=>Nat.beq mem'.length mem.length
 | _=>true
def mk1 (op:Op) (mem mem':Mem):Bool :=
 match op with
 | .call c=>match c.callee with
  | .value _=>Nat.beq mem'.length (mem.length+1)
  | _=>false
 | _=>false
inductive Step where
 | ok (g:Bool) (s:St)
 | inl (f:FuncId) (args:List SV)
noncomputable def step (C:Cfg) (ops:List Oper) (o:Oper) (s:St):Option Step :=
 match o.guard with
 | none=>match plainOp C s [] o with
  | some (.ok g x mem)=>match stripFor o x s mem with
   | (s',mem')=>match putRes s' o x mem' with
    | some s''=>some (.ok g s'')
    | none=>none
  | some (.inl f args)=>some (.inl f args)
  | none=>none
 | some (gi,p)=>match gslot ops gi,o.dst with
  | some t,some d=>bif lazyOp o.op&&noTag d s.cs&&!(Nat.beq d t)&&Nat.blt d s.n then
    (match cval s.tm s.cs t p,plainOp C s (ctxOf s.cs t p) o with
     | some c,some (.ok g x mem)=>bif still o.op s.mem mem then some (.ok (g||!c) { s with tm:=(d,.un)::s.tm,cs:=(d,t,p,x)::s.cs,mem:=mem }) else none
     | _,_=>none)
   else none
  | _,_=>none
def preds (o:Oper):List Nat:=(o.after.toList.filter fun e=>Region.binds .any e).map (·.on)
def ancs:List (List Nat)→List Oper→List (List Nat)
 | acc,[]=>acc
 | acc,o::r=>ancs (acc++[(preds o).flatMap fun i=>i::(acc[i]?).getD []]) r
def tmpsOf:List Operand→List Nat
 | []=>[]
 | .tmp t::r=>t::tmpsOf r
 | _::r=>tmpsOf r
def gchain (ops:List Oper):Nat→Option (Nat×Bool)→List Nat
 | 0,_=>[]
 | _+1,none=>[]
 | k+1,some (g,_)=>match ops[g]? with
  | some o=>match o.dst with
   | some t=>t::gchain ops k o.guard
   | none=>gchain ops k o.guard
  | none=>[]
def looks (ops:List Oper) (o:Oper):List Nat:=gchain ops 12 o.guard++tmpsOf o.op.operands.toList
def memKind:Op→Nat
 | .move _ | .assign _ | .pick _ _ _ | .binOp _ _ _ _ _ | .unOp _ _ _ | .convert _ _ _ | .extract _ _ | .build _ _ | .field _ _ _=>0
 | .load _ _ | .nilCheck _ | .makeFunc _ _ _ | .fieldAddr _ _ _ | .buildSlice _ _ _ | .indexAddr _ _ _ | .index _ _ _ | .slice _ _ _ _ _=>1
 | .store _ _ _ | .alloc _ | .box _ _=>2
 | .call c=>match c.callee with
  | .value _=>1
  | .builtin .len | .builtin .min | .builtin .max=>1
  | _=>3
 | _=>3
inductive FP where
 | pure
 | rd (o:Option Nat)
 | wr (o:Option Nat)
 | mk (b:Nat)
def fpApart:FP→FP→Bool
 | .pure,_=>true
 | _,.pure=>true
 | .rd _,.rd _=>true
 | .rd (some b),.wr (some c)=>!(Nat.beq b c)
 | .wr (some b),.rd (some c)=>!(Nat.beq b c)
 | .wr (some b),.wr (some c)=>!(Nat.beq b c)
 | .rd (some b),.mk c=>!(Nat.beq b c)
 | .mk b,.rd (some c)=>!(Nat.beq b c)
 | .wr (some b),.mk c=>!(Nat.beq b c)
 | .mk b,.wr (some c)=>!(Nat.beq b c)
 | _,_=>false
def memB (n:Nat):List Nat→Bool
 | []=>false
 | m::r=>Nat.beq m n||memB n r
def dstIn (o:Oper) (l:List Nat):Bool :=
 match o.dst with
 | some d=>memB d l
 | none=>false
def dstSame (x y:Oper):Bool :=
 match x.dst,y.dst with
 | some d,some e=>Nat.beq d e
 | _,_=>false
def okPair (ops:List Oper) (fps:List FP) (A:List (List Nat)) (i j:Nat) (x y:Oper):Bool :=
 !(dstSame x y)&&(memB i ((A[j]?).getD [])||(!(dstIn x (looks ops y))&&!(dstIn y (looks ops x))&&fpApart ((fps[i]?).getD (.wr none)) ((fps[j]?).getD (.wr none))))
def okRow (ops:List Oper) (fps:List FP) (A:List (List Nat)) (j:Nat) (y:Oper):Nat→List Oper→Bool
 | _,[]=>true
 | i,x::r=>(bif Nat.blt i j then okPair ops fps A i j x y&&okRow ops fps A j y (i+1) r else true)
def allLt (j:Nat):List Nat→Bool
 | []=>true
 | i::r=>Nat.blt i j&&allLt j r
def okRows (ops:List Oper) (fps:List FP) (A:List (List Nat)):Nat→List Oper→Bool
 | _,[]=>true
 | j,y::r=>allLt j (preds y)&&Nat.blt (memKind y.op) 3&&!(dstIn y (looks ops y))&&okRow ops fps A j y 0 ops&&(match y.guard with | some (g,_)=>Nat.blt g j | none=>true)&&okRows ops fps A (j+1) r
def okDraw (ops:List Oper) (fps:List FP):Bool:=okRows ops fps (ancs [] ops) 0 ops
def restr (ops:List Oper) (o:Oper) (s:St):St :=
 { s with tm:=(looks ops o).map fun t=>(t,getT s.tm t),cs:=s.cs.filter fun e=>memB e.1 (looks ops o) }
def notOwn:SC→Bool
 | .own _=>false
 | .sub _ _ _=>false
 | .ptr _ _=>false
 | _=>true
def notOwns:List SC→Bool
 | []=>true
 | c::r=>notOwn c&&notOwns r
def notOwnT:TV→Bool
 | .un=>true
 | .val x=>notOwns x.cells
 | .tup l=>l.all fun x=>notOwns x.cells
def noOwns (s:St) (ctx:List (Nat×Bool)):List Operand→Bool
 | []=>true
 | x::r=>(match ev s ctx x with | some v=>notOwnT v | none=>true)&&noOwns s ctx r
def calm (s:St) (ctx:List (Nat×Bool)) (op:Op):Bool :=
 match op with
 | .indexAddr _ x _=>match ev1 s ctx x with
  | some (.own b)=>match blkAt s.mem b with
   | .acc _ _=>false
   | _=>true
  | _=>true
 | .buildSlice _ _ _=>noOwns s ctx op.operands.toList
 | .slice _ x _ _ _=>noOwns s ctx [x]
 | .call c=>match c.callee with
  | .value _=>noOwns s ctx op.operands.toList
  | _=>true
 | _=>true
def blkOfC:SC→Option Nat
 | .ptr b _=>some b
 | .eptr b _ _=>some b
 | .own b=>some b
 | .sub b _ _=>some b
 | _=>none
def fpAddr (s:St) (ctx:List (Nat×Bool)) (x:Operand):FP :=
 match ev1 s ctx x with
 | some c=>match blkOfC c with
  | some b=>.rd (some b)
  | none=>.pure
 | none=>.pure
def fpOf (s:St) (ctx:List (Nat×Bool)) (op:Op):FP :=
 match op with
 | .load _ x=>fpAddr s ctx x
 | .nilCheck x=>fpAddr s ctx x
 | .fieldAddr _ x _=>fpAddr s ctx x
 | .indexAddr _ x _=>fpAddr s ctx x
 | .index _ _ _=>.pure
 | .buildSlice _ _ _=>.pure
 | .makeFunc _ _ _=>.rd none
 | .store _ x y=>match ev1 s ctx x,evV s ctx y with
  | some (.ptr b _),_=>.wr (some b)
  | some (.eptr b _ _),some v=>bif notOwns v.cells then .wr (some b) else .wr none
  | _,_=>.wr none
 | .alloc _=>.mk s.mem.length
 | .box _ _=>.mk s.mem.length
 | .call c=>match c.callee with
  | .value _=>.pure
  | .builtin .len=>match c.args.toList with
   | [x]=>fpAddr s ctx x
   | _=>.pure
  | _=>.pure
 | _=>.pure
def own1 (C:Cfg) (s:St) (ctx:List (Nat×Bool)) (op:Op):Option Nat :=
 match op with
 | .call c=>match c.callee with
  | .value fo=>match ev1 s ctx fo,evVs s ctx c.args.toList with
   | some (.fn f []),some (.one (.own b)::r)=>(match C.lsum f s.mem (.one (.own b)::r),C.sum f s.mem (.one (.own b)::r) with
    | none,some S=>(match S.ins with
     | (true,.slice _)::_=>bif r.all (fun z=>notOwns z.cells) then some b else none
     | _=>none)
    | _,_=>none)
   | _,_=>none
  | _=>none
 | _=>none
noncomputable def evalD (C:Cfg) (ops:List Oper) (o:Oper) (s0:St):Option (FP×Bool×TV×Mem) :=
 let s:=restr ops o s0
 match o.guard with
 | none=>bif calm s [] o.op||Nat.beq (memKind o.op) 2 then
   (match plainOp C s [] o with
    | some (.ok g x mem)=>bif still o.op s.mem mem then some (fpOf s [] o.op,g,x,mem) else (bif mk1 o.op s.mem mem then some (.mk s.mem.length,g,x,mem) else none)
    | _=>none)
  else (match own1 C s [] o.op with
   | some b=>(match plainOp C s [] o with
    | some (.ok g x mem)=>bif Nat.beq mem.length s.mem.length then some (.wr (some b),g,x,mem) else none
    | _=>none)
   | none=>none)
 | some (gi,p)=>match gslot ops gi,o.dst with
  | some t,some d=>bif lazyOp o.op&&!(Nat.beq d t)&&calm s (ctxOf s.cs t p) o.op then
    (match cval s.tm s.cs t p,plainOp C s (ctxOf s.cs t p) o with
     | some c,some (.ok g x mem)=>bif still o.op s.mem mem then some (fpOf s (ctxOf s.cs t p) o.op,g||!c,x,mem) else none
     | _,_=>none)
   else none
  | _,_=>none
def applyD (ops:List Oper) (o:Oper) (s:St) (x:TV) (mem:Mem):St :=
 match o.dst with
 | none=>{ s with mem:=mem }
 | some d=>match o.guard with
  | none=>{ s with tm:=(d,x)::s.tm,mem:=mem }
  | some (gi,p)=>match gslot ops gi with
   | some t=>{ s with tm:=(d,.un)::s.tm,cs:=(d,t,p,x)::s.cs,mem:=mem }
   | none=>{ s with mem:=mem }
noncomputable def drawRun (C:Cfg) (ops:List Oper):List Oper→St→Option (List FP×List Bool×St)
 | [],s=>some ([],[],s)
 | o::r,s=>match evalD C ops o s with
  | some (fp,g,x,mem)=>bif (match o.dst with | some d=>Nat.blt d s.n | none=>true) then
    (match drawRun C ops r (applyD ops o s x mem) with
     | some (fps,gs,s'')=>some (fp::fps,g::gs,s'')
     | none=>none)
   else none
  | none=>none
def chk {α:Type}:List Bool→Option α→Option α
 | [],x=>x
 | g::gs,x=>bif g then chk gs x else none
def dropAcc (mem:Mem):SC→SC
 | .own b=>match blkAt mem b with
  | .acc _ _=>.undef
  | _=>.own b
 | c=>c
def dropAccV (mem:Mem):SV→SV
 | .one c=>.one (dropAcc mem c)
 | .agg cs=>.agg (cs.map (dropAcc mem))
def dropAccT (mem:Mem):TV→TV
 | .un=>.un
 | .val x=>.val (dropAccV mem x)
 | .tup l=>.tup (l.map (dropAccV mem))
def dropAccs (s:St):St :=
 { s with tm:=s.tm.map (fun p=>(p.1,dropAccT s.mem p.2)),cs:=s.cs.map fun p=>(p.1,p.2.1,p.2.2.1,dropAccT s.mem p.2.2.2) }
section exec
variable {R:Type}
noncomputable def runOps (C:Cfg) (inl:FuncId→List SV→Mem→(List SV→Mem→Option R)→Option R) (ops:List Oper):List Oper→St→(St→Option R)→Option R
 | [],s,k=>k s
 | o::r,s,k=>match step C ops o s with
  | some (.ok g s')=>bif g then runOps C inl ops r s' k else none
  | some (.inl f args)=>match o.guard with
   | none=>inl f args s.mem fun rs mem=>match putRes (dropAccs s) o (tvOf rs) mem with
    | some s'=>runOps C inl ops r s' k
    | none=>none
   | some _=>none
  | none=>none
def accUp:List (Nat×Shape)→St→St
 | [],s=>s
 | (t,τ)::r,s=>match getT s.tm t with
  | .val (.one (.v (.slice none 0 0)))=>accUp r { s with tm:=(t,.val (.one (.own s.mem.length)))::s.tm,mem:=s.mem++[.acc τ []] }
  | _=>accUp r s
def findPat:List (Nat×Pat)→Nat→Option Pat
 | [],_=>none
 | (i,p)::r,k=>bif Nat.beq i k then some p else findPat r k
def outE (l:List (Nat×Pat)) (ke:Nat→St→Option R) (id:Nat) (s:St) (m:Nat:=0):Option R :=
 match findPat l id with
 | some p=>match readPat p s m with
  | some y=>ke id (buildPat p y m)
  | none=>none
 | none=>none
def outR (o:Option Pat) (kr:St→Option R) (s:St) (m:Nat:=0):Option R :=
 match o with
 | some p=>match readPat p s m with
  | some y=>kr (buildPat p y m)
  | none=>none
 | none=>none
def iter {α β:Type} (φ:(α→Option β)→α→Option β):Nat→α→Option β
 | 0,_=>none
 | n+1,x=>φ (iter φ n) x
def loopsOf:Code→List Code
 | .seq a b=>loopsOf a++loopsOf b
 | .cond _ a b=>loopsOf a++loopsOf b
 | .block _ a=>loopsOf a
 | .loop a=>a::loopsOf a
 | _=>[]
def keyOf:Code→Nat
 | .region id _ _=>id
 | .seq a _=>keyOf a
 | .cond _ a _=>keyOf a
 | .block _ a=>keyOf a
 | .loop a=>keyOf a
 | _=>0
def headLen:List Oper→Nat
 | []=>0
 | o::r=>bif Nat.blt (memKind o.op) 3 then headLen r+1 else 0
def noGuard (o:Oper):Bool:=match o.guard with
 | none=>true
 | some _=>false
def allIn (l:List Nat):Nat→Bool
 | 0=>true
 | n+1=>memB n l&&allIn l n
def tailRest:Nat→List Oper→Bool
 | _,[]=>true
 | i,o::r=>noGuard o&&memB i (preds o)&&allLt (i+1) (preds o)&&tailRest (i+1) r
def tailOk (H:List Oper) (n:Nat):List Oper→Bool
 | []=>true
 | o::r=>noGuard o&&allIn ((preds o).flatMap fun i=>i::((ancs [] H)[i]?).getD []) n&&allLt n (preds o)&&tailRest n r
def frzArg (s:St):Operand→St
 | .tmp t=>match getT s.tm t with
  | .val (.one (.own b))=>(match freeze1 s.mem (.own b) with
   | (c,m)=>{ s with tm:=(t,.val (.one c))::s.tm,mem:=m })
  | _=>s
 | _=>s
def frzOp (f:Bool) (s:St) (o:Oper):St :=
 match o.op with
 | .call c=>(match c.callee with
  | .value _=>c.args.toList.foldl frzArg s
  | _=>s)
 | .move x=>bif f then frzArg s x else s
 | .slice _ x _ _ _=>bif f then frzArg s x else s
 | _=>s
def lastCall:Nat→List Oper→Nat→Nat
 | _,[],k=>k
 | i,o::r,k=>lastCall (i+1) r (match o.op with
  | .call c=>(match c.callee with
   | .value _=>i
   | _=>k)
  | _=>k)
def headOld:List Oper→Nat
 | []=>0
 | o::r=>bif Nat.blt (memKind o.op) 3&&(match o.op with | .slice _ _ _ _ _=>false | _=>true) then headOld r+1 else 0
noncomputable def drawTry (C:Cfg) (ops:List Oper) (s:St) (n:Nat) (f:Bool):Bool :=
 match drawRun C (ops.take n) (ops.take n) ((ops.take n).foldl (frzOp f) { s with cs:=[] }) with
 | some (fps,_,_)=>okDraw (ops.take n) fps&&tailOk (ops.take n) n (ops.drop n)
 | none=>false
noncomputable def drawPick (C:Cfg) (ops:List Oper) (s:St):List (Nat×Bool)→Nat×Bool
 | []=>(0,false)
 | (n,f)::r=>bif Nat.ble n ops.length&&drawTry C ops s n f then (n,f) else drawPick C ops s r
noncomputable def drawN (C:Cfg) (ops:List Oper) (s:St):Nat×Bool :=
 drawPick C ops s [(headOld ops,false),(headLen ops,false),(headLen ops,true),(lastCall 0 ops 0,false),(lastCall 0 ops 0,true)]
def isAlloc (o:Oper):Bool:=match o.op with
 | .alloc _=>noGuard o
 | _=>false
def allocAt:List Oper→Nat
 | []=>0
 | o::r=>bif isAlloc o then 0 else allocAt r+1
def allocRun:List Oper→Nat
 | []=>0
 | o::r=>bif isAlloc o then allocRun r+1 else 0
def dstsOf:List Oper→List Nat
 | []=>[]
 | o::r=>match o.dst with
  | some d=>d::dstsOf r
  | none=>dstsOf r
def nodupB:List Nat→Bool
 | []=>true
 | d::r=>!(memB d r)&&nodupB r
def allocsOk:List Oper→Bool
 | []=>true
 | o::r=>isAlloc o&&(match preds o with | []=>true | _=>false)&&(match o.dst with | some _=>true | none=>false)&&allocsOk r
def clearT (ds:List Nat) (s:St):St:={ s with tm:=ds.map (fun d=>(d,.un))++s.tm }
def allocSym (P:Program):List Oper→St→Option St
 | [],s=>some s
 | o::r,s=>match o.op,o.dst with
  | .alloc T,some d=>bif Nat.blt d s.n then
    (match zeroSV P T with
     | some z=>allocSym P r { s with tm:=(d,.val (.one (.ptr s.mem.length 0)))::s.tm,mem:=s.mem++[.raw z.cells] }
     | none=>none)
   else none
  | _,_=>none
noncomputable def drawNew (C:Cfg) (inl:FuncId→List SV→Mem→(List SV→Mem→Option R)→Option R) (ops:List Oper) (n k:Nat) (s:St) (kn:St→Option R):Option R :=
 bif Nat.blt 1 k&&Nat.ble (n+k) ops.length&&allocsOk ((ops.drop n).take k)&&nodupB (dstsOf (ops.take (n+k))) then
  (match drawRun C (ops.take n) (ops.take n) ((ops.take n).foldl (frzOp false) (clearT (dstsOf ((ops.drop n).take k)) { s with cs:=[] })) with
   | some (fps,gs,s')=>bif okDraw (ops.take n) fps&&tailOk (ops.take n) (n+k) (ops.drop (n+k)) then
     chk gs (match allocSym C.P ((ops.drop n).take k) { s' with cs:=[] } with
      | some s2=>runOps C inl ops (ops.drop (n+k)) s2 fun s''=>kn { s'' with cs:=[] }
      | none=>none) else none
   | none=>none)
 else none
noncomputable def exec (C:Cfg) (inl:FuncId→List SV→Mem→(List SV→Mem→Option R)→Option R) (lp:Bool) (fid:FuncId) :
  Code→St→(St→Option R)→(Nat→St→Option R)→(St→Option R)→Option R
 | .skip,s,kn,_,_=>kn s
 | .region _ ops false,s,kn,_,_=>runOps C inl ops.toList ops.toList { s with cs:=[] } fun s'=>kn { s' with cs:=[] }
 | .region _ ops true,s,kn,_,_=>match drawN C ops.toList s with
  | (n,f)=>match drawRun C (ops.toList.take n) (ops.toList.take n) ((ops.toList.take n).foldl (frzOp f) { s with cs:=[] }) with
   | some (fps,gs,s')=>bif Nat.ble n ops.toList.length&&(okDraw (ops.toList.take n) fps&&tailOk (ops.toList.take n) n (ops.toList.drop n)) then
     chk gs (runOps C inl ops.toList (ops.toList.drop n) { s' with cs:=[] } fun s''=>kn { s'' with cs:=[] }) else drawNew C inl ops.toList (allocAt ops.toList) (allocRun (ops.toList.drop (allocAt ops.toList))) s kn
   | none=>drawNew C inl ops.toList (allocAt ops.toList) (allocRun (ops.toList.drop (allocAt ops.toList))) s kn
 | .seq a b,s,kn,ke,kr=>exec C inl lp fid a s (fun s'=>exec C inl lp fid b s' kn ke kr) ke kr
 | .cond c a b,s,kn,ke,kr=>match ev1 s [] c with
  | some (.v (.bool t))=>bif t then exec C inl lp fid a s kn ke kr else exec C inl lp fid b s kn ke kr
  | _=>none
 | .block id a,s,kn,ke,kr=>exec C inl lp fid a s kn (fun i s'=>bif Nat.beq i id then kn s' else ke i s') kr
 | .loop a,s,_,ke,kr=>match C.loop fid (keyOf a) with
  | none=>iter (fun L s'=>exec C inl lp fid a { s' with cs:=[] } L ke kr) C.unroll s
  | some sp=>bif lp then
    (match readPat sp.pat (accUp sp.accs { s with cs:=[] }) sp.m0 with
     | some x=>sp.run x ke kr
     | none=>none)
   else none
 | .exit id,s,_,ke,_=>ke id s
 | .ret,s,_,_,kr=>kr s
 | _,_,_,_,_=>none
def readRes (P:Program) (s:St):List ResultVar→Option (List SV)
 | []=>some []
 | .tmp t::r=>match getT s.tm t,readRes P s r with
  | .val x,some l=>some (x::l)
  | _,_=>none
 | .cell a T::r=>match getT s.tm a,readRes P s r with
  | .val (.one c),some l=>match cellsAt s.mem c,aggT P T with
   | some (cs,off),some true=>match takeN (P.cellsOf T) (dropN off cs) with
    | some x=>some (.agg x::l)
    | none=>none
   | some (cs,off),some false=>match dropN off cs with
    | x::_=>some (.one x::l)
    | []=>none
   | _,_=>none
  | _,_=>none
def argT:Nat→List SV→List (Nat×TV)
 | _,[]=>[]
 | n,x::r=>(n,.val x)::argT (n+1) r
def fin (P:Program) (fn:Func) (k:List SV→Mem→Option R) (s:St):Option R :=
 match readRes P s fn.results.toList with
 | some rs=>k rs s.mem
 | none=>none
noncomputable def bodyRun (C:Cfg) (inl:FuncId→List SV→Mem→(List SV→Mem→Option R)→Option R) (lp:Bool) (f:FuncId) (fn:Func) (m0:Nat) (args:List SV) (mem:Mem) (k:List SV→Mem→Option R):Option R :=
 match fn.body with
 | some c => bif Nat.ble args.length fn.ntmps && !(fn.name == "runtime.NumGoroutine") then exec C inl lp f c { n := fn.ntmps, m0 := m0, tm := argT 0 args, mem := mem, cs := [] } (fin C.P fn k) (fun _ _ => none) (fin C.P fn k) else none
 | none=>none
noncomputable def inlRun (C:Cfg):Nat→FuncId→List SV→Mem→(List SV→Mem→Option R)→Option R
 | 0,_,_,_,_=>none
 | d+1,f,args,mem,k=>match C.P.funcs[f]? with
  | some fn=>bif Nat.beq fn.params.size args.length then bodyRun C (inlRun C d) (Nat.ble 2 d) f fn mem.length args mem k else none
  | none=>none
end exec
noncomputable def lBody (C:Cfg) (d:Nat) (fid:FuncId) (body:Code) (sp:LoopSpec) {R:Type} (ke:Nat→St→Option R) (kr:St→Option R) (L:sp.pat.D→Option R) (x:sp.pat.D):Option R :=
 exec C (inlRun C d) true fid body (buildPat sp.pat x sp.m0) (fun s'=>match readPat sp.pat (accUp sp.accs { s' with cs:=[] }) sp.m0 with
  | some y=>L y
  | none=>none) (fun id s=>outE sp.exits ke id s sp.m0) (fun s=>outR sp.ret kr s sp.m0)
noncomputable def run (C:Cfg) (d:Nat) (f:FuncId) (fn:Func) (S T:Sig) (x:DenS S):Option (DenS T) :=
 match giveS [] S x with
 | some (args,m0)=>bodyRun C (inlRun C d) (Nat.ble 2 d) f fn 0 args m0 fun rs mem=>match frzS mem T rs with
  | (rs',m1)=>match takeS m1 T rs' with
   | some (y,_)=>some y
   | none=>none
 | none=>none
def giveL:(k:LK)→k.D→SV×Mem
 | .win e,x=>(.one (.sub 0 x.2.1 x.2.2),[.arr e x.1])
 | .ref τ,x=>(.one (.ptr 0 0),[.raw (cellsOf τ x)])
def doneL (mem:Mem):(k:LK)→Option k.B
 | .win e=>match blkAt mem 0 with
  | .arr τ xs=>castL τ e xs
  | _=>none
 | .ref τ=>match blkAt mem 0 with
  | .raw cs=>(match parse τ cs with
   | some (x,[])=>some x
   | _=>none)
  | _=>none
noncomputable def runL (C:Cfg) (d:Nat) (f:FuncId) (fn:Func) (k:LK) (S T:Sig) (x:k.D×DenS S):Option (k.B×DenS T) :=
 match giveL k x.1 with
 | (z,m)=>match giveS m S x.2 with
  | some (args,m0)=>bodyRun C (inlRun C d) (Nat.ble 2 d) f fn 1 (z::args) m0 fun rs mem=>match frzS (preOne mem k (.one (.ptr 0 0))) T rs with
   | (rs',m1)=>match takeS m1 T rs' with
    | some (y,m2)=>(match doneL m2 k with
     | some b=>some (b,y)
     | none=>none)
    | none=>none
  | none=>none
end Vx
namespace Vx
open Go Go.RowKit
theorem cond_some {α:Type} {c:Bool} {x:Option α} {y:α} (h:(bif c then x else none)=some y):c=true∧x=some y:=by
 cases c with
 | true=>exact ⟨rfl,h⟩
 | false=>cases h
theorem ite_some {α:Type} {c:Prop} [Decidable c] {x:Option α} {y:α} (h:(if c then x else none)=some y):x=some y:=by
 split at h
 ·exact h
 ·cases h
theorem res_mem {g g':Bool} {x x':TV} {m m':Mem} (h:some (Res.ok g x m)=some (Res.ok g' x' m')):m'=m:=by
 cases h; rfl
def lim:Nat:=9223372036854775808
def scalar:Value→Prop
 | .agg _=>False
 | .tuple _=>False
 | _=>True
def fbits:FloatKind→Nat
 | .f32=>32
 | .f64=>64
def FRep (k:FloatKind) (o:Option Nat) (y:Value):Prop :=
 ∃ b,y=.float k b∧b<2^fbits k∧(match o with
   | some b'=>b=b'
   | none=>(k.format.read b).isNaN=true)
def DRep (w:World) (S:Nat→Prop):(τ:Shape)→Den τ→List Value→Prop
 | .int k,n,cs=>cs=[.int k n]∧k.min≤n∧n≤k.max
 | .flt k,o,cs=>∃ y,cs=[y]∧FRep k o y
 | .bool,b,cs=>cs=[.bool b]
 | .str,s,cs=>cs=[.string s]∧s.size<lim
 | .fn,o,cs=>cs=[match o with | none=>.nilFunc | some f=>.func (.func f) #[] #[]]
 | .unit,_,cs=>cs=[]
 | .slice e,xs,cs=>∃ A c,cs=[.slice A xs.length c]∧xs.length≤c∧c<lim ∧
   (xs≠[]→∃ r o vs T fz,A=some ⟨r,o,none⟩∧S r∧w.heap[r]? = some (.cells vs T fz) ∧
    ∀ i x,xs[i]? = some x→∃ ds,DRep w S e x ds∧∀ j d,ds[j]? = some d→vs[o+i*e.width+j]? = some d)
 | .pair a b,x,cs=>∃ c1 c2,cs=c1++c2∧DRep w S a x.1 c1∧DRep w S b x.2 c2
theorem DRep.len {w:World} {S:Nat→Prop}:∀ {τ:Shape} {x:Den τ} {cs:List Value},DRep w S τ x cs→cs.length=τ.width
 | .int _,_,_,h=>by rw [h.1]; rfl
 | .flt _,_,_,⟨_,h,_⟩=>by rw [h]; rfl
 | .bool,_,_,h=>by rw [show _=_ from h]; rfl
 | .str,_,_,h=>by rw [h.1]; rfl
 | .fn,_,_,h=>by rw [show _=_ from h]; rfl
 | .unit,_,_,h=>by rw [show _=_ from h]; rfl
 | .slice _,_,_,⟨A,c,h,_⟩=>by rw [h]; rfl
 | .pair a b,_,_,⟨c1,c2,h,h1,h2⟩=>by rw [h,List.length_append,h1.len,h2.len]; rfl
theorem DRep.mono {w w':World} {S S':Nat→Prop} (hS:∀ r,S r→S' r) (hH:∀ r,S r→w'.heap[r]? = w.heap[r]?) :
  ∀ {τ:Shape} {x:Den τ} {cs:List Value},DRep w S τ x cs→DRep w' S' τ x cs
 | .int _,_,_,h=>h
 | .flt _,_,_,h=>h
 | .bool,_,_,h=>h
 | .str,_,_,h=>h
 | .fn,_,_,h=>h
 | .unit,_,_,h=>h
 | .slice _,_,_,⟨A,c,h,h1,h2,h3⟩=>⟨A,c,h,h1,h2,fun hx=>by
   obtain ⟨r,o,vs,T,fz,e1,e2,e3,e4⟩:=h3 hx
   refine ⟨r,o,vs,T,fz,e1,hS r e2,(hH r e2).trans e3,fun i x hi=>?_⟩
   obtain ⟨ds,d1,d2⟩:=e4 i x hi
   exact ⟨ds,d1.mono hS hH,d2⟩⟩
 | .pair _ _,_,_,⟨c1,c2,h,h1,h2⟩=>⟨c1,c2,h,h1.mono hS hH,h2.mono hS hH⟩
theorem DRep.scalar {w:World} {S:Nat→Prop}:∀ {τ:Shape} {x:Den τ} {cs:List Value},DRep w S τ x cs→∀ v∈cs,scalar v
 | .int _,_,_,h=>by rw [h.1]; simp [Vx.scalar]
 | .flt _,_,_,⟨_,h,b,h1,_⟩=>by rw [h,h1]; simp [Vx.scalar]
 | .bool,_,_,h=>by rw [show _=_ from h]; simp [Vx.scalar]
 | .str,_,_,h=>by rw [h.1]; simp [Vx.scalar]
 | .fn,o,_,h=>by rw [show _=_ from h]; cases o <;> simp [Vx.scalar]
 | .unit,_,_,h=>by rw [show _=_ from h]; simp
 | .slice _,_,_,⟨A,c,h,_⟩=>by rw [h]; simp [Vx.scalar]
 | .pair a b,_,_,⟨c1,c2,h,h1,h2⟩=>by
  rw [h]; intro v hv
  rcases List.mem_append.1 hv with hv | hv
  ·exact h1.scalar v hv
  ·exact h2.scalar v hv
structure Env where
 β:Nat→Option Nat
 κ:Nat→Nat
structure Sit where
 E:Env
 mem:Mem
 w:World
 S:Nat→Prop
def wfV:Value→Prop
 | .int k n=>k.min≤n∧n≤k.max
 | .string s=>s.size<lim
 | .bool _=>True
 | .pointer none=>True
 | .slice none 0 0=>True
 | .nilFunc=>True
 | .nilIface=>True
 | _=>False
def RepC (σ:Sit):SC→Value→Prop
 | .undef,y=>scalar y
 | .v x,y=>y=x∧wfV x
 | .fl k o,y=>FRep k o y
 | .sl τ xs,y=>DRep σ.w σ.S (.slice τ) xs [y]
 | .own b,y=>b<σ.mem.length∧scalar y∧match blkAt σ.mem b with
   | .arr _ xs=>y=.slice ((σ.E.β b).map fun r=>⟨r,0,none⟩) xs.length (σ.E.κ b)
   | .acc _ xs=>y=.slice ((σ.E.β b).map fun r=>⟨r,0,none⟩) xs.length (σ.E.κ b)
   | .froz τ xs=>DRep σ.w σ.S (.slice τ) xs [y]
   | _=>True
 | .ptr b off,y=>b<σ.mem.length∧scalar y∧match blkAt σ.mem b with
   | .gone=>True
   | .froz _ _=>True
   | .acc _ _=>True
   | _=>∃ r,σ.E.β b=some r∧y=.pointer (some ⟨r,off,none⟩)
 | .eptr b i off,y=>b<σ.mem.length∧scalar y∧match blkAt σ.mem b with
   | .arr τ xs=>i<xs.length∧∃ r,σ.E.β b=some r∧y=.pointer (some ⟨r,i*τ.width+off,none⟩)
   | _=>True
 | .sub b lo n,y=>b<σ.mem.length∧scalar y∧match blkAt σ.mem b with
   | .arr τ xs=>lo+n≤xs.length∧∃ A c,y=.slice A n c∧n≤c∧c<lim∧(0<n→∃ r,σ.E.β b=some r∧A=some ⟨r,lo*τ.width,none⟩)
   | _=>True
 | .iptr τ x off,y=>∃ r o vs T fz ds,y=.pointer (some ⟨r,o+off,none⟩)∧σ.S r∧σ.w.heap[r]? = some (.cells vs T fz) ∧
   DRep σ.w σ.S τ x ds∧∀ j d,ds[j]? = some d→vs[o+j]? = some d
 | .gptr g,y=>y=.pointer (some ⟨g,0,none⟩)
 | .fnv o,y=>DRep σ.w σ.S .fn o [y]
 | .fn f caps,y=>(∀ p∈caps,p.1<σ.mem.length)∧scalar y∧((∃ p∈caps,match blkAt σ.mem p.1 with | .raw _=>False | _=>True) ∨
   ∃ rs:List Nat,caps.map (fun p=>σ.E.β p.1)=rs.map some∧y=.func (.func f) #[] ((caps.zip rs).map fun q=>Value.pointer (some ⟨q.2,q.1.2,none⟩)).toArray)
theorem RepC.scalar {σ:Sit} {c:SC} {y:Value} (h:RepC σ c y):scalar y:=by
 cases c with
 | undef=>exact h
 | v x=>obtain ⟨rfl,h⟩:=h; cases y <;> simp_all [wfV,Vx.scalar]
 | fl k o=>obtain ⟨b,rfl,_⟩:=h; trivial
 | sl τ xs=>exact DRep.scalar h _ (by simp)
 | own b=>exact h.2.1
 | ptr b off=>exact h.2.1
 | eptr b i off=>exact h.2.1
 | sub b lo n=>exact h.2.1
 | iptr τ x off=>obtain ⟨_,_,_,_,_,_,rfl,_⟩:=h; trivial
 | gptr g=>rw [show _=_ from h]; trivial
 | fnv o=>exact DRep.scalar h _ (by simp)
 | fn f caps=>exact h.2.1
inductive All2 {α β:Type} (R:α→β→Prop):List α→List β→Prop
 | nil:All2 R [] []
 | cons {a b as bs}:R a b→All2 R as bs→All2 R (a::as) (b::bs)
theorem All2.length {α β:Type} {R:α→β→Prop}:∀ {as:List α} {bs:List β},All2 R as bs→as.length=bs.length
 | _,_,.nil=>rfl
 | _,_,.cons _ h=>by simp [h.length]
theorem All2.mono {α β:Type} {R R':α→β→Prop} (hR:∀ a b,R a b→R' a b):∀ {as:List α} {bs:List β},All2 R as bs→All2 R' as bs
 | _,_,.nil=>.nil
 | _,_,.cons h t=>.cons (hR _ _ h) (t.mono hR)
theorem All2.mapL {α α' β:Type} {R:α→β→Prop} {R':α'→β→Prop} (f:α→α') (hR:∀ a b,R a b→R' (f a) b):∀ {as:List α} {bs:List β},All2 R as bs→All2 R' (as.map f) bs
 | _,_,.nil=>.nil
 | _,_,.cons h t=>.cons (hR _ _ h) (t.mapL f hR)
theorem All2.append {α β:Type} {R:α→β→Prop}:∀ {as:List α} {bs:List β} {as':List α} {bs':List β},All2 R as bs→All2 R as' bs'→All2 R (as++as') (bs++bs')
 | _,_,_,_,.nil,h=>h
 | _,_,_,_,.cons h t,h'=>.cons h (t.append h')
theorem All2.get {α β:Type} {R:α→β→Prop}:∀ {as:List α} {bs:List β},All2 R as bs→∀ {i:Nat} {a:α},as[i]? = some a→∃ b,bs[i]? = some b∧R a b
 | _,_,.nil,i,a,h=>by simp at h
 | _,_,.cons h t,0,a,e=>by simp at e; subst e; exact ⟨_,rfl,h⟩
 | _,_,.cons h t,i+1,a,e=>by simp at e; simpa using t.get e
theorem All2.split {α β:Type} {R:α→β→Prop}:∀ {as as':List α} {bs:List β},All2 R (as++as') bs→∃ b1 b2,bs=b1++b2∧All2 R as b1∧All2 R as' b2
 | [],_,bs,h=>⟨[],bs,rfl,.nil,h⟩
 | _::as,as',_,.cons h t=>by
  obtain ⟨b1,b2,rfl,h1,h2⟩:=All2.split (as:=as) t
  exact ⟨_::b1,b2,rfl,.cons h h1,h2⟩
theorem All2.of_get {α β:Type} {R:α→β→Prop}:∀ {as:List α} {bs:List β},as.length=bs.length→(∀ (i:Nat) (a:α),as[i]? = some a→∃ b,bs[i]? = some b∧R a b)→All2 R as bs
 | [],[],_,_=>.nil
 | [],_::_,h,_=>by simp at h
 | _::_,[],h,_=>by simp at h
 | a::as,b::bs,h,hg=>by
  obtain ⟨b',hb,hr⟩:=hg 0 a rfl
  simp at hb; subst hb
  exact .cons hr (All2.of_get (by simpa using h) fun i x hx=>by simpa using hg (i+1) x (by simpa using hx))
def RepV (σ:Sit):SV→Value→Prop
 | .one c,y=>RepC σ c y
 | .agg cs,y=>∃ ys:List Value,y=.agg ys.toArray∧All2 (RepC σ) cs ys
def RepT (σ:Sit):TV→Value→Prop
 | .un,_=>True
 | .val x,y=>RepV σ x y
 | .tup xs,y=>xs.length≠1∧∃ ys:List Value,y=.tuple ys.toArray∧All2 (RepV σ) xs ys
def Turns (σ σ':Sit) (b:Nat):Prop :=
 match blkAt σ.mem b with
 | .gone=>blkAt σ'.mem b=.gone
 | .raw _=>(σ'.E.β b=σ.E.β b∧∃ cs,blkAt σ'.mem b=.raw cs)∨blkAt σ'.mem b=.gone
 | .arr τ xs=>(σ'.E.β b=σ.E.β b∧σ'.E.κ b=σ.E.κ b∧∃ xs':List (Den τ),blkAt σ'.mem b=.arr τ xs'∧xs'.length=xs.length) ∨
   (∃ xs':List (Den τ),blkAt σ'.mem b=.froz τ xs'∧DRep σ'.w σ'.S (.slice τ) xs' [.slice ((σ.E.β b).map fun r=>⟨r,0,none⟩) xs.length (σ.E.κ b)])∨blkAt σ'.mem b=.gone
 | .acc τ xs=>(σ'.E.β b=σ.E.β b∧σ'.E.κ b=σ.E.κ b∧blkAt σ'.mem b=.acc τ xs) ∨
   (blkAt σ'.mem b=.froz τ xs∧DRep σ'.w σ'.S (.slice τ) xs [.slice ((σ.E.β b).map fun r=>⟨r,0,none⟩) xs.length (σ.E.κ b)])∨blkAt σ'.mem b=.gone
 | .froz τ xs=>blkAt σ'.mem b=.froz τ xs
structure Goes (σ σ':Sit):Prop where
 stab:∀ r,σ.S r→σ'.S r
 heap:∀ r,σ.S r→σ'.w.heap[r]? = σ.w.heap[r]?
 len:σ.mem.length≤σ'.mem.length
 turns:∀ b,b<σ.mem.length→Turns σ σ' b
theorem repC_move {σ σ':Sit} (stab:∀ r,σ.S r→σ'.S r) (heap:∀ r,σ.S r→σ'.w.heap[r]? = σ.w.heap[r]?) (len:σ.mem.length≤σ'.mem.length) (B:Nat→Prop)
  (turns:∀ b,b<σ.mem.length→Turns σ σ' b∨(B b∧∃ τ xs τ' xs',blkAt σ.mem b=.acc τ xs∧blkAt σ'.mem b=.acc τ' xs')) {c:SC} {y:Value} (hc:RepC σ c y) (hB:∀ b,c=.own b→¬ B b):RepC σ' c y:=by
 cases c with
 | undef=>exact hc
 | v x=>exact hc
 | fl k o=>exact hc
 | sl τ xs=>exact DRep.mono stab heap hc
 | own b =>
  obtain ⟨hb,hs,hm⟩:=hc
  refine ⟨Nat.lt_of_lt_of_le hb len,hs,?_⟩
  have ht:=(turns b hb).resolve_right fun h=>hB b rfl h.1
  unfold Turns at ht
  split at hm
  ·rename_i τ xs e
   rw [e] at ht
   subst hm
   rcases ht with ⟨h1,h2,xs',h3,h4⟩ | ⟨xs',h1,h2⟩ | h1
   ·rw [h3]; simp only [h1,h2,h4]
   ·rw [h1]; exact h2
   ·rw [h1]; trivial
  ·rename_i τ xs e
   rw [e] at ht
   subst hm
   rcases ht with ⟨h1,h2,h3⟩ | ⟨h1,h2⟩ | h1
   ·rw [h3]; simp only [h1,h2]
   ·rw [h1]; exact h2
   ·rw [h1]; trivial
  ·rename_i τ xs e
   rw [e] at ht
   simp only at ht
   rw [ht]
   exact DRep.mono stab heap hm
  ·rename_i e1 e2 e3
   cases e:blkAt σ.mem b with
   | gone=>rw [e] at ht; simp only at ht; rw [ht]; trivial
   | raw cs=>rw [e] at ht; simp only at ht; rcases ht with ⟨_,cs',h2⟩ | h2 <;> (rw [h2]; trivial)
   | arr τ xs=>exact absurd e (e1 τ xs)
   | acc τ xs=>exact absurd e (e2 τ xs)
   | froz τ xs=>exact absurd e (e3 τ xs)
 | ptr b off =>
  obtain ⟨hb,hs,hm⟩:=hc
  refine ⟨Nat.lt_of_lt_of_le hb len,hs,?_⟩
  rcases turns b hb with ht | ⟨_,_,_,_,_,_,e2⟩
  case inr=>rw [e2]; trivial
  unfold Turns at ht
  cases e:blkAt σ.mem b with
  | gone=>rw [e] at ht; simp only at ht; rw [ht]; trivial
  | raw cs =>
   rw [e] at ht hm; simp only at ht hm
   rcases ht with ⟨h1,cs',h2⟩ | h2
   ·rw [h2]; obtain ⟨r,hr,e⟩:=hm; exact ⟨r,h1.trans hr,e⟩
   ·rw [h2]; trivial
  | arr τ xs =>
   rw [e] at ht hm; simp only at ht hm
   rcases ht with ⟨h1,_,xs',h2,h3⟩ | ⟨_,h1,h2⟩ | h1
   ·rw [h2]; obtain ⟨r,hr,e⟩:=hm; exact ⟨r,h1.trans hr,e⟩
   ·rw [h1]; trivial
   ·rw [h1]; trivial
  | acc τ xs =>
   rw [e] at ht hm; simp only at ht hm
   rcases ht with ⟨h1,h2,h3⟩ | ⟨h1,h2⟩ | h1
   ·rw [h3]; trivial
   ·rw [h1]; trivial
   ·rw [h1]; trivial
  | froz τ xs=>rw [e] at ht; simp only at ht; rw [ht]; trivial
 | eptr b i off =>
  obtain ⟨hb,hs,hm⟩:=hc
  refine ⟨Nat.lt_of_lt_of_le hb len,hs,?_⟩
  rcases turns b hb with ht | ⟨_,_,_,_,_,_,e2⟩
  case inr=>rw [e2]; trivial
  unfold Turns at ht
  cases e:blkAt σ.mem b with
  | gone=>rw [e] at ht; simp only at ht; rw [ht]; trivial
  | raw cs=>rw [e] at ht; simp only at ht; rcases ht with ⟨_,cs',h2⟩ | h2 <;> (rw [h2]; trivial)
  | arr τ xs =>
   rw [e] at ht hm; simp only at ht hm
   rcases ht with ⟨h1,_,xs',h2,h3⟩ | ⟨_,h1,h2⟩ | h1
   ·rw [h2]; obtain ⟨hi,r,hr,e⟩:=hm; exact ⟨by omega,r,h1.trans hr,e⟩
   ·rw [h1]; trivial
   ·rw [h1]; trivial
  | acc τ xs =>
   rw [e] at ht; simp only at ht
   rcases ht with ⟨h1,h2,h3⟩ | ⟨h1,h2⟩ | h1
   ·rw [h3]; trivial
   ·rw [h1]; trivial
   ·rw [h1]; trivial
  | froz τ xs=>rw [e] at ht; simp only at ht; rw [ht]; trivial
 | sub b lo n =>
  obtain ⟨hb,hs,hm⟩:=hc
  refine ⟨Nat.lt_of_lt_of_le hb len,hs,?_⟩
  rcases turns b hb with ht | ⟨_,_,_,_,_,_,e2⟩
  case inr=>rw [e2]; trivial
  unfold Turns at ht
  cases e:blkAt σ.mem b with
  | gone=>rw [e] at ht; simp only at ht; rw [ht]; trivial
  | raw cs=>rw [e] at ht; simp only at ht; rcases ht with ⟨_,cs',h2⟩ | h2 <;> (rw [h2]; trivial)
  | arr τ xs =>
   rw [e] at ht hm; simp only at ht hm
   rcases ht with ⟨h1,_,xs',h2,h3⟩ | ⟨_,h1,h2⟩ | h1
   ·rw [h2]; obtain ⟨hi,A,c,g1,g2,g3,g4⟩:=hm
    exact ⟨by rw [h3]; exact hi,A,c,g1,g2,g3,fun hn=>by obtain ⟨r,hr,e⟩:=g4 hn; exact ⟨r,h1.trans hr,e⟩⟩
   ·rw [h1]; trivial
   ·rw [h1]; trivial
  | acc τ xs =>
   rw [e] at ht; simp only at ht
   rcases ht with ⟨h1,h2,h3⟩ | ⟨h1,h2⟩ | h1
   ·rw [h3]; trivial
   ·rw [h1]; trivial
   ·rw [h1]; trivial
  | froz τ xs=>rw [e] at ht; simp only at ht; rw [ht]; trivial
 | iptr τ x off =>
  obtain ⟨r,o,vs,T,fz,ds,e,hS,hh,hd,hj⟩:=hc
  exact ⟨r,o,vs,T,fz,ds,e,stab r hS,(heap r hS).trans hh,hd.mono stab heap,hj⟩
 | gptr g=>exact hc
 | fnv o=>exact hc
 | fn f caps =>
  obtain ⟨hb,hs,hm⟩:=hc
  refine ⟨fun p hp=>Nat.lt_of_lt_of_le (hb p hp) len,hs,?_⟩
  by_cases hall:∀ p∈caps,∃ cs,blkAt σ'.mem p.1=.raw cs
  ·have hwas:∀ p∈caps,(∃ cs,blkAt σ.mem p.1=.raw cs)∧σ'.E.β p.1=σ.E.β p.1:=fun p hp=>by
    obtain ⟨cs',e'⟩:=hall p hp
    have ht:=(turns p.1 (hb p hp)).resolve_right fun ⟨_,_,_,_,_,_,e2⟩=>by rw [e'] at e2; cases e2
    unfold Turns at ht
    cases e:blkAt σ.mem p.1 with
    | gone=>rw [e] at ht; simp only at ht; rw [e'] at ht; cases ht
    | raw cs =>
     rw [e] at ht; simp only at ht
     rcases ht with ⟨h1,_⟩ | h2
     ·exact ⟨⟨cs,rfl⟩,h1⟩
     ·rw [e'] at h2; cases h2
    | arr τ xs =>
     rw [e] at ht; simp only at ht
     rcases ht with ⟨_,_,xs',h2,_⟩ | ⟨_,h1,_⟩ | h1
     ·rw [e'] at h2; cases h2
     ·rw [e'] at h1; cases h1
     ·rw [e'] at h1; cases h1
    | acc τ xs =>
     rw [e] at ht; simp only at ht
     rcases ht with ⟨_,_,h3⟩ | ⟨h1,_⟩ | h1
     ·rw [e'] at h3; cases h3
     ·rw [e'] at h1; cases h1
     ·rw [e'] at h1; cases h1
    | froz τ xs=>rw [e] at ht; simp only at ht; rw [e'] at ht; cases ht
   rcases hm with ⟨p,hp,hq⟩ | ⟨rs,h1,h2⟩
   ·obtain ⟨⟨cs,e⟩,_⟩:=hwas p hp
    rw [e] at hq; exact hq.elim
   ·refine .inr ⟨rs,?_,h2⟩
    rw [← h1]
    exact List.map_congr_left fun p hp=>(hwas p hp).2
  ·refine .inl ?_
   obtain ⟨p,hp⟩:=Classical.not_forall.1 hall
   obtain ⟨hp,hn⟩:=Classical.not_imp.1 hp
   refine ⟨p,hp,?_⟩
   cases e:blkAt σ'.mem p.1 with
   | raw cs=>exact absurd ⟨cs,e⟩ hn
   | _=>trivial
theorem Goes.repC {σ σ':Sit} (h:Goes σ σ') {c:SC} {y:Value} (hc:RepC σ c y):RepC σ' c y :=
 repC_move h.stab h.heap h.len (fun _=>False) (fun b hb=>.inl (h.turns b hb)) hc (fun _ _ h=>h)
theorem Goes.repV {σ σ':Sit} (h:Goes σ σ') {x:SV} {y:Value} (hc:RepV σ x y):RepV σ' x y:=by
 cases x with
 | one c=>exact h.repC hc
 | agg cs=>obtain ⟨ys,e,ha⟩:=hc; exact ⟨ys,e,ha.mono fun _ _=>h.repC⟩
theorem Goes.repT {σ σ':Sit} (h:Goes σ σ') {x:TV} {y:Value} (hc:RepT σ x y):RepT σ' x y:=by
 cases x with
 | un=>trivial
 | val x=>exact h.repV hc
 | tup xs=>obtain ⟨h1,ys,e,ha⟩:=hc; exact ⟨h1,ys,e,ha.mono fun _ _=>h.repV⟩
theorem cellsOf_rep {σ:Sit}:∀ {τ:Shape} {x:Den τ} {ys:List Value},DRep σ.w σ.S τ x ys→All2 (RepC σ) (cellsOf τ x) ys
 | .int k,n,_,h=>by rw [h.1]; exact .cons ⟨rfl,h.2⟩ .nil
 | .flt k,o,_,⟨y,h,h1⟩=>by rw [h]; exact .cons h1 .nil
 | .bool,b,_,h=>by rw [show _=_ from h]; exact .cons ⟨rfl,trivial⟩ .nil
 | .str,s,_,h=>by rw [h.1]; exact .cons ⟨rfl,h.2⟩ .nil
 | .fn,o,_,h=>by rw [show _=_ from h]; exact .cons rfl .nil
 | .unit,_,_,h=>by rw [show _=_ from h]; exact .nil
 | .slice e,xs,_,h=>by
  obtain ⟨A,c,h0,h1⟩:=h
  rw [h0]; exact .cons ⟨A,c,rfl,h1⟩ .nil
 | .pair a b,x,_,⟨c1,c2,h0,h1,h2⟩=>by
  rw [h0]; exact (cellsOf_rep h1).append (cellsOf_rep h2)
theorem castL_rep {w:World} {S:Nat→Prop} {e' e:Shape} {xs:List (Den e')} {ys:List (Den e)} (h:castL e' e xs=some ys) {y:Value}
  (hd:DRep w S (.slice e') xs [y]):DRep w S (.slice e) ys [y]:=by
 unfold castL at h
 split at h
 ·rename_i he
  subst he
  cases h
  exact hd
 ·cases h
theorem castL_eq {e' e:Shape} {xs:List (Den e')} {ys:List (Den e)} (h:castL e' e xs=some ys):∃ he:e'=e,ys=he ▸ xs:=by
 unfold castL at h
 split at h
 ·rename_i he; cases h; exact ⟨he,rfl⟩
 ·cases h
theorem nil_rep {w:World} {S:Nat→Prop} (τ:Shape):DRep w S (.slice τ) [] [.slice none 0 0] :=
 ⟨none,0,rfl,Nat.le_refl _,by unfold lim; omega,fun h=>absurd rfl h⟩
theorem parse_rep {σ:Sit}:∀ {τ:Shape} {cs:List SC} {ys:List Value} {x:Den τ} {r:List SC},All2 (RepC σ) cs ys→parse τ cs=some (x,r) →
  ∃ y1 y2,ys=y1++y2∧DRep σ.w σ.S τ x y1∧All2 (RepC σ) r y2
 | .int k,[],_,_,_,_,h=>by simp [parse] at h
 | .int k,c::cs,_,x,r,.cons hc ht,h=>by
  simp only [parse] at h
  split at h
  ·rename_i k' n
   split at h
   ·rename_i hk
    cases h
    obtain ⟨rfl,h1⟩:=hc
    exact ⟨[_],_,rfl,⟨by rw [hk],by rw [← hk]; exact h1⟩,ht⟩
   ·cases h
  ·cases h
 | .flt k,[],_,_,_,_,h=>by simp [parse] at h
 | .flt k,c::cs,_,x,r,.cons hc ht,h=>by
  simp only [parse] at h
  split at h
  ·rename_i k' o
   split at h
   ·rename_i hk
    subst hk
    cases h
    exact ⟨[_],_,rfl,⟨_,rfl,hc⟩,ht⟩
   ·cases h
  ·cases h
 | .bool,[],_,_,_,_,h=>by simp [parse] at h
 | .bool,c::cs,_,x,r,.cons hc ht,h=>by
  simp only [parse] at h
  split at h
  ·cases h
   obtain ⟨rfl,h1⟩:=hc
   exact ⟨[_],_,rfl,rfl,ht⟩
  ·cases h
 | .str,[],_,_,_,_,h=>by simp [parse] at h
 | .str,c::cs,_,x,r,.cons hc ht,h=>by
  simp only [parse] at h
  split at h
  ·cases h
   obtain ⟨rfl,h1⟩:=hc
   exact ⟨[_],_,rfl,⟨rfl,h1⟩,ht⟩
  ·cases h
 | .fn,[],_,_,_,_,h=>by simp [parse] at h
 | .fn,c::cs,_,x,r,.cons hc ht,h=>by
  simp only [parse] at h
  split at h
  ·cases h
   obtain ⟨rfl,h1⟩:=hc
   exact ⟨[_],_,rfl,rfl,ht⟩
  ·cases h
   obtain ⟨_,_,h1⟩:=hc
   rcases h1 with ⟨p,hp,_⟩ | ⟨rs,h1,rfl⟩
   ·simp at hp
   ·exact ⟨[_],_,rfl,by simp [DRep],ht⟩
  ·cases h
   exact ⟨[_],_,rfl,hc,ht⟩
  ·cases h
 | .unit,cs,ys,x,r,ha,h=>by
  simp only [parse] at h
  cases h
  exact ⟨[],ys,rfl,rfl,ha⟩
 | .slice e,[],_,_,_,_,h=>by simp [parse] at h
 | .slice e,c::cs,_,x,r,.cons hc ht,h=>by
  simp only [parse] at h
  split at h
  ·split at h
   ·rename_i hcast
    cases h
    exact ⟨[_],_,rfl,castL_rep hcast hc,ht⟩
   ·cases h
  ·cases h
   obtain ⟨rfl,h1⟩:=hc
   exact ⟨[_],_,rfl,nil_rep e,ht⟩
  ·cases h
 | .pair a b,cs,ys,x,r,ha,h=>by
  simp only [parse] at h
  split at h
  ·cases h
  ·rename_i x1 r1 h1
   split at h
   ·cases h
   ·rename_i x2 r2 h2
    cases h
    obtain ⟨y1,y2,rfl,d1,a1⟩:=parse_rep ha h1
    obtain ⟨y3,y4,rfl,d2,a2⟩:=parse_rep a1 h2
    exact ⟨y1++y3,y4,by simp,⟨y1,y3,rfl,d1,d2⟩,a2⟩
def Rows (w:World) (S:Nat→Prop) (e:Shape) (vs:Array Value) (o:Nat) (xs:List (Den e)):Prop :=
 ∀ i x,xs[i]? = some x→∃ ds,DRep w S e x ds∧∀ j d,ds[j]? = some d→vs[o+i*e.width+j]? = some d
theorem parseMany_rep {σ:Sit} {τ:Shape}:∀ {n:Nat} {cs:List SC} {ys:List Value} {xs:List (Den τ)},All2 (RepC σ) cs ys→parseMany τ n cs=some xs →
  xs.length=n∧ys.length=n*τ.width∧∀ i x,xs[i]? = some x→∃ ds,DRep σ.w σ.S τ x ds∧∀ j d,ds[j]? = some d→ys[i*τ.width+j]? = some d
 | 0,[],_,xs,.nil,h=>by simp [parseMany] at h; subst h; simp
 | 0,_::_,_,xs,_,h=>by simp [parseMany] at h
 | n+1,cs,ys,xs,ha,h=>by
  simp only [parseMany] at h
  split at h
  ·cases h
  ·rename_i x r h1
   split at h
   ·cases h
   ·rename_i xs' h2
    cases h
    obtain ⟨y1,y2,rfl,d1,a1⟩:=parse_rep ha h1
    obtain ⟨l1,l2,l3⟩:=parseMany_rep a1 h2
    have hw:=d1.len
    refine ⟨by simp [l1],by rw [List.length_append,l2,hw,Nat.succ_mul]; omega,fun i z hi=>?_⟩
    cases i with
    | zero =>
     simp at hi; subst hi
     refine ⟨y1,d1,fun j d hj=>?_⟩
     rw [Nat.zero_mul,Nat.zero_add,List.getElem?_append_left (List.getElem?_eq_some_iff.1 hj).1]
     exact hj
    | succ i =>
     obtain ⟨ds,e1,e2⟩:=l3 i z (by simpa using hi)
     refine ⟨ds,e1,fun j d hj=>?_⟩
     rw [List.getElem?_append_right (by rw [hw,Nat.succ_mul]; omega)]
     rw [show (i+1)*τ.width+j-y1.length=i*τ.width+j by rw [hw,Nat.succ_mul]; omega]
     exact e2 j d hj
end Vx
namespace Vx
open Go Go.RowKit
def ownedB:Blk→Prop
 | .raw _=>True
 | .arr _ _=>True
 | .acc _ _=>True
 | _=>False
def Sit.owned (σ:Sit) (b r:Nat):Prop:=ownedB (blkAt σ.mem b)∧σ.E.β b=some r
def MemAt (σ:Sit) (b:Nat):Prop :=
 match blkAt σ.mem b with
 | .gone=>True
 | .froz _ _=>True
 | .raw cs=>∃ r vs T,σ.E.β b=some r∧σ.w.heap[r]? = some (.cells vs T (0,0))∧All2 (RepC σ) cs vs.toList
 | .arr τ xs=>xs.length≤σ.E.κ b∧σ.E.κ b<lim∧((σ.E.β b=none∧σ.E.κ b=0) ∨
   ∃ r vs T,σ.E.β b=some r∧σ.w.heap[r]? = some (.cells vs T (0,0))∧vs.size=σ.E.κ b*τ.width∧Rows σ.w σ.S τ vs 0 xs)
 | .acc τ xs=>xs.length≤σ.E.κ b∧σ.E.κ b<lim∧((σ.E.β b=none∧σ.E.κ b=0) ∨
   ∃ r vs T,σ.E.β b=some r∧σ.w.heap[r]? = some (.cells vs T (0,0))∧vs.size=σ.E.κ b*τ.width∧Rows σ.w σ.S τ vs 0 xs)
theorem arr_at {σ:Sit} {b r:Nat} {τ:Shape} {xs:List (Den τ)} (he:MemAt σ b) (e:blkAt σ.mem b=.arr τ xs) (hr:σ.E.β b=some r) :
  xs.length≤σ.E.κ b∧σ.E.κ b<lim∧∃ vs T,σ.w.heap[r]? = some (.cells vs T (0,0))∧vs.size=σ.E.κ b*τ.width∧Rows σ.w σ.S τ vs 0 xs:=by
 unfold MemAt at he
 rw [e] at he
 obtain ⟨h1,h2,h3⟩:=he
 rcases h3 with ⟨h4,_⟩ | ⟨r',vs,T,h4,h5,h6,h7⟩
 ·rw [hr] at h4; cases h4
 ·rw [hr] at h4; cases h4; exact ⟨h1,h2,vs,T,h5,h6,h7⟩
theorem arr_some {σ:Sit} {b:Nat} {τ:Shape} {xs:List (Den τ)} (he:MemAt σ b) (e:blkAt σ.mem b=.arr τ xs) (hn:0<xs.length):∃ r,σ.E.β b=some r:=by
 unfold MemAt at he
 rw [e] at he
 obtain ⟨h1,h2,h3⟩:=he
 rcases h3 with ⟨_,h4⟩ | ⟨r,vs,T,h4,_⟩
 ·omega
 ·exact ⟨r,h4⟩
structure Base where
 w:World
 M:Nat→Prop
def Base.new (B:Base) (r:Nat):Prop:=B.w.heap.size≤r∨B.M r
structure Low (B:Base) (w':World):Prop where
 os:w'.os=B.w.os
 tape:w'.tape=B.w.tape
 output:w'.output=B.w.output
 size:B.w.heap.size≤w'.heap.size
 block:∀ k,k<B.w.heap.size→¬ B.M k→w'.heap[k]? = B.w.heap[k]?
theorem Low.step {B:Base} {w w':World} (h:Low B w) (hos:w'.os=w.os) (htape:w'.tape=w.tape) (hout:w'.output=w.output) (hsize:w.heap.size≤w'.heap.size) (hb:∀ k,k<w.heap.size→¬ B.new k→w'.heap[k]? = w.heap[k]?):Low B w' :=
 ⟨hos.trans h.os,htape.trans h.tape,hout.trans h.output,Nat.le_trans h.size hsize,fun k hk hM=>(hb k (Nat.lt_of_lt_of_le hk h.size) (fun hn=>hn.elim (fun h=>by omega) hM)).trans (h.block k hk hM)⟩
theorem Low.alloc {B:Base} {w:World} (h:Low B w) (o:Obj):Low B (w.alloc o) :=
 h.step rfl rfl rfl (by simp) fun k hk _=>Below.heap_alloc w o k hk
theorem Low.drew {B:Base} {w:World} (h:Low B w):Low B w.drew:=⟨h.os,h.tape,h.output,h.size,h.block⟩
structure Ok (base:Base) (S0:Nat→Prop) (σ:Sit):Prop where
 below:Low base σ.w
 stab0:∀ r,S0 r→σ.S r
 stab:∀ r,σ.S r→r<σ.w.heap.size∧(S0 r∨base.new r)
 ent:∀ b,MemAt σ b
 own:∀ b r,σ.owned b r→base.new r∧r<σ.w.heap.size∧¬ σ.S r
 inj:∀ b b' r,σ.owned b r→σ.owned b' r→b=b'
theorem Rows.mono {w w':World} {S S':Nat→Prop} (hS:∀ r,S r→S' r) (hH:∀ r,S r→w'.heap[r]? = w.heap[r]?) {e:Shape} {vs:Array Value} {o:Nat} {xs:List (Den e)}
  (h:Rows w S e vs o xs):Rows w' S' e vs o xs:=fun i x hi=>by
 obtain ⟨ds,h1,h2⟩:=h i x hi
 exact ⟨ds,h1.mono hS hH,h2⟩
theorem blkAt_lt {mem:Mem} {b:Nat} (h:blkAt mem b≠.gone):b<mem.length:=by
 unfold blkAt at h
 rcases Nat.lt_or_ge b mem.length with h' | h'
 ·exact h'
 ·rw [List.getElem?_eq_none h'] at h; exact absurd rfl h
theorem blkAt_append_lt {mem l:Mem} {b:Nat} (h:b<mem.length):blkAt (mem++l) b=blkAt mem b:=by
 unfold blkAt; rw [List.getElem?_append_left h]
theorem blkAt_append_at {mem:Mem} {e:Blk}:blkAt (mem++[e]) mem.length=e:=by
 unfold blkAt; simp
theorem blkAt_append_gt {mem:Mem} {e:Blk} {b:Nat} (h:mem.length<b):blkAt (mem++[e]) b=.gone:=by
 unfold blkAt; rw [List.getElem?_eq_none (by simp; omega)]; rfl
theorem blkAt_set {mem:Mem} {e:Blk} {b b':Nat} (hb:b<mem.length):blkAt (mem.set b e) b'=if b'=b then e else blkAt mem b':=by
 unfold blkAt
 by_cases h:b'=b
 ·subst h; rw [if_pos rfl,List.getElem?_set_self hb]; rfl
 ·rw [if_neg h,List.getElem?_set_ne (fun e=>h e.symm)]
theorem blkAt_ge {mem:Mem} {b:Nat} (h:mem.length≤b):blkAt mem b=.gone:=by
 unfold blkAt; rw [List.getElem?_eq_none h]; rfl
theorem set_same {mem:Mem} {b:Nat} {e:Blk} (h:blkAt mem b=e) (hn:e≠.gone):mem.set b e=mem:=by
 have hlt:b<mem.length:=blkAt_lt (by rw [h]; exact hn)
 apply List.ext_getElem?
 intro i
 rw [List.getElem?_set]
 split
 ·rename_i hbi
  subst hbi
  unfold blkAt at h
  rw [List.getElem?_eq_getElem hlt] at h ⊢
  rw [← h]
  simp [hlt]
 ·rfl
theorem Turns.refl {σ σ':Sit} {b:Nat} (hm:blkAt σ'.mem b=blkAt σ.mem b) (hb:σ'.E.β b=σ.E.β b) (hk:σ'.E.κ b=σ.E.κ b):Turns σ σ' b:=by
 unfold Turns
 cases e:blkAt σ.mem b with
 | gone=>simp only; rw [hm,e]
 | raw cs=>exact .inl ⟨hb,cs,hm.trans e⟩
 | arr τ xs=>exact .inl ⟨hb,hk,xs,hm.trans e,rfl⟩
 | acc τ xs=>exact .inl ⟨hb,hk,hm.trans e⟩
 | froz τ xs=>exact hm.trans e
theorem Goes.refl (σ:Sit):Goes σ σ:=⟨fun _ h=>h,fun _ _=>rfl,Nat.le_refl _,fun _ _=>Turns.refl rfl rfl rfl⟩
theorem MemAt.keep {σ σ':Sit} (hg:Goes σ σ') {b:Nat} (hm:blkAt σ'.mem b=blkAt σ.mem b) (hb:σ'.E.β b=σ.E.β b) (hk:σ'.E.κ b=σ.E.κ b)
  (hh:∀ r,σ.owned b r→σ'.w.heap[r]? = σ.w.heap[r]?) (h:MemAt σ b):MemAt σ' b:=by
 unfold MemAt at h ⊢
 rw [hm]
 cases e:blkAt σ.mem b with
 | gone=>trivial
 | froz τ xs=>trivial
 | raw cs =>
  rw [e] at h
  obtain ⟨r,vs,T,h1,h2,h3⟩:=h
  exact ⟨r,vs,T,hb.trans h1,(hh r ⟨by rw [e]; trivial,h1⟩).trans h2,h3.mono fun _ _=>hg.repC⟩
 | arr τ xs =>
  rw [e] at h
  obtain ⟨h0,h00,h⟩:=h
  refine ⟨by rw [hk]; exact h0,by rw [hk]; exact h00,?_⟩
  rcases h with ⟨h1,h2⟩ | ⟨r,vs,T,h1,h2,h3,h4⟩
  ·exact .inl ⟨hb.trans h1,hk.trans h2⟩
  ·exact .inr ⟨r,vs,T,hb.trans h1,(hh r ⟨by rw [e]; trivial,h1⟩).trans h2,by rw [hk]; exact h3,h4.mono hg.stab hg.heap⟩
 | acc τ xs =>
  rw [e] at h
  obtain ⟨h0,h00,h⟩:=h
  refine ⟨by rw [hk]; exact h0,by rw [hk]; exact h00,?_⟩
  rcases h with ⟨h1,h2⟩ | ⟨r,vs,T,h1,h2,h3,h4⟩
  ·exact .inl ⟨hb.trans h1,hk.trans h2⟩
  ·exact .inr ⟨r,vs,T,hb.trans h1,(hh r ⟨by rw [e]; trivial,h1⟩).trans h2,by rw [hk]; exact h3,h4.mono hg.stab hg.heap⟩
theorem arr_reads {w:World} {S:Nat→Prop} {τ:Shape} {xs:List (Den τ)} {r:Nat} {vs:Array Value} {T:TypeId} {fz:Nat×Nat} {c:Nat} (hS:S r) (hh:w.heap[r]? = some (.cells vs T fz))
  (hr:Rows w S τ vs 0 xs) (hc:xs.length≤c) (hl:c<lim):DRep w S (.slice τ) xs [.slice (some ⟨r,0,none⟩) xs.length c] :=
 ⟨_,c,rfl,hc,hl,fun _=>⟨r,0,vs,T,fz,rfl,hS,hh,hr⟩⟩
theorem froze {base:Base} {S0:Nat→Prop} {σ:Sit} (ho:Ok base S0 σ) {b:Nat} {τ:Shape} {xs:List (Den τ)} (he:blkAt σ.mem b=.arr τ xs∨blkAt σ.mem b=.acc τ xs) :
  ∃ σ':Sit,σ'.mem=σ.mem.set b (.froz τ xs)∧σ'.w=σ.w∧σ'.E=σ.E∧Ok base S0 σ'∧Goes σ σ':=by
 have hlt:b<σ.mem.length:=blkAt_lt (by rcases he with h | h <;> rw [h] <;> simp)
 refine ⟨⟨σ.E,σ.mem.set b (.froz τ xs),σ.w,fun r=>σ.S r∨σ.E.β b=some r⟩,rfl,rfl,rfl,?_⟩
 have howned:∀ r,σ.E.β b=some r→σ.owned b r:=fun r hr=>⟨by rcases he with h | h <;> rw [h] <;> trivial,hr⟩
 have hent:=ho.ent b
 have hread:DRep σ.w (fun r=>σ.S r∨σ.E.β b=some r) (.slice τ) xs [.slice ((σ.E.β b).map fun r=>⟨r,0,none⟩) xs.length (σ.E.κ b)]:=by
  have hent':xs.length≤σ.E.κ b∧σ.E.κ b<lim∧((σ.E.β b=none∧σ.E.κ b=0) ∨
   ∃ r vs T,σ.E.β b=some r∧σ.w.heap[r]? = some (.cells vs T (0,0))∧vs.size=σ.E.κ b*τ.width∧Rows σ.w σ.S τ vs 0 xs):=by
   unfold MemAt at hent
   rcases he with h | h
   ·rw [h] at hent; exact hent
   ·rw [h] at hent; exact hent
  obtain ⟨h0,h00,h5⟩:=hent'
  rcases h5 with ⟨h1,h2⟩ | ⟨r',vs,T,h1,h2,h3,h4⟩
  ·have:xs=[]:=List.eq_nil_of_length_eq_zero (by omega)
   subst this
   rw [h1,h2]
   exact nil_rep τ
  ·rw [h1]
   exact arr_reads (.inr rfl) h2 (h4.mono (fun _ h=>.inl h) fun _ _=>rfl) h0 h00
 have hg:Goes σ ⟨σ.E,σ.mem.set b (.froz τ xs),σ.w,fun r=>σ.S r∨σ.E.β b=some r⟩:=by
  refine ⟨fun r h=>.inl h,fun _ _=>rfl,by simp,fun b' hb'=>?_⟩
  by_cases hbb:b'=b
  ·subst hbb
   have hset:blkAt (σ.mem.set b' (.froz τ xs)) b'=.froz τ xs:=by rw [blkAt_set hlt,if_pos rfl]
   unfold Turns
   rcases he with h | h
   ·rw [h]
    exact .inr (.inl ⟨xs,hset,hread⟩)
   ·rw [h]
    exact .inr (.inl ⟨hset,hread⟩)
  ·exact Turns.refl (by simp only; rw [blkAt_set hlt,if_neg hbb]) rfl rfl
 refine ⟨⟨ho.below,fun r h=>.inl (ho.stab0 r h),fun r h=>?_,fun b'=>?_,fun b' r h=>?_,fun b1 b2 r h1 h2=>?_⟩,hg⟩
 ·rcases h with h | h
  ·exact ho.stab r h
  ·have:=ho.own b r (howned r h); exact ⟨this.2.1,.inr this.1⟩
 ·by_cases hbb:b'=b
  ·subst hbb
   unfold MemAt; simp only; rw [blkAt_set hlt,if_pos rfl]; trivial
  ·exact MemAt.keep hg (by simp only; rw [blkAt_set hlt,if_neg hbb]) rfl rfl (fun _ _=>rfl) (ho.ent b')
 ·obtain ⟨h1,h2⟩:=h
  simp only at h1 h2
  rw [blkAt_set hlt] at h1
  split at h1
  ·exact h1.elim
  ·rename_i hne
   have hh:=ho.own b' r ⟨h1,h2⟩
   refine ⟨hh.1,hh.2.1,fun hs=>?_⟩
   rcases hs with hs | hs
   ·exact hh.2.2 hs
   ·exact hne (ho.inj b' b r ⟨h1,h2⟩ (howned r hs))
 ·obtain ⟨h3,h4⟩:=h1
  obtain ⟨h5,h6⟩:=h2
  simp only at h3 h4 h5 h6
  rw [blkAt_set hlt] at h3 h5
  split at h3
  ·exact h3.elim
  ·split at h5
   ·exact h5.elim
   ·exact ho.inj b1 b2 r ⟨h3,h4⟩ ⟨h5,h6⟩
theorem Goes.trans {σ σ' σ'':Sit} (h:Goes σ σ') (h':Goes σ' σ''):Goes σ σ'':=by
 refine ⟨fun r hr=>h'.stab r (h.stab r hr),fun r hr=>(h'.heap r (h.stab r hr)).trans (h.heap r hr),Nat.le_trans h.len h'.len,fun b hb=>?_⟩
 have t1:=h.turns b hb
 have t2:=h'.turns b (Nat.lt_of_lt_of_le hb h.len)
 unfold Turns at t1 t2 ⊢
 cases e:blkAt σ.mem b with
 | gone=>rw [e] at t1; simp only at t1; rw [t1] at t2; exact t2
 | raw cs =>
  rw [e] at t1; simp only at t1
  rcases t1 with ⟨h1,cs',h2⟩ | h2
  ·rw [h2] at t2
   rcases t2 with ⟨g1,g2⟩ | g2
   ·exact .inl ⟨g1.trans h1,g2⟩
   ·exact .inr g2
  ·rw [h2] at t2; exact .inr t2
 | arr τ xs =>
  rw [e] at t1; simp only at t1
  rcases t1 with ⟨h1,h1',xs',h2,h3⟩ | ⟨xs',h1,h2⟩ | h1
  ·rw [h2] at t2
   rcases t2 with ⟨g1,g1',xs'',g2,g3⟩ | ⟨xs'',g1,g2⟩ | g1
   ·exact .inl ⟨g1.trans h1,g1'.trans h1',xs'',g2,g3.trans h3⟩
   ·refine .inr (.inl ⟨xs'',g1,?_⟩)
    rw [h1,h1',h3] at g2
    exact g2
   ·exact .inr (.inr g1)
  ·rw [h1] at t2
   exact .inr (.inl ⟨xs',t2,h2.mono h'.stab h'.heap⟩)
  ·rw [h1] at t2
   exact .inr (.inr t2)
 | acc τ xs =>
  rw [e] at t1; simp only at t1
  rcases t1 with ⟨h1,h2,h3⟩ | ⟨h1,h2⟩ | h1
  ·rw [h3] at t2
   rcases t2 with ⟨g1,g2,g3⟩ | ⟨g1,g2⟩ | g1
   ·exact .inl ⟨g1.trans h1,g2.trans h2,g3⟩
   ·refine .inr (.inl ⟨g1,?_⟩)
    rw [h1,h2] at g2
    exact g2
   ·exact .inr (.inr g1)
  ·rw [h1] at t2
   exact .inr (.inl ⟨t2,h2.mono h'.stab h'.heap⟩)
  ·rw [h1] at t2
   exact .inr (.inr t2)
 | froz τ xs=>rw [e] at t1; simp only at t1; rw [t1] at t2; exact t2
end Vx
namespace Vx
open Go Go.RowKit
theorem freeze1_ok {base:Base} {S0:Nat→Prop} {σ:Sit} (ho:Ok base S0 σ) {c c':SC} {mem':Mem} (h:freeze1 σ.mem c=(c',mem')) :
  ∃ σ':Sit,σ'.mem=mem'∧σ'.w=σ.w∧σ'.E=σ.E∧Ok base S0 σ'∧Goes σ σ'∧∀ y,RepC σ c y→RepC σ' c' y:=by
 have triv:∀ {d:SC},(∀ y,RepC σ c y→RepC σ d y)→(d,σ.mem)=(c',mem')→∃ σ':Sit,σ'.mem=mem'∧σ'.w=σ.w∧σ'.E=σ.E∧Ok base S0 σ'∧Goes σ σ'∧∀ y,RepC σ c y→RepC σ' c' y :=
  fun hd e=>by cases e; exact ⟨σ,rfl,rfl,rfl,ho,Goes.refl σ,hd⟩
 cases c with
 | own b =>
  simp only [freeze1] at h
  cases e:blkAt σ.mem b with
  | gone=>rw [e] at h; exact triv (d:=.undef) (fun y hy=>hy.2.1) h
  | raw cs=>rw [e] at h; exact triv (d:=.undef) (fun y hy=>hy.2.1) h
  | arr τ xs =>
   rw [e] at h; simp only at h; cases h
   obtain ⟨σ',h1,h2,h3,h4,h5⟩:=froze ho (.inl e)
   refine ⟨σ',h1,h2,h3,h4,h5,fun y hy=>?_⟩
   have:=h5.repC hy
   obtain ⟨_,_,h6⟩:=this
   rw [h1,blkAt_set (blkAt_lt (by rw [e]; simp)),if_pos rfl] at h6
   exact h6
  | acc τ xs =>
   rw [e] at h; simp only at h; cases h
   obtain ⟨σ',h1,h2,h3,h4,h5⟩:=froze ho (.inr e)
   refine ⟨σ',h1,h2,h3,h4,h5,fun y hy=>?_⟩
   have:=h5.repC hy
   obtain ⟨_,_,h6⟩:=this
   rw [h1,blkAt_set (blkAt_lt (by rw [e]; simp)),if_pos rfl] at h6
   exact h6
  | froz τ xs =>
   rw [e] at h
   refine triv (fun y hy=>?_) h
   obtain ⟨_,_,h6⟩:=hy
   rw [e] at h6
   exact h6
 | undef=>exact triv (fun _ h=>h) h
 | v x=>exact triv (fun _ h=>h) h
 | fl k o=>exact triv (fun _ h=>h) h
 | sl τ xs=>exact triv (fun _ h=>h) h
 | ptr b off=>exact triv (fun _ h=>h) h
 | eptr b i off=>exact triv (fun _ h=>h) h
 | sub b lo n=>exact triv (fun _ h=>h) h
 | iptr τ x off=>exact triv (fun _ h=>h) h
 | gptr g=>exact triv (fun _ h=>h) h
 | fnv o=>exact triv (fun _ h=>h) h
 | fn f caps=>exact triv (fun _ h=>h) h
theorem freezeL_ok {base:Base} {S0:Nat→Prop}:∀ {cs:List SC} {σ:Sit},Ok base S0 σ→∀ {cs':List SC} {mem':Mem},freezeL σ.mem cs=(cs',mem') →
  ∃ σ':Sit,σ'.mem=mem'∧σ'.w=σ.w∧σ'.E=σ.E∧Ok base S0 σ'∧Goes σ σ'∧∀ ys,All2 (RepC σ) cs ys→All2 (RepC σ') cs' ys
 | [],σ,ho,cs',mem',h=>by
  simp only [freezeL] at h; cases h
  exact ⟨σ,rfl,rfl,rfl,ho,Goes.refl σ,fun ys h=>by cases h; exact .nil⟩
 | c::cs,σ,ho,cs',mem',h=>by
  simp only [freezeL] at h
  cases e1:freeze1 σ.mem c with
  | mk c1 m1 =>
   rw [e1] at h; simp only at h
   obtain ⟨σ1,a1,a2,a3,a4,a5,a6⟩:=freeze1_ok ho e1
   cases e2:freezeL m1 cs with
   | mk c2 m2 =>
    rw [e2] at h; simp only at h; cases h
    rw [← a1] at e2
    obtain ⟨σ2,b1,b2,b3,b4,b5,b6⟩:=freezeL_ok a4 e2
    refine ⟨σ2,b1,b2.trans a2,b3.trans a3,b4,a5.trans b5,fun ys hy=>?_⟩
    cases hy with
    | cons h1 h2=>exact .cons (b5.repC (a6 _ h1)) (b6 _ (h2.mono fun _ _=>a5.repC))
theorem freezeSV_ok {base:Base} {S0:Nat→Prop} {σ:Sit} (ho:Ok base S0 σ) {x x':SV} {mem':Mem} (h:freezeSV σ.mem x=(x',mem')) :
  ∃ σ':Sit,σ'.mem=mem'∧σ'.w=σ.w∧σ'.E=σ.E∧Ok base S0 σ'∧Goes σ σ'∧∀ y,RepV σ x y→RepV σ' x' y:=by
 cases x with
 | one c =>
  simp only [freezeSV] at h
  cases e1:freeze1 σ.mem c with
  | mk c1 m1 =>
   rw [e1] at h; simp only at h; cases h
   obtain ⟨σ1,a1,a2,a3,a4,a5,a6⟩:=freeze1_ok ho e1
   exact ⟨σ1,a1,a2,a3,a4,a5,a6⟩
 | agg cs =>
  simp only [freezeSV] at h
  cases e1:freezeL σ.mem cs with
  | mk c1 m1 =>
   rw [e1] at h; simp only at h; cases h
   obtain ⟨σ1,a1,a2,a3,a4,a5,a6⟩:=freezeL_ok ho e1
   exact ⟨σ1,a1,a2,a3,a4,a5,fun y ⟨ys,e,hy⟩=>⟨ys,e,a6 ys hy⟩⟩
def upd {α:Type} (f:Nat→α) (b:Nat) (x:α):Nat→α:=fun i=>if i=b then x else f i
def Sit.push (σ:Sit) (e:Blk) (o:Obj) (k:Nat):Sit :=
 { E:={ β:=upd σ.E.β σ.mem.length (some σ.w.heap.size),κ:=upd σ.E.κ σ.mem.length k },mem:=σ.mem++[e],w:=σ.w.alloc o,S:=σ.S }
def Sit.name (σ:Sit) (e:Blk):Sit :=
 { E:={ β:=upd σ.E.β σ.mem.length none,κ:=upd σ.E.κ σ.mem.length 0 },mem:=σ.mem++[e],w:=σ.w,S:=σ.S }
theorem heap_alloc_lt {w:World} {o:Obj} {r:Nat} (h:r<w.heap.size):(w.alloc o).heap[r]? = w.heap[r]?:=Below.heap_alloc w o r h
theorem push_goes {base:Base} {S0:Nat→Prop} {σ:Sit} (ho:Ok base S0 σ) (e:Blk) (o:Obj) (k:Nat):Goes σ (σ.push e o k):=by
 refine ⟨fun _ h=>h,fun r hr=>heap_alloc_lt (ho.stab r hr).1,by simp [Sit.push],fun b hb=>?_⟩
 exact Turns.refl (blkAt_append_lt hb) (by simp [Sit.push,upd]; omega) (by simp [Sit.push,upd]; omega)
theorem name_goes (σ:Sit) (e:Blk):Goes σ (σ.name e):=by
 refine ⟨fun _ h=>h,fun r hr=>rfl,by simp [Sit.name],fun b hb=>?_⟩
 exact Turns.refl (blkAt_append_lt hb) (by simp [Sit.name,upd]; omega) (by simp [Sit.name,upd]; omega)
theorem push_ok {base:Base} {S0:Nat→Prop} {σ:Sit} (ho:Ok base S0 σ) (e:Blk) (o:Obj) (k:Nat) (hat:MemAt (σ.push e o k) σ.mem.length):Ok base S0 (σ.push e o k):=by
 have hg:=push_goes ho e o k
 have hlt:∀ b,ownedB (blkAt (σ.push e o k).mem b)→b≠σ.mem.length→ownedB (blkAt σ.mem b)∧b<σ.mem.length:=fun b h hne=>by
  rcases Nat.lt_or_ge b σ.mem.length with h' | h'
  ·simp only [Sit.push] at h; rw [blkAt_append_lt h'] at h; exact ⟨h,h'⟩
  ·simp only [Sit.push] at h; rw [blkAt_append_gt (by omega)] at h; exact h.elim
 have hold:∀ b r,(σ.push e o k).owned b r→b≠σ.mem.length→σ.owned b r:=fun b r h hne=>by
  obtain ⟨h1,h2⟩:=h
  obtain ⟨h3,h4⟩:=hlt b h1 hne
  exact ⟨h3,by simpa [Sit.push,upd,hne] using h2⟩
 have hnew:∀ r,(σ.push e o k).owned σ.mem.length r→r=σ.w.heap.size:=fun r h=>by
  have:=h.2; simp [Sit.push,upd] at this; omega
 refine ⟨ho.below.alloc o,ho.stab0,fun r h=>?_,fun b=>?_,fun b r h=>?_,fun b b' r h h'=>?_⟩
 ·have:=ho.stab r h; exact ⟨by simp only [Sit.push,World.size_alloc]; omega,this.2⟩
 ·by_cases hb:b=σ.mem.length
  ·rw [hb]; exact hat
  ·rcases Nat.lt_or_ge b σ.mem.length with h' | h'
   ·refine MemAt.keep hg (blkAt_append_lt h') (by simp [Sit.push,upd,hb]) (by simp [Sit.push,upd,hb]) (fun r hr=>heap_alloc_lt (ho.own b r hr).2.1) (ho.ent b)
   ·unfold MemAt; simp only [Sit.push]; rw [blkAt_append_gt (by omega)]; trivial
 ·by_cases hb:b=σ.mem.length
  ·subst hb
   rw [hnew r h]
   exact ⟨.inl ho.below.size,by simp [Sit.push],fun hs=>absurd (ho.stab _ hs).1 (by omega)⟩
  ·have:=ho.own b r (hold b r h hb)
   exact ⟨this.1,by simp only [Sit.push,World.size_alloc]; omega,this.2.2⟩
 ·by_cases hb:b=σ.mem.length <;> by_cases hb':b'=σ.mem.length
  ·rw [hb,hb']
  ·subst hb
   have h1:=hnew r h
   have:=(ho.own b' r (hold b' r h' hb')).2.1
   omega
  ·subst hb'
   have h1:=hnew r h'
   have:=(ho.own b r (hold b r h hb)).2.1
   omega
  ·exact ho.inj b b' r (hold b r h hb) (hold b' r h' hb')
theorem name_ok {base:Base} {S0:Nat→Prop} {σ:Sit} (ho:Ok base S0 σ) (τ:Shape):Ok base S0 (σ.name (.acc τ [])):=by
 have hg:=name_goes σ (.acc τ [])
 have hold:∀ b r,(σ.name (.acc τ [])).owned b r→σ.owned b r:=fun b r h=>by
  obtain ⟨h1,h2⟩:=h
  by_cases hb:b=σ.mem.length
  ·subst hb; simp [Sit.name,upd] at h2
  ·rcases Nat.lt_or_ge b σ.mem.length with h' | h'
   ·simp only [Sit.name] at h1; rw [blkAt_append_lt h'] at h1; exact ⟨h1,by simpa [Sit.name,upd,hb] using h2⟩
   ·simp only [Sit.name] at h1; rw [blkAt_append_gt (by omega)] at h1; exact h1.elim
 refine ⟨ho.below,ho.stab0,ho.stab,fun b=>?_,fun b r h=>ho.own b r (hold b r h),fun b b' r h h'=>ho.inj b b' r (hold b r h) (hold b' r h')⟩
 by_cases hb:b=σ.mem.length
 ·subst hb
  unfold MemAt; simp only [Sit.name]; rw [blkAt_append_at]
  simp [upd,lim]
 ·rcases Nat.lt_or_ge b σ.mem.length with h' | h'
  ·exact MemAt.keep hg (blkAt_append_lt h') (by simp [Sit.name,upd,hb]) (by simp [Sit.name,upd,hb]) (fun r hr=>rfl) (ho.ent b)
  ·unfold MemAt; simp only [Sit.name]; rw [blkAt_append_gt (by omega)]; trivial
def wset (w:World) (r:Nat) (o:Obj):World:={ w with heap:=w.heap.setIfInBounds r o }
theorem heap_wset_ne {w:World} {r r':Nat} {o:Obj} (h:r'≠r):(wset w r o).heap[r']? = w.heap[r']?:=by
 simp only [wset]; rw [Array.getElem?_setIfInBounds_ne (fun e=>h e.symm)]
theorem heap_wset_eq {w:World} {r:Nat} {o:Obj} (h:r<w.heap.size):(wset w r o).heap[r]? = some o:=by
 simp only [wset]; rw [Array.getElem?_setIfInBounds_self_of_lt h]
theorem size_wset {w:World} {r:Nat} {o:Obj}:(wset w r o).heap.size=w.heap.size:=by simp [wset]
theorem wset_wset {w:World} {r:Nat} {o o':Obj}:wset (wset w r o) r o'=wset w r o':=by
 simp only [wset]
 congr 1
 exact Array.setIfInBounds_setIfInBounds ..
theorem setCell_wset {w:World} {r i:Nat} {vs:Array Value} {T:TypeId} {fz:Nat×Nat} {v:Value} (h:w.heap[r]? = some (.cells vs T fz)) :
  w.setCell ⟨r,i,none⟩ v=wset w r (.cells (vs.setIfInBounds i v) T fz):=by
 have hlt:=(Array.getElem?_eq_some_iff.1 h).1
 have he:=(Array.getElem?_eq_some_iff.1 h).2
 simp only [World.setCell,wset]
 congr 1
 apply Array.ext
 ·simp
 ·intro j h1 h2
  rw [Array.getElem_modify,Array.getElem_setIfInBounds (by simpa using h1)]
  by_cases hj:r=j
  ·subst hj; rw [if_pos rfl,if_pos rfl,he]; rfl
  ·rw [if_neg hj,if_neg hj]
theorem cell_of {w:World} {r i:Nat} {vs:Array Value} {T:TypeId} {fz:Nat×Nat} (h:w.heap[r]? = some (.cells vs T fz)):w.cell? ⟨r,i,none⟩=vs[i]?:=by
 simp [World.cell?,h]
theorem frozen_of {w:World} {r i:Nat} {vs:Array Value} {T:TypeId} (h:w.heap[r]? = some (.cells vs T (0,0))):w.frozen? ⟨r,i,none⟩=false:=by
 simp [World.frozen?,h]
def putAt (vs:Array Value):Nat→List Value→Array Value
 | _,[]=>vs
 | o,v::l=>putAt (vs.setIfInBounds o v) (o+1) l
theorem putAt_size:∀ (l:List Value) (vs:Array Value) (o:Nat),(putAt vs o l).size=vs.size
 | [],_,_=>rfl
 | _::l,vs,o=>by rw [putAt,putAt_size l]; simp
theorem addr_add (r o n:Nat):(⟨r,o,none⟩:Addr).add n=⟨r,o+n,none⟩:=by
 unfold Addr.add; split
 ·rename_i h; subst h; rfl
 ·rfl
theorem run_store1 {P:Program} {w:World} {r i:Nat} {vs:Array Value} {T:TypeId} {v:Value} (h:w.heap[r]? = some (.cells vs T (0,0))) (hi:i<vs.size) (hv:scalar v) :
  (store ⟨r,i,none⟩ v).run P w=.ok () (wset w r (.cells (vs.setIfInBounds i v) T (0,0))):=by
 have hc:w.cell? ⟨r,i,none⟩=some vs[i]:=by rw [cell_of h]; simp [hi]
 have hf:=frozen_of (i:=i) h
 unfold store
 cases v <;> first | exact hv.elim | (rw [← setCell_wset h]; simp [Sem.run,hc,hf])
theorem run_storeCells {P:Program} {r o:Nat} {T:TypeId}:∀ (l:List Value) (i:Nat) (w:World) (vs:Array Value),w.heap[r]? = some (.cells vs T (0,0)) →
  o+i+l.length≤vs.size→(∀ v∈l,scalar v)→(storeCells ⟨r,o,none⟩ l i).run P w=.ok () (wset w r (.cells (putAt vs (o+i) l) T (0,0)))
 | [],i,w,vs,h,_,_=>by
  have hlt:=(Array.getElem?_eq_some_iff.1 h).1
  have he:=(Array.getElem?_eq_some_iff.1 h).2
  have:wset w r (.cells vs T (0,0))=w:=by
   unfold wset
   have:w.heap.setIfInBounds r (.cells vs T (0,0))=w.heap:=by
    apply Array.ext
    ·simp
    ·intro j h1 h2
     rw [Array.getElem_setIfInBounds (by simpa using h1)]
     split
     ·rename_i hj; subst hj; exact he.symm
     ·rfl
   rw [this]
  simp [storeCells,putAt,this]
 | v::l,i,w,vs,h,hsz,hv=>by
  have hlt:=(Array.getElem?_eq_some_iff.1 h).1
  simp only [List.length_cons] at hsz
  simp only [storeCells,Sem.run_bind,addr_add]
  rw [run_store1 h (by omega) (hv v (by simp))]
  simp only [Result.andThen_ok]
  rw [run_storeCells l (i+1) _ (vs.setIfInBounds (o+i) v) (heap_wset_eq hlt) (by simp; omega) (fun x hx=>hv x (by simp [hx])),wset_wset]
  rw [putAt,Nat.add_assoc]
theorem run_loadCells_of {P:Program} {w:World} {r o n:Nat} {vs:Array Value} {T:TypeId} {fz:Nat×Nat} (h:w.heap[r]? = some (.cells vs T fz)) (hn:o+n≤vs.size) :
  (loadCells ⟨r,o,none⟩ n).run P w=.ok ((vs.toList.drop o).take n).toArray w:=by
 have hl:((vs.toList.drop o).take n).length=n:=by simp; omega
 have:=run_loadCells_list (P:=P) (w:=w) ⟨r,o,none⟩ ((vs.toList.drop o).take n) (fun j v hj=>by
  rw [addr_add,cell_of h]
  have hj':=(List.getElem?_eq_some_iff.1 hj).1
  rw [List.getElem?_take_of_lt (by omega),List.getElem?_drop] at hj
  simpa using hj)
 rw [hl] at this
 exact this
def Sit.store (σ:Sit) (b r:Nat) (e:Blk) (vs:Array Value) (T:TypeId):Sit :=
 { E:=σ.E,mem:=σ.mem.set b e,w:=wset σ.w r (.cells vs T (0,0)),S:=σ.S }
theorem store_ok {base:Base} {S0:Nat→Prop} {σ:Sit} (ho:Ok base S0 σ) {b r:Nat} (hb:σ.owned b r) {e:Blk} {vs:Array Value} {T:TypeId}
  (hk:match blkAt σ.mem b with
   | .raw _=>∃ cs,e=.raw cs
   | .arr τ xs=>∃ xs':List (Den τ),e=.arr τ xs'∧xs'.length=xs.length
   | _=>False)
  (hat:Goes σ (σ.store b r e vs T)→MemAt (σ.store b r e vs T) b):Ok base S0 (σ.store b r e vs T)∧Goes σ (σ.store b r e vs T):=by
 have hlt:b<σ.mem.length:=blkAt_lt (by intro h; have:=hb.1; rw [h] at this; exact this)
 have hrs:=ho.own b r hb
 have hoe:ownedB e:=by
  split at hk
  ·obtain ⟨cs,rfl⟩:=hk; trivial
  ·obtain ⟨xs,rfl,_⟩:=hk; trivial
  ·exact hk.elim
 have hg:Goes σ (σ.store b r e vs T):=by
  refine ⟨fun _ h=>h,fun r' hr'=>heap_wset_ne (fun e=>hrs.2.2 (e ▸ hr')),by simp [Sit.store],fun b' hb'=>?_⟩
  by_cases hbb:b'=b
  ·subst hbb
   have hset:blkAt (σ.store b' r e vs T).mem b'=e:=by simp only [Sit.store]; rw [blkAt_set hlt,if_pos rfl]
   unfold Turns
   split at hk
   ·rename_i e1; rw [e1]; obtain ⟨cs,rfl⟩:=hk; exact .inl ⟨rfl,cs,hset⟩
   ·rename_i e1; rw [e1]; obtain ⟨xs,rfl,hl⟩:=hk; exact .inl ⟨rfl,rfl,xs,hset,hl⟩
   ·exact hk.elim
  ·exact Turns.refl (by simp only [Sit.store]; rw [blkAt_set hlt,if_neg hbb]) rfl rfl
 have hold:∀ b' r',(σ.store b r e vs T).owned b' r'→σ.owned b' r':=fun b' r' h=>by
  obtain ⟨h1,h2⟩:=h
  simp only [Sit.store] at h1 h2
  rw [blkAt_set hlt] at h1
  split at h1
  ·rename_i hbb; subst hbb; exact ⟨hb.1,h2⟩
  ·exact ⟨h1,h2⟩
 refine ⟨⟨ho.below.step rfl rfl rfl (by simp [Sit.store,wset]) (fun k _ hn=>heap_wset_ne (fun e=>hn (e ▸ hrs.1))),ho.stab0,fun r' h=>?_,fun b'=>?_,fun b' r' h=>?_,fun b1 b2 r' h1 h2=>ho.inj b1 b2 r' (hold _ _ h1) (hold _ _ h2)⟩,hg⟩
 ·have:=ho.stab r' h; exact ⟨by simp only [Sit.store,size_wset]; exact this.1,this.2⟩
 ·by_cases hbb:b'=b
  ·subst hbb; exact hat hg
  ·refine MemAt.keep hg (by simp only [Sit.store]; rw [blkAt_set hlt,if_neg hbb]) rfl rfl (fun r' hr'=>heap_wset_ne (fun e=>hbb (ho.inj b' b r (e ▸ hr') hb))) (ho.ent b')
 ·have:=ho.own b' r' (hold _ _ h); exact ⟨this.1,by simp only [Sit.store,size_wset]; exact this.2.1,this.2.2⟩
end Vx
namespace Vx
open Go Go.RowKit
theorem min_max (k:IntKind):k.min≤0∧0≤k.max:=by cases k <;> decide
theorem okLit_ok {k:IntKind} {n:Int} (h:okLit k n=true):k.min≤n∧n≤k.max:=by
 cases k <;> simp [okLit] at h <;> simp [IntKind.min,IntKind.max,IntKind.signed,IntKind.bits] <;> omega
def CsOk (σ:Sit) (a:Act) (cs:List (Nat×Nat×Bool×TV)):Prop :=
 ∀ d g p x,(d,g,p,x)∈cs→(a.tmps.getD g undef=.bool p→RepT σ x (a.tmps.getD d undef))∧(a.tmps.getD g undef≠.bool p→a.tmps.getD d undef=undef)
structure RelT (σ:Sit) (s:St) (a:Act):Prop where
 size:a.tmps.size=s.n
 defers:a.defers=[]
 mem:σ.mem=s.mem
 tm:∀ t,RepT σ (getT s.tm t) (a.tmps.getD t undef)
 cs:CsOk σ a s.cs
def CtxOk (a:Act) (ctx:List (Nat×Bool)):Prop:=∀ t p,(t,p)∈ctx→a.tmps.getD t undef=.bool p
theorem CsOk.tail {σ:Sit} {a:Act} {e:Nat×Nat×Bool×TV} {cs:List (Nat×Nat×Bool×TV)} (h:CsOk σ a (e::cs)):CsOk σ a cs :=
 fun d g p x hm=>h d g p x (List.mem_cons_of_mem _ hm)
theorem hasTag_mem:∀ {l:List (Nat×Bool)} {g:Nat} {q:Bool},hasTag l g q=true→(g,q)∈l
 | [],_,_,h=>by simp [hasTag] at h
 | (t,p)::r,g,q,h=>by
  simp only [hasTag,Bool.or_eq_true,Bool.and_eq_true] at h
  rcases h with ⟨h1,h2⟩ | h
  ·have:t=g:=Nat.eq_of_beq_eq_true h1
   subst this
   have:p=q:=by cases p <;> cases q <;> simp_all [pb]
   subst this
   exact List.mem_cons_self
  ·exact List.mem_cons_of_mem _ (hasTag_mem h)
theorem getCs_mem:∀ {cs:List (Nat×Nat×Bool×TV)} {t g:Nat} {p:Bool} {x:TV},getCs cs t=some ((g,p),x)→(t,g,p,x)∈cs
 | [],_,_,_,_,h=>by simp [getCs] at h
 | (d,g',p',x')::r,t,g,p,x,h=>by
  simp only [getCs] at h
  cases hb:Nat.beq d t with
  | true =>
   rw [hb] at h; simp at h
   have:d=t:=Nat.eq_of_beq_eq_true hb
   obtain ⟨⟨rfl,rfl⟩,rfl⟩:=h
   subst this
   exact List.mem_cons_self
  | false=>rw [hb] at h; exact List.mem_cons_of_mem _ (getCs_mem h)
theorem undef_ne (b:Bool):undef≠.bool b:=by unfold undef; intro h; cases h
theorem cval_ok {σ:Sit} {s:St} {a:Act} (ht:∀ t,RepT σ (getT s.tm t) (a.tmps.getD t undef)):∀ {cs:List (Nat×Nat×Bool×TV)},CsOk σ a cs→∀ {t:Nat} {p c:Bool},cval s.tm cs t p=some c →
  (c=true↔a.tmps.getD t undef=.bool p)
 | [],_,t,p,c,h=>by
  simp only [cval] at h
  have:=ht t
  split at h
  ·rename_i b e
   cases h
   rw [e] at this
   obtain ⟨h1,_⟩:=this
   rw [h1]
   cases p <;> cases b <;> simp [pb]
  ·cases h
 | (d,g,q,x)::r,hc,t,p,c,h=>by
  simp only [cval] at h
  cases hb:Nat.beq d t with
  | false=>rw [hb] at h; exact cval_ok ht hc.tail h
  | true =>
   rw [hb] at h
   have:d=t:=Nat.eq_of_beq_eq_true hb
   subst this
   simp only [cond_true] at h
   split at h
   ·rename_i b
    split at h
    ·rename_i c' hc'
     cases h
     have ih:=cval_ok ht hc.tail hc'
     have hd:=hc d g q _ List.mem_cons_self
     by_cases hg:a.tmps.getD g undef=.bool q
     ·have hc'':c'=true:=ih.2 hg
      obtain ⟨h1,_⟩:=hd.1 hg
      rw [h1,hc'']
      cases p <;> cases b <;> simp [pb]
     ·have:c'=false:=by cases c' with | false=>rfl | true=>exact absurd (ih.1 rfl) hg
      rw [hd.2 hg,this]
      simp [undef_ne]
    ·cases h
   ·cases h
theorem ctxOf_ok {σ:Sit} {a:Act}:∀ {cs:List (Nat×Nat×Bool×TV)},CsOk σ a cs→∀ {t:Nat} {p:Bool},a.tmps.getD t undef=.bool p→CtxOk a (ctxOf cs t p)
 | [],_,t,p,h=>by
  intro t' p' hm
  simp only [ctxOf,List.mem_singleton,Prod.mk.injEq] at hm
  obtain ⟨rfl,rfl⟩:=hm
  exact h
 | (d,g,q,x)::r,hc,t,p,h=>by
  simp only [ctxOf]
  cases hb:Nat.beq d t with
  | false=>exact ctxOf_ok hc.tail h
  | true =>
   have:d=t:=Nat.eq_of_beq_eq_true hb
   subst this
   have hd:=hc d g q _ List.mem_cons_self
   have hg:a.tmps.getD g undef=.bool q:=by
    refine Classical.byContradiction fun hn=>?_
    rw [hd.2 hn] at h
    exact undef_ne p h
   intro t' p' hm
   simp only [cond_true,List.mem_cons,Prod.mk.injEq] at hm
   rcases hm with ⟨rfl,rfl⟩ | hm
   ·exact h
   ·exact ctxOf_ok hc.tail hg t' p' hm
theorem scOfConst_ok {σ:Sit} {v:Value} {c:SC} (h:scOfConst v=some c):RepC σ c v:=by
 unfold scOfConst at h
 split at h
 ·cases h; exact ⟨rfl,trivial⟩
 ·rename_i k n
  cases hb:okLit k n with
  | false=>rw [hb] at h; cases h
  | true=>rw [hb] at h; cases h; exact ⟨rfl,okLit_ok hb⟩
 ·rename_i b
  cases hb:Nat.blt b 4294967296 with
  | false=>rw [hb] at h; cases h
  | true=>rw [hb] at h; cases h; exact ⟨b,rfl,by simpa [fbits] using hb,rfl⟩
 ·rename_i b
  cases hb:Nat.blt b 18446744073709551616 with
  | false=>rw [hb] at h; cases h
  | true=>rw [hb] at h; cases h; exact ⟨b,rfl,by simpa [fbits] using hb,rfl⟩
 ·rename_i s
  cases hb:Nat.blt s.size 9223372036854775808 with
  | false=>rw [hb] at h; cases h
  | true=>rw [hb] at h; cases h; exact ⟨rfl,by simpa [lim,wfV] using hb⟩
 ·cases h; exact ⟨rfl,trivial⟩
 ·cases h; exact ⟨rfl,trivial⟩
 ·cases h; exact ⟨rfl,trivial⟩
 ·cases h; exact ⟨rfl,trivial⟩
 ·rename_i f first captured
  split at h
  ·rename_i h1 h2
   cases h
   refine ⟨by simp,trivial,.inr ⟨[],rfl,?_⟩⟩
   have e1:first=#[]:=Array.toList_inj.1 (h1.trans rfl)
   have e2:captured=#[]:=Array.toList_inj.1 (h2.trans rfl)
   rw [e1,e2]; rfl
  ·cases h
 ·cases h
theorem scsOfConst_ok {σ:Sit}:∀ {l:List Value} {cs:List SC},scsOfConst l=some cs→All2 (RepC σ) cs l
 | [],_,h=>by simp [scsOfConst] at h; subst h; exact .nil
 | v::r,_,h=>by
  simp only [scsOfConst] at h
  split at h
  ·rename_i c cs h1 h2
   cases h
   exact .cons (scOfConst_ok h1) (scsOfConst_ok h2)
  ·cases h
theorem svOfConst_ok {σ:Sit} {v:Value} {x:SV} (h:svOfConst v=some x):RepV σ x v:=by
 unfold svOfConst at h
 split at h
 ·rename_i cs
  split at h
  ·rename_i l h1
   cases h
   exact ⟨cs.toList,by simp,scsOfConst_ok h1⟩
  ·cases h
 ·split at h
  ·rename_i c h1
   cases h
   exact scOfConst_ok h1
  ·cases h
theorem ev_ok {σ:Sit} {s:St} {a:Act} {ctx:List (Nat×Bool)} (hr:RelT σ s a) (hx:CtxOk a ctx) {x:Operand} {v:TV} (h:ev s ctx x=some v):RepT σ v (a.eval x):=by
 cases x with
 | tmp t =>
  simp only [ev] at h
  split at h
  ·rename_i g p y e
   cases hb:hasTag ctx g p with
   | false=>rw [hb] at h; cases h
   | true =>
    rw [hb] at h; cases h
    exact (hr.cs _ _ _ _ (getCs_mem e)).1 (hx _ _ (hasTag_mem hb))
  ·cases h; exact hr.tm t
 | const v =>
  simp only [ev] at h
  split at h
  ·rename_i y e
   cases h
   exact svOfConst_ok e
  ·cases h
 | global g=>simp only [ev] at h; cases h; rfl
 | func f =>
  simp only [ev] at h; cases h
  exact ⟨by simp,trivial,.inr ⟨[],rfl,rfl⟩⟩
theorem ev1_ok {σ:Sit} {s:St} {a:Act} {ctx:List (Nat×Bool)} (hr:RelT σ s a) (hx:CtxOk a ctx) {x:Operand} {c:SC} (h:ev1 s ctx x=some c):RepC σ c (a.eval x):=by
 unfold ev1 at h
 split at h
 ·rename_i c' e; cases h; exact ev_ok hr hx e
 ·cases h
theorem evV_ok {σ:Sit} {s:St} {a:Act} {ctx:List (Nat×Bool)} (hr:RelT σ s a) (hx:CtxOk a ctx) {x:Operand} {c:SV} (h:evV s ctx x=some c):RepV σ c (a.eval x):=by
 unfold evV at h
 split at h
 ·rename_i c' e; cases h; exact ev_ok hr hx e
 ·cases h
theorem evVs_ok {σ:Sit} {s:St} {a:Act} {ctx:List (Nat×Bool)} (hr:RelT σ s a) (hx:CtxOk a ctx):∀ {l:List Operand} {cs:List SV},evVs s ctx l=some cs→All2 (RepV σ) cs (l.map a.eval)
 | [],_,h=>by simp [evVs] at h; subst h; exact .nil
 | x::r,_,h=>by
  simp only [evVs] at h
  split at h
  ·rename_i v vs h1 h2
   cases h
   exact .cons (evV_ok hr hx h1) (evVs_ok hr hx h2)
  ·cases h
theorem evParts_ok {σ:Sit} {s:St} {a:Act} {ctx:List (Nat×Bool)} (hr:RelT σ s a) (hx:CtxOk a ctx):∀ {l:List (Nat×Operand)} {cs:List (Nat×SV)},evParts s ctx l=some cs →
  All2 (fun p q=>p.1=q.1∧RepV σ p.2 q.2) cs (l.map fun p=>(p.1,a.eval p.2))
 | [],_,h=>by simp [evParts] at h; subst h; exact .nil
 | (i,x)::r,_,h=>by
  simp only [evParts] at h
  split at h
  ·rename_i v vs h1 h2
   cases h
   exact .cons ⟨rfl,evV_ok hr hx h1⟩ (evParts_ok hr hx h2)
  ·cases h
theorem intArg_ok {σ:Sit} {s:St} {a:Act} {ctx:List (Nat×Bool)} (hr:RelT σ s a) (hx:CtxOk a ctx) {x:Operand} {n:Int} (h:intArg s ctx x=some n) :
  ∃ k,a.eval x=.int k n∧k.min≤n∧n≤k.max:=by
 unfold intArg at h
 split at h
 ·rename_i k m e
  cases h
  obtain ⟨h1,h2⟩:=ev1_ok hr hx e
  exact ⟨k,h1,h2⟩
 ·cases h
theorem RepV.cells {σ:Sit} {x:SV} {y:Value} (h:RepV σ x y):All2 (RepC σ) x.cells y.cells.toList:=by
 cases x with
 | one c =>
  have hs:=RepC.scalar h
  have:y.cells=#[y]:=by cases y <;> first | rfl | exact hs.elim
  rw [this]
  exact .cons h .nil
 | agg cs =>
  obtain ⟨ys,rfl,ha⟩:=h
  simpa [Value.cells,SV.cells] using ha
theorem wrap_ok {σ:Sit} (k:IntKind) (n:Int):RepC σ (.v (.int k (k.wrap n))) (.int k (k.wrap n)):=⟨rfl,wrap_within k n⟩
theorem shr_range {k:IntKind} {x:Int} (h:k.min≤x∧x≤k.max) (n:Nat):k.min≤x.fdiv (2^n)∧x.fdiv (2^n)≤k.max:=by
 have hp:(0:Int)<2^n:=Int.pow_pos (by omega)
 have hm:=min_max k
 rw [Int.fdiv_eq_ediv_of_nonneg _ (Int.le_of_lt hp)]
 refine ⟨?_,?_⟩
 ·refine (Int.le_ediv_iff_mul_le hp).2 ?_
  refine Int.le_trans ?_ h.1
  have:=Int.mul_le_mul_of_nonpos_left (a:=k.min) (b:=2^n) (c:=1) hm.1 (by omega)
  omega
 ·rcases Int.le_total 0 x with hx | hx
  ·exact Int.le_trans (Int.ediv_le_self _ hx) h.2
  ·have:x/2^n≤0:=Int.ediv_nonpos_of_nonpos_of_neg hx hp
   omega
theorem tmod_le' {x:Int} (y:Int) (h:0≤x):x.tmod y≤x:=by
 have h1:=Int.natAbs_tmod x y
 have h2:=Nat.mod_le x.natAbs y.natAbs
 omega
theorem tmod_range {k:IntKind} {x y:Int} (h:k.min≤x∧x≤k.max):k.min≤x.tmod y∧x.tmod y≤k.max:=by
 have hm:=min_max k
 rcases Int.le_total 0 x with hx | hx
 ·have h1:=Int.tmod_nonneg y hx
  have h2:x.tmod y≤x:=tmod_le' _ hx
  omega
 ·have h1:x.tmod y≤0:=by
   have:=Int.tmod_nonneg y (a:=-x) (by omega)
   rw [Int.neg_tmod] at this
   omega
  have h2:x≤x.tmod y:=by
   have:=tmod_le' (x:=-x) y (by omega)
   rw [Int.neg_tmod] at this
   omega
  omega
end Vx
namespace Vx
open Go Go.RowKit
theorem run_guard_int {P:Program} {w:World} {op:BinOp} {T:TypeId} {X Y:Operand} {k k':IntKind} {a b:Int} {f:Unit→Sem Value} :
  (eqGuard op T X Y (.int k a) (.int k' b) >>= f).run P w=(f ()).run P w:=by
 cases op <;> rfl
theorem run_guard_bool {P:Program} {w:World} {op:BinOp} {T:TypeId} {X Y:Operand} {a b:Bool} {f:Unit→Sem Value} :
  (eqGuard op T X Y (.bool a) (.bool b) >>= f).run P w=(f ()).run P w:=by
 cases op <;> rfl
theorem run_guard_string {P:Program} {w:World} {op:BinOp} {T:TypeId} {X Y:Operand} {a b:ByteArray} {f:Unit→Sem Value} :
  (eqGuard op T X Y (.string a) (.string b) >>= f).run P w=(f ()).run P w:=by
 cases op <;> rfl
theorem run_guard_float {P:Program} {w:World} {op:BinOp} {T:TypeId} {X Y:Operand} {k k':FloatKind} {a b:Nat} {f:Unit→Sem Value} :
  (eqGuard op T X Y (.float k a) (.float k' b) >>= f).run P w=(f ()).run P w:=by
 cases op <;> rfl
theorem run_eq_bool {P:Program} {w:World} {T:TypeId} {a b:Bool} (h:P.underlying T=some .bool):(Op.equal T (.bool a) (.bool b)).run P w=.ok (a==b) w:=by
 unfold Op.equal Op.maxDepth Op.equalIn
 simp [underlying,h]
theorem bin_int {P:Program} {σ:Sit} {op:BinOp} {T:TypeId} {k k':IntKind} {x y:Int} {r:SC} {w:World}
  (hx:k.min≤x∧x≤k.max) (hy:k'.min≤y∧y≤k'.max) (h:binV op (.v (.int k x)) (.v (.int k' y))=some (true,r)) :
  ∃ v,(binOp op T (.int k x) (.int k' y)).run P w=.ok v w∧RepC σ r v:=by
 have hneg:(match k'.signed with | true=>decide (0≤y) | false=>true)=true→¬ y<0:=fun hg=>by
  cases hs:k'.signed with
  | true=>rw [hs] at hg; simp at hg; omega
  | false =>
   have:k'.min=0:=by simp [IntKind.min,hs]
   omega
 by_cases hop:op=.shl
 ·subst hop
  simp only [binV,Option.some.injEq,Prod.mk.injEq] at h
  obtain ⟨h1,rfl⟩:=h
  exact ⟨_,by simp [binOp,Op.shift,hneg h1],wrap_ok k _⟩
 by_cases hop':op=.shr
 ·subst hop'
  simp only [binV,Option.some.injEq,Prod.mk.injEq] at h
  obtain ⟨h1,rfl⟩:=h
  exact ⟨_,by simp [binOp,Op.shift,hneg h1]; rfl,rfl,shr_range hx _⟩
 by_cases hk:k'=k
 ·subst hk
  cases op <;> simp only [binV,if_pos,Option.some.injEq,Prod.mk.injEq,bne_iff_ne] at h
  case shl=>exact absurd rfl hop
  case shr=>exact absurd rfl hop'
  case quo =>
   obtain ⟨h1,rfl⟩:=h
   exact ⟨_,by simp [binOp,Op.intDiv,h1],wrap_ok k' _⟩
  case rem =>
   obtain ⟨h1,rfl⟩:=h
   exact ⟨_,by simp [binOp,Op.intDiv,h1],rfl,tmod_range hx⟩
  case add=>obtain ⟨_,rfl⟩:=h; exact ⟨_,by simp [binOp,Op.intArith],wrap_ok k' _⟩
  case sub=>obtain ⟨_,rfl⟩:=h; exact ⟨_,by simp [binOp,Op.intArith],wrap_ok k' _⟩
  case mul=>obtain ⟨_,rfl⟩:=h; exact ⟨_,by simp [binOp,Op.intArith],wrap_ok k' _⟩
  case and=>obtain ⟨_,rfl⟩:=h; exact ⟨_,by simp [binOp,Op.intBits],wrap_ok k' _⟩
  case or=>obtain ⟨_,rfl⟩:=h; exact ⟨_,by simp [binOp,Op.intBits],wrap_ok k' _⟩
  case xor=>obtain ⟨_,rfl⟩:=h; exact ⟨_,by simp [binOp,Op.intBits],wrap_ok k' _⟩
  case andNot=>obtain ⟨_,rfl⟩:=h; exact ⟨_,by simp [binOp,Op.intBits],wrap_ok k' _⟩
  case eql=>obtain ⟨_,rfl⟩:=h; exact ⟨_,by simp [binOp,Op.intCmp],rfl,trivial⟩
  case neq=>obtain ⟨_,rfl⟩:=h; exact ⟨_,by simp [binOp,Op.intCmp],rfl,trivial⟩
  case lss=>obtain ⟨_,rfl⟩:=h; exact ⟨_,by simp [binOp,Op.intCmp],rfl,trivial⟩
  case leq=>obtain ⟨_,rfl⟩:=h; exact ⟨_,by simp [binOp,Op.intCmp],rfl,trivial⟩
  case gtr=>obtain ⟨_,rfl⟩:=h; exact ⟨_,by simp [binOp,Op.intCmp],rfl,trivial⟩
  case geq=>obtain ⟨_,rfl⟩:=h; exact ⟨_,by simp [binOp,Op.intCmp],rfl,trivial⟩
 ·cases op <;> simp [binV,hk] at h <;> simp_all
theorem word_lt (k:FloatKind) (neg:Bool) {r:Nat} (h:r<k.format.signWeight):k.format.word neg r<2^fbits k:=by
 cases k
 ·have h:r<2147483648:=h
  show (if neg=true then 2147483648+r else r)<4294967296
  split <;> omega
 ·have h:r<9223372036854775808:=h
  show (if neg=true then 9223372036854775808+r else r)<18446744073709551616
  split <;> omega
theorem inf_lt (k:FloatKind) (n:Nat):k.format.infRung+n%k.format.binade<k.format.signWeight:=by
 cases k
 ·show 2139095040+n%8388608<2147483648
  omega
 ·show 9218868437227405312+n%4503599627370496<9223372036854775808
  omega
theorem write_lt (k:FloatKind) (d:Ieee.Datum):k.format.write d<2^fbits k:=by
 have h0:=inf_lt k 0
 rw [Nat.zero_mod,Nat.add_zero] at h0
 cases d with
 | infinity s=>exact word_lt k s h0
 | nan s t=>exact word_lt k s (inf_lt k t)
 | number s m e =>
  show k.format.nearest s m e<_
  unfold Ieee.Format.nearest
  split
  ·exact word_lt k s (by omega)
  ·exact word_lt k s (Nat.lt_of_le_of_lt (Nat.min_le_right _ _) h0)
theorem nan_cut (k:FloatKind) (x y t:Nat):FRep k none (.float k ((Question.nanBits k x y).cut t)):=by
 refine ⟨_,rfl,?_,?_⟩
 ·cases k
  ·show t%2*2147483648+2139095040+1+t/2%8388607<4294967296
   omega
  ·show t%2*9223372036854775808+9218868437227405312+1+t/2%4503599627370495<18446744073709551616
   omega
 ·cases k
  ·show (Ieee.single.read (t%2*2147483648+2139095040+1+t/2%8388607)).isNaN=true
   unfold Ieee.Format.read
   have e:(t%2*2147483648+2139095040+1+t/2%8388607)%Ieee.single.signWeight=2139095040+1+t/2%8388607:=by
    show (t%2*2147483648+2139095040+1+t/2%8388607)%2147483648=_
    omega
   have h1:¬ (2139095040+1+t/2%8388607<Ieee.single.binade):=by
    show ¬ (2139095040+1+t/2%8388607<8388608)
    omega
   have h2:¬ (2139095040+1+t/2%8388607<Ieee.single.infRung):=by
    show ¬ (2139095040+1+t/2%8388607<2139095040)
    omega
   have h3:¬ (2139095040+1+t/2%8388607=Ieee.single.infRung):=by
    show ¬ (2139095040+1+t/2%8388607=2139095040)
    omega
   dsimp only
   rw [e,if_neg h1,if_neg h2,if_neg h3]
   rfl
  ·show (Ieee.double.read (t%2*9223372036854775808+9218868437227405312+1+t/2%4503599627370495)).isNaN=true
   unfold Ieee.Format.read
   have e:(t%2*9223372036854775808+9218868437227405312+1+t/2%4503599627370495)%Ieee.double.signWeight=9218868437227405312+1+t/2%4503599627370495:=by
    show (t%2*9223372036854775808+9218868437227405312+1+t/2%4503599627370495)%9223372036854775808=_
    omega
   have h1:¬ (9218868437227405312+1+t/2%4503599627370495<Ieee.double.binade):=by
    show ¬ (9218868437227405312+1+t/2%4503599627370495<4503599627370496)
    omega
   have h2:¬ (9218868437227405312+1+t/2%4503599627370495<Ieee.double.infRung):=by
    show ¬ (9218868437227405312+1+t/2%4503599627370495<9218868437227405312)
    omega
   have h3:¬ (9218868437227405312+1+t/2%4503599627370495=Ieee.double.infRung):=by
    show ¬ (9218868437227405312+1+t/2%4503599627370495=9218868437227405312)
    omega
   dsimp only
   rw [e,if_neg h1,if_neg h2,if_neg h3]
   rfl
theorem nan_of {d:Ieee.Datum} (h:d.isNaN=true):∃ s t,d=.nan s t:=by
 cases d with
 | nan s t=>exact ⟨s,t,rfl⟩
 | _=>cases h
def isArith:BinOp→Bool
 | .add | .sub | .mul | .quo=>true
 | _=>false
theorem fop_nan {op:BinOp} {k:FloatKind} {a b:Nat} (h:(k.format.read a).isNaN=true∨(k.format.read b).isNaN=true):fop op k a b=none:=by
 have key:k.format.add a b=none∧k.format.sub a b=none∧k.format.mul a b=none∧k.format.div a b=none:=by
  unfold Ieee.Format.add Ieee.Format.sub Ieee.Format.mul Ieee.Format.div
  rcases h with h | h
  ·obtain ⟨s,t,e⟩:=nan_of h
   rw [e]
   exact ⟨rfl,rfl,rfl,rfl⟩
  ·obtain ⟨s,t,e⟩:=nan_of h
   rw [e]
   cases k.format.read a <;> exact ⟨rfl,rfl,rfl,rfl⟩
 unfold fop
 split
 ·exact key.1
 ·exact key.2.1
 ·exact key.2.2.1
 ·exact key.2.2.2
theorem fop_lt {op:BinOp} {k:FloatKind} {a b r:Nat} (h:fop op k a b=some r):r<2^fbits k:=by
 have key:∀ {o:Option Ieee.Datum},o.map k.format.write=some r→r<2^fbits k:=fun {o} h=>by
  cases o with
  | none=>cases h
  | some d=>cases h; exact write_lt k d
 unfold fop at h
 split at h
 ·exact key h
 ·exact key h
 ·exact key h
 ·exact key h
theorem flop_eq {op:BinOp} {k:FloatKind} {x y:Option Nat} {a b:Nat} (h1:match x with | some b'=>a=b' | none=>(k.format.read a).isNaN=true) (h2:match y with | some b'=>b=b' | none=>(k.format.read b).isNaN=true) :
  flop op k x y=fop op k a b:=by
 cases x with
 | none=>rw [fop_nan (.inl h1)]; rfl
 | some x =>
  cases y with
  | none=>rw [fop_nan (.inr h2)]; rfl
  | some y=>simp only at h1 h2; subst h1; subst h2; rfl
theorem arith_ok {P:Program} {op:BinOp} {k:FloatKind} {a b:Nat} {w:World} (hop:isArith op=true) :
  ∃ v n,(Op.floatArith op k a b).run P w=.ok v { w with drawn:=n }∧FRep k (fop op k a b) v:=by
 have key:∀ o:Option Nat,(∀ r,o=some r→r<2^fbits k)→∃ v n,(match o with | some r=>pure (.float k r) | none=>(do pure (.float k (← choose (.nanBits k a b)))):Sem Value).run P w=.ok v { w with drawn:=n }∧FRep k o v:=by
  intro o ho
  cases o with
  | some r=>exact ⟨_,w.drawn,rfl,_,rfl,ho r rfl,rfl⟩
  | none=>exact ⟨_,w.drawn+1,rfl,nan_cut k a b _⟩
 have hlt:∀ r,fop op k a b=some r→r<2^fbits k:=fun r h=>fop_lt h
 cases op <;> first | (cases hop; done) | exact key _ hlt
theorem binV_ok {P:Program} {σ:Sit} {op:BinOp} {T:TypeId} {X Y:Operand} {c d r:SC} {y z:Value} {w:World} (hT:isBoolT P T=true∨∀ b,c≠.v (.bool b))
  (hc:RepC σ c y) (hd:RepC σ d z) (h:binV op c d=some (true,r)) :
  ∃ v n,(do eqGuard op T X Y y z; binOp op T y z:Sem Value).run P w=.ok v { w with drawn:=n }∧RepC σ r v:=by
 have plain:(∃ v,(do eqGuard op T X Y y z; binOp op T y z:Sem Value).run P w=.ok v w∧RepC σ r v)→∃ v n,(do eqGuard op T X Y y z; binOp op T y z:Sem Value).run P w=.ok v { w with drawn:=n }∧RepC σ r v :=
  fun ⟨v,h1,h2⟩=>⟨v,w.drawn,h1,h2⟩
 unfold binV at h
 split at h
 ·rename_i k x k' y'
  obtain ⟨rfl,hx⟩:=hc
  obtain ⟨rfl,hy⟩:=hd
  obtain ⟨v,h1,h2⟩:=bin_int (P:=P) (σ:=σ) (T:=T) (w:=w) hx hy h
  exact plain ⟨v,by rw [run_guard_int]; exact h1,h2⟩
 ·rename_i x y'
  obtain ⟨rfl,_⟩:=hc
  obtain ⟨rfl,_⟩:=hd
  have hT':P.underlying T=some .bool:=by
   rcases hT with h1 | h1
   ·unfold isBoolT at h1; split at h1
    ·assumption
    ·cases h1
   ·exact absurd rfl (h1 x)
  cases op <;> simp only [Option.some.injEq,Prod.mk.injEq,reduceCtorEq] at h
  case eql=>obtain ⟨_,rfl⟩:=h; exact plain ⟨_,by rw [run_guard_bool]; simp only [binOp,Sem.run_bind,run_eq_bool hT',Result.andThen_ok,Sem.run_pure],rfl,trivial⟩
  case neq=>obtain ⟨_,rfl⟩:=h; exact plain ⟨_,by rw [run_guard_bool]; simp only [binOp,Sem.run_bind,run_eq_bool hT',Result.andThen_ok,Sem.run_pure],rfl,trivial⟩
 ·rename_i x y'
  obtain ⟨rfl,_⟩:=hc
  obtain ⟨rfl,_⟩:=hd
  cases op <;> simp only [Option.some.injEq,Prod.mk.injEq,reduceCtorEq] at h
  case eql=>obtain ⟨_,rfl⟩:=h; exact plain ⟨_,by rw [run_guard_string]; rfl,rfl,trivial⟩
  case neq=>obtain ⟨_,rfl⟩:=h; exact plain ⟨_,by rw [run_guard_string]; rfl,rfl,trivial⟩
 ·rename_i k x k' y'
  obtain ⟨b1,rfl,_,h1⟩:=hc
  obtain ⟨b2,rfl,_,h2⟩:=hd
  by_cases hk:k'=k
  ·subst hk
   have ho:k'.format.order b1 b2=flord k' x y':=by
    cases x with
    | none =>
     simp only [flord]
     unfold Ieee.Format.order
     cases hq:k'.format.read b1 <;> rw [hq] at h1 <;> first | (simp [Ieee.Datum.isNaN] at h1; done) | rfl
    | some x =>
     simp only at h1; subst h1
     cases y' with
     | none =>
      simp only [flord]
      unfold Ieee.Format.order
      cases hq:k'.format.read b2 <;> rw [hq] at h2 <;> first | (simp [Ieee.Datum.isNaN] at h2; done) | (cases k'.format.read b1 <;> rfl)
     | some y'=>simp only at h2; subst h2; rfl
   have hr:∀ op',op'=op→(binOp op T (.float k' b1) (.float k' b2))=(match op' with | .add | .sub | .mul | .quo=>Op.floatArith op' k' b1 b2 | _=>Op.floatCmp op' k' b1 b2):=fun op' e=>by
    subst e; cases op' <;> simp [binOp]
   cases op <;> simp only [if_pos,Option.some.injEq,Prod.mk.injEq,reduceCtorEq] at h
   all_goals obtain ⟨_,rfl⟩:=h
   case add=>obtain ⟨v,n,g1,g2⟩:=arith_ok (P:=P) (op:=.add) (k:=k') (a:=b1) (b:=b2) (w:=w) rfl; exact ⟨v,n,by rw [run_guard_float,hr _ rfl]; exact g1,by rw [flop_eq h1 h2]; exact g2⟩
   case sub=>obtain ⟨v,n,g1,g2⟩:=arith_ok (P:=P) (op:=.sub) (k:=k') (a:=b1) (b:=b2) (w:=w) rfl; exact ⟨v,n,by rw [run_guard_float,hr _ rfl]; exact g1,by rw [flop_eq h1 h2]; exact g2⟩
   case mul=>obtain ⟨v,n,g1,g2⟩:=arith_ok (P:=P) (op:=.mul) (k:=k') (a:=b1) (b:=b2) (w:=w) rfl; exact ⟨v,n,by rw [run_guard_float,hr _ rfl]; exact g1,by rw [flop_eq h1 h2]; exact g2⟩
   case quo=>obtain ⟨v,n,g1,g2⟩:=arith_ok (P:=P) (op:=.quo) (k:=k') (a:=b1) (b:=b2) (w:=w) rfl; exact ⟨v,n,by rw [run_guard_float,hr _ rfl]; exact g1,by rw [flop_eq h1 h2]; exact g2⟩
   all_goals refine plain ⟨_,by rw [run_guard_float,hr _ rfl]; simp only [Op.floatCmp,ho]; rfl,rfl,trivial⟩
  ·rw [if_neg hk] at h; cases h
 ·cases h
theorem unV_ok {P:Program} {σ:Sit} {op:UnOp} {c r:SC} {y:Value} {w:World} (hc:RepC σ c y) (h:unV op c=some r) :
  ∃ v,(Op.unary op y).run P w=.ok v w∧RepC σ r v:=by
 unfold unV at h
 split at h
 ·obtain ⟨rfl,hx⟩:=hc
  split at h
  ·cases h; exact ⟨_,by simp [Op.unary,Op.intArith],wrap_ok _ _⟩
  ·cases h; exact ⟨_,by simp [Op.unary,Op.intBits],wrap_ok _ _⟩
  ·cases h
 ·obtain ⟨rfl,hx⟩:=hc
  split at h
  ·cases h; exact ⟨_,by simp [Op.unary],rfl,trivial⟩
  ·cases h
 ·cases h
theorem run_part1 {P:Program} {w:World} {T:TypeId} {xs:Array Value} {o:Nat} {v:Value} (hT:(∃ k,P.underlying T=some (.int k))∨P.underlying T=some .bool) (h:xs[o]? = some v) :
  (part T xs o).run P w=.ok v w:=by
 unfold part isAgg
 rcases hT with ⟨k,hT⟩ | hT <;> simp [underlying,hT,h]
theorem eqFlds_ok {P:Program} {σ:Sit} {w:World} {d:Nat}:∀ (fs:List Field) (n:Nat) (as bs:List SC) (xs ys:List Value) (r:Bool) (px py:List Value),px.length=n→py.length=n →
  All2 (RepC σ) as xs→All2 (RepC σ) bs ys→eqFlds P n fs as bs=some r→(Op.eqFields (d+1) (px++xs).toArray (py++ys).toArray fs).run P w=.ok r w
 | [],n,[],[],_,_,r,px,py,_,_,_,_,h=>by
  simp only [eqFlds] at h; cases h
  simp [Op.eqFields]
 | [],n,_::_,_,_,_,r,px,py,_,_,_,_,h=>by simp [eqFlds] at h
 | [],n,[],_::_,_,_,r,px,py,_,_,_,_,h=>by simp [eqFlds] at h
 | f::fs,n,[],_,_,_,r,px,py,_,_,_,_,h=>by simp [eqFlds] at h
 | f::fs,n,_::_,[],_,_,r,px,py,_,_,_,_,h=>by simp [eqFlds] at h
 | f::fs,n,a::as,b::bs,_,_,r,px,py,hx,hy,.cons (b:=u) (bs:=xs) ha ta,.cons (b:=v) (bs:=ys) hb tb,h=>by
  simp only [eqFlds] at h
  cases hc : (Nat.beq f.offset n && f.name != "_") with
  | false=>rw [hc] at h; cases h
  | true =>
   rw [hc] at h
   simp only [Bool.and_eq_true,bne_iff_ne] at hc
   obtain ⟨h1,h2⟩:=hc
   have h1:f.offset=n:=Nat.eq_of_beq_eq_true h1
   simp only [cond_true] at h
   split at h
   ·rename_i x r' e1 e2
    have ih:=eqFlds_ok (P:=P) (σ:=σ) (w:=w) (d:=d) fs (n+1) as bs xs ys r' (px++[u]) (py++[v]) (by simp [hx]) (by simp [hy]) ta tb e2
    simp only [List.append_assoc,List.singleton_append] at ih
    have gx:(px++u::xs).toArray[f.offset]? = some u:=by rw [h1,← hx]; simp
    have gy:(py++v::ys).toArray[f.offset]? = some v:=by rw [h1,← hy]; simp
    have hcell:(∃ k,P.underlying f.type=some (.int k))∨P.underlying f.type=some .bool:=by
     unfold eqCell at e1
     split at e1
     ·split at e1
      ·rename_i k e; exact .inl ⟨k,e⟩
      ·cases e1
     ·split at e1
      ·rename_i e; exact .inr e
      ·cases e1
     ·cases e1
    have heq:(Op.equalIn (d+1) f.type u v).run P w=.ok x w:=by
     unfold eqCell at e1
     split at e1
     ·split at e1
      ·rename_i k1 x1 k2 y1 _ kk e
       split at e1
       ·rename_i hk
        subst hk
        cases e1
        obtain ⟨rfl,_⟩:=ha
        obtain ⟨rfl,_⟩:=hb
        exact run_equalIn_int w d _ _ _ _ _ e
       ·cases e1
      ·cases e1
     ·split at e1
      ·rename_i x1 y1 _ e
       cases e1
       obtain ⟨rfl,_⟩:=ha
       obtain ⟨rfl,_⟩:=hb
       exact run_equalIn_bool' w d _ _ _ e
      ·cases e1
     ·cases e1
    have hr:r=(x&&r'):=by
     cases fs with
     | nil =>
      simp only at h; cases h
      cases as <;> cases bs <;> simp [eqFlds] at e2
      subst e2; simp
     | cons _ _=>simp only at h; cases h; rfl
    simp only [Op.eqFields,if_pos h2,Sem.run_bind,run_part1 hcell gx,run_part1 hcell gy,Result.andThen_ok,heq]
    rw [hr]
    cases x
    ·simp
    ·simpa using ih
   ·cases h
theorem eqAgg_ok {P:Program} {σ:Sit} {w:World} {T:TypeId} {X Y:Operand} {fs:Array Field} {a b:List SC} {y z:Value} {r:Bool} (hT:P.underlying T=some (.struct fs))
  (h1:P.eqGuardType P.depth T=false) (h2:P.stoodInHeld T=false) (ha:RepV σ (.agg a) y) (hb:RepV σ (.agg b) z) (h:eqFlds P 0 fs.toList a b=some r) :
  (do eqGuard .eql T X Y y z; binOp .eql T y z:Sem Value).run P w=.ok (.bool r) w∧(do eqGuard .neq T X Y y z; binOp .neq T y z:Sem Value).run P w=.ok (.bool !r) w:=by
 obtain ⟨xs,rfl,ha⟩:=ha
 obtain ⟨ys,rfl,hb⟩:=hb
 have he:(Op.equal T (.agg xs.toArray) (.agg ys.toArray)).run P w=.ok r w:=by
  unfold Op.equal Op.maxDepth
  rw [run_equalIn_struct w 9999 T _ _ (by simp [Program.fieldsOf,hT]) h2]
  have hf:P.fieldsOf T=fs:=by simp [Program.fieldsOf,hT]
  rw [hf]
  have:=eqFlds_ok (P:=P) (σ:=σ) (w:=w) (d:=9998) fs.toList 0 a b xs ys r [] [] rfl rfl ha hb h
  simpa using this
 constructor
 ·simp [eqGuard,binOp,h1,he]
 ·simp [eqGuard,binOp,h1,he]
end Vx
namespace Vx
open Go Go.RowKit
theorem takeN_eq:∀ {n:Nat} {l r:List SC},takeN n l=some r→r=l.take n∧n≤l.length
 | 0,l,r,h=>by simp [takeN] at h; subst h; simp
 | n+1,[],r,h=>by simp [takeN] at h
 | n+1,c::l,r,h=>by
  simp only [takeN] at h
  split at h
  ·rename_i l' e
   cases h
   obtain ⟨h1,h2⟩:=takeN_eq e
   exact ⟨by simp [h1],by simp; omega⟩
  ·cases h
theorem dropN_eq:∀ {n:Nat} {l:List SC},dropN n l=l.drop n
 | 0,l=>by simp [dropN]
 | n+1,[]=>by simp [dropN]
 | n+1,c::l=>by simp [dropN,dropN_eq]
theorem lenIs_eq:∀ {n:Nat} {l:List SC},lenIs n l=true→l.length=n
 | 0,[],_=>rfl
 | 0,_::_,h=>by simp [lenIs] at h
 | n+1,[],h=>by simp [lenIs] at h
 | n+1,c::l,h=>by simp only [lenIs] at h; simp [lenIs_eq h]
theorem All2.take {α β:Type} {R:α→β→Prop}:∀ {as:List α} {bs:List β} (n:Nat),All2 R as bs→All2 R (as.take n) (bs.take n)
 | _,_,0,_=>by simp; exact .nil
 | _,_,n+1,.nil=>by simp; exact .nil
 | _,_,n+1,.cons h t=>by simpa using .cons h (t.take n)
theorem All2.drop {α β:Type} {R:α→β→Prop}:∀ {as:List α} {bs:List β} (n:Nat),All2 R as bs→All2 R (as.drop n) (bs.drop n)
 | _,_,0,h=>by simpa using h
 | _,_,n+1,.nil=>by simp; exact .nil
 | _,_,n+1,.cons h t=>by simpa using t.drop n
theorem splice_eq:∀ {n:Nat} {new old r:List SC},splice n new old=some r→r=old.take n++new++old.drop (n+new.length)∧n+new.length≤old.length
 | 0,[],old,r,h=>by simp [splice] at h; subst h; simp
 | 0,_::_,[],r,h=>by simp [splice] at h
 | 0,c::new,_::old,r,h=>by
  simp only [splice] at h
  split at h
  ·rename_i l e
   cases h
   obtain ⟨h1,h2⟩:=splice_eq e
   refine ⟨?_,by simp; omega⟩
   simp at h1
   simp [h1]
  ·cases h
 | n+1,[],[],r,h=>by simp [splice] at h
 | n+1,_::_,[],r,h=>by simp [splice] at h
 | n+1,new,c::old,r,h=>by
  simp only [splice] at h
  split at h
  ·rename_i l e
   cases h
   obtain ⟨h1,h2⟩:=splice_eq e
   refine ⟨?_,by simp; omega⟩
   rw [h1]
   simp [show n+1+new.length=(n+new.length)+1 by omega]
  ·cases h
theorem putAt_toList:∀ (l:List Value) (vs:Array Value) (o:Nat),o+l.length≤vs.size→(putAt vs o l).toList=vs.toList.take o++l++vs.toList.drop (o+l.length)
 | [],vs,o,_=>by simp [putAt]
 | v::l,vs,o,h=>by
  simp only [List.length_cons] at h
  rw [putAt,putAt_toList l _ (o+1) (by simp; omega)]
  simp only [Array.toList_setIfInBounds]
  have h1:(vs.toList.set o v).take (o+1)=vs.toList.take o++[v]:=by
   rw [List.take_set,List.take_succ_eq_append_getElem (by simp; omega)]
   rw [List.set_append_right _ _ (by simp; omega)]
   simp [Nat.min_eq_left (show o≤vs.size by omega)]
  have h2:(vs.toList.set o v).drop (o+1+l.length)=vs.toList.drop (o+(v::l).length):=by
   rw [List.drop_set_of_lt (by omega)]
   simp [show o+1+l.length=o+(l.length+1) by omega]
  rw [h1,h2]
  simp
theorem All2.splice {R:SC→Value→Prop} {n:Nat} {new old r:List SC} {vs:Array Value} {ys:List Value} (h:Vx.splice n new old=some r) (ho:All2 R old vs.toList) (hn:All2 R new ys) :
  All2 R r (putAt vs n ys).toList∧n+ys.length≤vs.size:=by
 obtain ⟨h1,h2⟩:=splice_eq h
 have l1:=hn.length
 have l2:=ho.length
 have hle:n+ys.length≤vs.size:=by simp at l2; omega
 refine ⟨?_,hle⟩
 rw [putAt_toList _ _ _ hle,h1,← l1]
 exact ((ho.take n).append hn).append (ho.drop _)
theorem foldl_putAt:∀ (l:List Value) (k:Nat) (cs:Array Value) (off:Nat),(l.zipIdx k).foldl (fun cs p=>cs.setIfInBounds (off+p.2) p.1) cs=putAt cs (off+k) l
 | [],_,_,_=>rfl
 | v::l,k,cs,off=>by
  simp only [List.zipIdx_cons,List.foldl_cons,putAt]
  rw [foldl_putAt l (k+1) _ off]
  rfl
theorem fill_ok {R:SC→Value→Prop} (place:Nat→Option (Nat×Nat)):∀ {ps:List (Nat×SV)} {qs:List (Nat×Value)} {old r:List SC} {vs:Array Value},svSplice place ps old=some r→All2 R old vs.toList →
  All2 (fun p q=>p.1=q.1∧All2 R p.2.cells q.2.cells.toList) ps qs→∃ vs',Instr.fill place vs qs=some vs'∧All2 R r vs'.toList
 | [],_,old,r,vs,h,ho,.nil=>by
  simp only [svSplice] at h; cases h
  exact ⟨vs,rfl,ho⟩
 | (i,x)::ps,_,old,r,vs,h,ho,.cons (b:=(i',y)) hp ht=>by
  obtain ⟨rfl,hp⟩:=hp
  simp only [svSplice] at h
  cases hpl:place i with
  | none=>rw [hpl] at h; cases h
  | some q =>
   obtain ⟨off,size⟩:=q
   rw [hpl] at h
   simp only at h
   cases hl:lenIs size x.cells with
   | false=>rw [hl] at h; cases h
   | true =>
    rw [hl] at h
    simp only [cond_true] at h
    split at h
    ·rename_i old' e
     have hx:=lenIs_eq hl
     have hle:=All2.length hp
     obtain ⟨h1,h2⟩:=All2.splice e ho hp
     have hsz:y.cells.size=size:=by simp at hle; omega
     have hfold:y.cells.zipIdx.foldl (fun cs (c,j)=>cs.setIfInBounds (off+j) c) vs=putAt vs off y.cells.toList:=by
      rw [← Array.foldl_toList,Array.toList_zipIdx]
      exact foldl_putAt y.cells.toList 0 vs off
     obtain ⟨vs',h3,h4⟩:=fill_ok place h h1 ht
     refine ⟨vs',?_,h4⟩
     simp only [Instr.fill,hpl]
     rw [if_neg (by simp at h2; simp [hsz]; omega)]
     rw [hfold]
     exact h3
    ·cases h
theorem zeroSV_ok {P:Program} {σ:Sit} {T:TypeId} {x:SV} (h:zeroSV P T=some x):∃ z,RepV σ x z∧∀ w,(zeroValue T).run P w=.ok z w:=by
 unfold zeroSV at h
 split at h
 ·rename_i i e
  split at h
  ·rename_i z e2
   exact ⟨z,svOfConst_ok h,fun w=>by simp [zeroValue,typeInfo,e,e2]⟩
  ·cases h
 ·cases h
theorem run_und {P:Program} {T:TypeId} {d:TypeDesc} (h:P.underlying T=some d) (w:World):(underlying T).run P w=.ok d w:=by
 simp [underlying,h]
theorem aggT_ok {P:Program} {T:TypeId} {b:Bool} (h:aggT P T=some b) (w:World):(isAgg T).run P w=.ok b w:=by
 unfold aggT at h
 unfold isAgg
 split at h
 ·rename_i e; cases h; simp [underlying,e]
 ·rename_i e; cases h; simp [underlying,e]
 ·rename_i d e1 e2 e3
  cases h
  simp only [Sem.run_bind,run_und e3,Result.andThen_ok]
  cases d <;> first | rfl | exact absurd e3 (e1 _) | exact absurd e3 (e2 _ _)
 ·cases h
theorem run_size {P:Program} {T:TypeId} {w:World} (h:∃ i,P.info? T=some i):(Go.sizeOf T).run P w=.ok (P.cellsOf T) w:=by
 obtain ⟨i,h⟩:=h
 simp [Go.sizeOf,typeInfo,h,Program.cellsOf]
theorem info_of_und {P:Program} {T:TypeId} {d:TypeDesc} (h:P.underlying T=some d):∃ i,P.info? T=some i:=by
 unfold Program.underlying at h
 cases e:P.info? T with
 | some i=>exact ⟨i,rfl⟩
 | none=>rw [e] at h; cases h
theorem aggT_und {P:Program} {T:TypeId} {b:Bool} (h:aggT P T=some b):∃ d,P.underlying T=some d:=by
 unfold aggT at h
 split at h
 ·exact ⟨_,by assumption⟩
 ·exact ⟨_,by assumption⟩
 ·exact ⟨_,by assumption⟩
 ·cases h
def Lies (σ:Sit) (cs:List SC) (off:Nat) (y:Value):Prop :=
 ∃ r o vs T fz ds,y=.pointer (some ⟨r,o+off,none⟩)∧σ.w.heap[r]? = some (.cells vs T fz)∧All2 (RepC σ) cs ds∧∀ (j:Nat) (d:Value),ds[j]? = some d→vs[o+j]? = some d
theorem cellsAt_ok {base:Base} {S0:Nat→Prop} {σ:Sit} (ho:Ok base S0 σ) {c:SC} {y:Value} {cs:List SC} {off:Nat} (hc:RepC σ c y) (h:cellsAt σ.mem c=some (cs,off)):Lies σ cs off y:=by
 unfold cellsAt at h
 split at h
 ·rename_i b off'
  split at h
  ·rename_i cs' e
   cases h
   obtain ⟨_,_,hm⟩:=hc
   rw [e] at hm
   obtain ⟨r,hr,rfl⟩:=hm
   have he:=ho.ent b
   unfold MemAt at he
   rw [e] at he
   obtain ⟨r',vs,T,h1,h2,h3⟩:=he
   rw [hr] at h1; cases h1
   exact ⟨r,0,vs,T,(0,0),vs.toList,by simp,h2,h3,fun j d hj=>by simpa using hj⟩
  ·cases h
 ·rename_i b i off'
  split at h
  ·rename_i τ xs e
   cases h
   obtain ⟨_,_,hm⟩:=hc
   rw [e] at hm
   obtain ⟨hi,r,hr,rfl⟩:=hm
   obtain ⟨_,_,vs,T,h2,h3,h4⟩:=arr_at (ho.ent b) e hr
   have hx:xs[i]? = some (xs.getD i τ.dflt):=by
    rw [List.getD_eq_getElem?_getD,List.getElem?_eq_getElem hi]; rfl
   obtain ⟨ds,d1,d2⟩:=h4 i _ hx
   exact ⟨r,i*τ.width,vs,T,(0,0),ds,rfl,h2,cellsOf_rep d1,fun j d hj=>by simpa using d2 j d hj⟩
  ·cases h
 ·rename_i τ x off'
  cases h
  obtain ⟨r,o,vs,T,fz,ds,rfl,_,h2,h3,h4⟩:=hc
  exact ⟨r,o,vs,T,fz,ds,rfl,h2,cellsOf_rep h3,h4⟩
 ·cases h
theorem load_agg {P:Program} {σ:Sit} {T:TypeId} {cs l:List SC} {off:Nat} {y:Value} (hl:Lies σ cs off y) (hT:aggT P T=some true) (h:takeN (P.cellsOf T) (dropN off cs)=some l) :
  ∃ v,(Instr.loadAt T y).run P σ.w=.ok v σ.w∧RepV σ (.agg l) v:=by
 obtain ⟨r,o,vs,T',fz,ds,rfl,h2,h3,h4⟩:=hl
 obtain ⟨h5,h6⟩:=takeN_eq h
 rw [dropN_eq] at h5 h6
 have hlen:=h3.length
 have hn:P.cellsOf T≤(ds.drop off).length:=by simp at h6 ⊢; omega
 have hcells:=run_loadCells_list (P:=P) (w:=σ.w) ⟨r,o+off,none⟩ ((ds.drop off).take (P.cellsOf T)) (fun j v hj=>by
  rw [addr_add,cell_of h2]
  have hj':=(List.getElem?_eq_some_iff.1 hj).1
  rw [List.getElem?_take_of_lt (by simp at hj'; omega),List.getElem?_drop] at hj
  rw [Nat.add_assoc]
  exact h4 _ _ hj)
 rw [show ((ds.drop off).take (P.cellsOf T)).length=P.cellsOf T by rw [List.length_take]; omega] at hcells
 refine ⟨.agg ((ds.drop off).take (P.cellsOf T)).toArray,?_,⟨_,rfl,?_⟩⟩
 ·unfold Instr.loadAt loadVar Instr.sureAddr
  obtain ⟨d,hd⟩:=aggT_und hT
  simp [aggT_ok hT,run_size (info_of_und hd),hcells]
 ·rw [h5]; exact (h3.drop off).take _
theorem load_one {P:Program} {σ:Sit} {T:TypeId} {cs l:List SC} {c:SC} {off:Nat} {y:Value} (hl:Lies σ cs off y) (hT:aggT P T=some false) (h:dropN off cs=c::l) :
  ∃ v,(Instr.loadAt T y).run P σ.w=.ok v σ.w∧RepC σ c v:=by
 obtain ⟨r,o,vs,T',fz,ds,rfl,h2,h3,h4⟩:=hl
 rw [dropN_eq] at h
 have hc:cs[off]? = some c:=by
  have:=congrArg (fun l=>l[0]?) h
  simpa using this
 obtain ⟨v,hv,hR⟩:=h3.get hc
 refine ⟨v,?_,hR⟩
 unfold Instr.loadAt loadVar Instr.sureAddr
 have:σ.w.cell? ⟨r,o+off,none⟩=some v:=by rw [cell_of h2]; exact h4 off v hv
 simp [aggT_ok hT,this]
end Vx
namespace Vx
open Go Go.RowKit
def accB:Blk→Prop
 | .acc _ _=>True
 | _=>False
structure Moves (f:SC→SC) (σ σ':Sit):Prop where
 stab:∀ r,σ.S r→σ'.S r
 heap:∀ r,σ.S r→σ'.w.heap[r]? = σ.w.heap[r]?
 rep:∀ c y,RepC σ c y→RepC σ' (f c) y
 len:σ.mem.length≤σ'.mem.length
 noacc:∀ b,b<σ.mem.length→accB (blkAt σ'.mem b)→accB (blkAt σ.mem b)
theorem Goes.noacc {σ σ':Sit} (h:Goes σ σ') (b:Nat) (hb:b<σ.mem.length) (ha:accB (blkAt σ'.mem b)):accB (blkAt σ.mem b):=by
 have ht:=h.turns b hb
 unfold Turns at ht
 cases e:blkAt σ.mem b with
 | gone=>rw [e] at ht; simp only at ht; rw [ht] at ha; exact ha
 | raw cs=>rw [e] at ht; rcases ht with ⟨_,cs',h2⟩ | h2 <;> (rw [h2] at ha; exact ha)
 | arr τ xs =>
  rw [e] at ht
  rcases ht with ⟨_,_,xs',h2,_⟩ | ⟨xs',h2,_⟩ | h2
  ·rw [h2] at ha; exact ha
  ·rw [h2] at ha; exact ha
  ·rw [h2] at ha; exact ha
 | acc τ xs=>trivial
 | froz τ xs=>rw [e] at ht; simp only at ht; rw [ht] at ha; exact ha
theorem Goes.moves {σ σ':Sit} (h:Goes σ σ'):Moves id σ σ':=⟨h.stab,h.heap,fun _ _=>h.repC,h.len,h.noacc⟩
def Good (C:Cfg) (base:Base) (S0:Nat→Prop) (f:SC→SC) (σ:Sit) (a:Act) (o:Oper) (x:TV) (mem':Mem):Prop :=
 ∀ (K:Act→World→Prop) (Q:Exit→Act→World→Prop),
  (∀ (v:Value) (σ':Sit),Ok base S0 σ'→Moves f σ σ'→σ'.mem=mem'→RepT σ' x v→K (a.put o.dst v) σ'.w)→o.wp C.P a σ.w K Q
theorem good_at {C:Cfg} {base:Base} {S0:Nat→Prop} {f:SC→SC} {σ σ':Sit} {a:Act} {o:Oper} {x:TV} {mem':Mem} {v:Value}
  (hex:(execOp a.eval o).run C.P σ.w=.ok (.value v) σ'.w) (ho:Ok base S0 σ') (hm:Moves f σ σ') (hmem:σ'.mem=mem') (hr:RepT σ' x v):Good C base S0 f σ a o x mem':=by
 intro K Q hK
 unfold Oper.wp
 rw [hex]
 exact hK v σ' ho hm hmem hr
theorem good_skip {C:Cfg} {base:Base} {S0:Nat→Prop} {f:SC→SC} {σ σ':Sit} {a:Act} {o:Oper} {x:TV} {mem':Mem}
  (hex:(execOp a.eval o).run C.P σ.w=.ok .skip σ'.w) (ho:Ok base S0 σ') (hm:Moves f σ σ') (hmem:σ'.mem=mem') (hr:RepT σ' x undef):Good C base S0 f σ a o x mem':=by
 intro K Q hK
 unfold Oper.wp
 rw [hex]
 exact hK undef σ' ho hm hmem hr
theorem run_v {P:Program} {s:Sem Value} {w w':World} {v:Value} (h:s.run P w=.ok v w'):(do pure (Next.value (← s)):Sem Next).run P w=.ok (.value v) w':=by
 simp [h]
variable {C:Cfg} {base:Base} {S0:Nat→Prop} {σ:Sit} {s:St} {a:Act} {ctx:List (Nat×Bool)} {o:Oper}
theorem pick_ok (hr:RelT σ s a) (hx:CtxOk a ctx) {t:Nat} {A B:Operand} {cb x y:Bool} (hc:ev1 s ctx (.tmp t)=some (.v (.bool cb))) (hA:ev1 s ((t,true)::ctx) A=some (.v (.bool x)))
  (hB:ev1 s ((t,false)::ctx) B=some (.v (.bool y))):a.eval (.tmp t)=.bool cb∧(if cb then a.eval A else a.eval B)=.bool (bif cb then x else y):=by
 have h1:a.eval (.tmp t)=.bool cb:=(ev1_ok hr hx hc).1
 refine ⟨h1,?_⟩
 have hctx:∀ b,cb=b→CtxOk a ((t,b)::ctx):=fun b hb t' p hm=>by
  rcases List.mem_cons.1 hm with h | h
  ·cases h; rw [← hb]; exact h1
  ·exact hx t' p h
 cases cb with
 | true=>exact (ev1_ok hr (hctx true rfl) hA).1
 | false=>exact (ev1_ok hr (hctx false rfl) hB).1
theorem heap_alloc_new {w:World} {o:Obj}:(w.alloc o).heap[w.heap.size]? = some o:=by
 show (w.heap.push o)[w.heap.size]? = _
 simp
theorem raw_push (ho:Ok base S0 σ) {T:TypeId} {x:SV} {z:Value} (hz:RepV σ x z):Ok base S0 (σ.push (.raw x.cells) (.cells z.cells T) 0)∧Goes σ (σ.push (.raw x.cells) (.cells z.cells T) 0) ∧
  RepC (σ.push (.raw x.cells) (.cells z.cells T) 0) (.ptr σ.mem.length 0) (.pointer (some ⟨σ.w.heap.size,0,none⟩)):=by
 have hg:=push_goes ho (.raw x.cells) (.cells z.cells T) 0
 have hblk:blkAt (σ.push (.raw x.cells) (.cells z.cells T) 0).mem σ.mem.length=.raw x.cells:=blkAt_append_at
 have hheap:(σ.push (.raw x.cells) (.cells z.cells T) 0).w.heap[σ.w.heap.size]? = some (.cells z.cells T (0,0)):=heap_alloc_new
 refine ⟨push_ok ho _ _ _ ?_,hg,?_⟩
 ·unfold MemAt
  rw [hblk]
  exact ⟨σ.w.heap.size,z.cells,T,by simp [Sit.push,upd],hheap,hz.cells.mono fun _ _=>hg.repC⟩
 ·refine ⟨by simp [Sit.push],trivial,?_⟩
  rw [hblk]
  exact ⟨σ.w.heap.size,by simp [Sit.push,upd],rfl⟩
theorem arr_push (ho:Ok base S0 σ) {T:TypeId} {τ:Shape} {xs:List (Den τ)} {vs:Array Value} {k:Nat} (hk:xs.length≤k) (hl:k<lim) (hsz:vs.size=k*τ.width) (hrow:Rows σ.w σ.S τ vs 0 xs) :
  Ok base S0 (σ.push (.arr τ xs) (.cells vs T) k)∧Goes σ (σ.push (.arr τ xs) (.cells vs T) k)∧blkAt (σ.push (.arr τ xs) (.cells vs T) k).mem σ.mem.length=.arr τ xs ∧
  (σ.push (.arr τ xs) (.cells vs T) k).E.β σ.mem.length=some σ.w.heap.size∧(σ.push (.arr τ xs) (.cells vs T) k).E.κ σ.mem.length=k:=by
 have hg:=push_goes ho (.arr τ xs) (.cells vs T) k
 have hblk:blkAt (σ.push (.arr τ xs) (.cells vs T) k).mem σ.mem.length=.arr τ xs:=blkAt_append_at
 have hheap:(σ.push (.arr τ xs) (.cells vs T) k).w.heap[σ.w.heap.size]? = some (.cells vs T (0,0)):=heap_alloc_new
 have hκ:(σ.push (.arr τ xs) (.cells vs T) k).E.κ σ.mem.length=k:=by simp [Sit.push,upd]
 refine ⟨push_ok ho _ _ _ ?_,hg,hblk,by simp [Sit.push,upd],hκ⟩
 unfold MemAt
 rw [hblk]
 exact ⟨by rw [hκ]; exact hk,by rw [hκ]; exact hl,.inr ⟨σ.w.heap.size,vs,T,by simp [Sit.push,upd],hheap,by rw [hκ]; exact hsz,hrow.mono hg.stab hg.heap⟩⟩
theorem run_newVar {P:Program} {T:TypeId} {z:Value} {w:World}:(newVar T z).run P w=.ok ⟨w.heap.size,0,none⟩ (w.alloc (.cells z.cells T)):=by
 simp [newVar,newRow]
theorem big_lim:(1048576:Nat)<lim:=by unfold lim; omega
theorem many_eq {τ:Shape} {n:Nat} {cs:List SC} {xs:List (Den τ)} (h:many τ n cs=some xs):parseMany τ n cs=some xs∧n≤1048576:=by
 unfold many at h
 cases hb:Nat.ble n 1048576 with
 | false=>rw [hb] at h; cases h
 | true=>rw [hb] at h; exact ⟨h,Nat.le_of_ble_eq_true hb⟩
theorem rows_of_many {τ:Shape} {n:Nat} {cs:List SC} {z:Value} {xs:List (Den τ)} (hz:All2 (RepC σ) cs z.cells.toList) (h:many τ n cs=some xs) :
  xs.length=n∧z.cells.size=xs.length*τ.width∧Rows σ.w σ.S τ z.cells 0 xs∧xs.length<lim:=by
 obtain ⟨h,hn⟩:=many_eq h
 obtain ⟨h1,h2,h3⟩:=parseMany_rep hz h
 refine ⟨h1,by rw [h1]; simpa using h2,fun i x hi=>?_,by have:=big_lim; omega⟩
 obtain ⟨ds,d1,d2⟩:=h3 i x hi
 exact ⟨ds,d1,fun j d hj=>by simpa using d2 j d hj⟩
theorem elemSh_ok {P:Program} {e:TypeId} {τ:Shape} (h:elemSh P e=some τ):P.cellsOf e=τ.width:=by
 unfold elemSh at h
 split at h
 ·rename_i τ' e'
  cases hb:Nat.beq (P.cellsOf e) τ'.width with
  | false=>rw [hb] at h; cases h
  | true=>rw [hb] at h; cases h; exact Nat.eq_of_beq_eq_true hb
 ·cases h
theorem ptr_of_arr {σ':Sit} {b r n:Nat} {τ:Shape} {xs:List (Den τ)} (hb:b<σ'.mem.length) (h:blkAt σ'.mem b=.arr τ xs) (hr:σ'.E.β b=some r):RepC σ' (.ptr b n) (.pointer (some ⟨r,n,none⟩)):=by
 refine ⟨hb,trivial,?_⟩
 rw [h]
 exact ⟨r,hr,rfl⟩
theorem fieldPlace_run {P:Program} {T:TypeId} {i:Nat} {d:Nat} {ft:TypeId} (h:fieldOff P T i=some (d,ft)) (w:World) (r o:Nat) :
  (Instr.fieldAt T (.pointer (some ⟨r,o,none⟩)) i).run P w=.ok (.pointer (some ⟨r,o+d,none⟩)) w:=by
 unfold fieldOff at h
 split at h
 ·rename_i fs e
  split at h
  ·rename_i f ef
   cases hb:Nat.beq (P.cellsOf f.type) 0 with
   | true=>rw [hb] at h; cases h
   | false =>
    rw [hb] at h; cases h
    have hne:P.cellsOf f.type≠0:=fun e=>by rw [e] at hb; cases hb
    have hi:∃ i,P.info? f.type=some i:=by
     unfold Program.cellsOf at hne
     cases hq:P.info? f.type with
     | none=>rw [hq] at hne; exact absurd rfl hne
     | some i=>exact ⟨i,rfl⟩
    have ef':fs[i]? = some f:=by simpa using ef
    unfold Instr.fieldAt
    simp only [Sem.run_bind,run_und e,Result.andThen_ok,ef',Instr.sureAddr,Sem.run_pure,fieldPlace,run_size hi]
    rw [if_neg hne]
    simp [addr_add]
  ·cases h
 ·cases h
def Sit.fresh (σ:Sit) (o:Obj):Sit:={ E:=σ.E,mem:=σ.mem,w:=σ.w.alloc o,S:=fun r=>σ.S r∨r=σ.w.heap.size }
theorem fresh_goes (ho:Ok base S0 σ) (o:Obj):Goes σ (σ.fresh o) :=
 ⟨fun _ h=>.inl h,fun r hr=>heap_alloc_lt (ho.stab r hr).1,Nat.le_refl _,fun _ _=>Turns.refl rfl rfl rfl⟩
theorem fresh_ok (ho:Ok base S0 σ) (o:Obj):Ok base S0 (σ.fresh o):=by
 refine ⟨ho.below.alloc o,fun r h=>.inl (ho.stab0 r h),fun r h=>?_,fun b=>?_,fun b r h=>?_,fun b b' r h h'=>ho.inj b b' r h h'⟩
 ·rcases h with h | h
  ·have:=ho.stab r h; exact ⟨by simp only [Sit.fresh,World.size_alloc]; omega,this.2⟩
  ·subst h; exact ⟨by simp [Sit.fresh],.inr (.inl ho.below.size)⟩
 ·exact MemAt.keep (fresh_goes ho o) rfl rfl rfl (fun r hr=>heap_alloc_lt (ho.own b r hr).2.1) (ho.ent b)
 ·have:=ho.own b r h
  refine ⟨this.1,by simp only [Sit.fresh,World.size_alloc]; omega,fun hs=>?_⟩
  rcases hs with hs | hs
  ·exact this.2.2 hs
  ·omega
theorem places_eq {P:Program}:∀ {l:List Field},l.all (fun f=>(P.info? f.type).isSome)=true →
  l.mapM (fun f=>(P.info? f.type).map fun i=>(f.offset,i.size))=some (l.map fun f=>(f.offset,P.cellsOf f.type))
 | [],_=>rfl
 | f::l,h=>by
  simp only [List.all_cons,Bool.and_eq_true] at h
  obtain ⟨i,hi⟩:=Option.isSome_iff_exists.1 h.1
  simp [List.mapM_cons,hi,places_eq h.2,Program.cellsOf]
theorem zeroSV_parts {P:Program} {T:TypeId} {x:SV} (h:zeroSV P T=some x):∃ i z,P.info? T=some i∧i.zero=some z∧∀ σ:Sit,RepV σ x z:=by
 unfold zeroSV at h
 split at h
 ·rename_i i e
  split at h
  ·rename_i z e2
   exact ⟨i,z,e,e2,fun σ=>svOfConst_ok h⟩
  ·cases h
 ·cases h
theorem getElem!_some {v:Value} {l:Array Value} {i:Nat} (h:l[i]? = some v):l[i]! = v:=by
 rw [getElem!_def,h]
theorem madeCells_get {z:Array Value} {n j:Nat} {v:Value} (hj:j<n) (h:z[j%z.size]? = some v):(madeCells z n)[j]? = some v:=by
 unfold madeCells
 simp [hj,getElem!_some h]
theorem flatten_made {R:SC→Value→Prop} {zc:List SC} {zv:Array Value} (h:All2 R zc zv.toList) (hw:0<zv.size):∀ n,All2 R (List.replicate n zc).flatten (madeCells zv (n*zv.size)).toList:=by
 intro n
 have hl:=h.length
 simp at hl
 refine All2.of_get (by simp [hl,size_madeCells]) fun i c hi=>?_
 have hlt:=(List.getElem?_eq_some_iff.1 hi).1
 simp [hl] at hlt
 have hm:i%zv.size<zc.length:=by rw [hl]; exact Nat.mod_lt _ hw
 have hc:zc[i%zv.size]? = some c:=by
  clear hm
  have key:∀ (n i:Nat) (c:SC),(List.replicate n zc).flatten[i]? = some c→zc[i%zv.size]? = some c:=by
   intro n
   induction n with
   | zero=>intro i c h; simp at h
   | succ n ih =>
    intro i c h
    rw [List.replicate_succ,List.flatten_cons] at h
    rcases Nat.lt_or_ge i zc.length with hlt | hge
    ·rw [List.getElem?_append_left hlt] at h
     rw [Nat.mod_eq_of_lt (by omega)]; exact h
    ·rw [List.getElem?_append_right hge] at h
     have:=ih _ _ h
     rw [hl] at this hge
     rw [Nat.mod_eq_sub_mod hge]; exact this
  exact key n i c hi
 obtain ⟨v,hv,hR⟩:=h.get hc
 refine ⟨v,?_,hR⟩
 have:=madeCells_get (z:=zv) (n:=n*zv.size) hlt (by simpa using hv)
 simpa using this
end Vx
namespace Vx
open Go Go.RowKit
def GlobOk (C:Cfg) (w:World) (S:Nat→Prop):Prop :=
 ∀ g τ xs,C.glob g=some ⟨τ,xs⟩→S g∧∃ vs T fz,w.heap[g]? = some (.cells vs T fz)∧Rows w S τ vs 0 xs
variable {C:Cfg} {base:Base} {S0:Nat→Prop} {σ:Sit} {s:St} {a:Act} {ctx:List (Nat×Bool)} {o:Oper} {x:TV} {mem':Mem}
theorem op_move (ho:Ok base S0 σ) (hr:RelT σ s a) (hx:CtxOk a ctx) {y:Operand} (hop:o.op=.move y∨o.op=.assign y) (h:plainOp C s ctx o=some (.ok true x mem')):Good C base S0 id σ a o x mem':=by
 have h':ev s ctx y=some x∧mem'=s.mem:=by
  unfold plainOp at h
  rcases hop with hop | hop <;> (rw [hop] at h; simp only at h; split at h) <;> first | (rename_i e; cases h; exact ⟨e,rfl⟩) | cases h
 refine good_at (σ':=σ) (v:=a.eval y) ?_ ho (Goes.refl σ).moves (hr.mem.trans h'.2.symm) (ev_ok hr hx h'.1)
 rcases hop with hop | hop <;> simp [execOp,hop]
theorem op_pick (ho:Ok base S0 σ) (hr:RelT σ s a) (hx:CtxOk a ctx) {c A B:Operand} (hop:o.op=.pick c A B) (h:plainOp C s ctx o=some (.ok true x mem')):Good C base S0 id σ a o x mem':=by
 unfold plainOp at h
 rw [hop] at h
 simp only at h
 cases c with
 | tmp t =>
  simp only at h
  split at h
  ·rename_i cb bx bz e1 e2 e3
   obtain ⟨h1,h2⟩:=pick_ok hr hx e1 e2 e3
   have hm:mem'=s.mem∧x=.val (.one (.v (.bool (bif cb then bx else bz)))):=by
    split at h
    ·cases bx with
     | true=>simp only [Option.some.injEq,Res.ok.injEq,true_and] at h; obtain ⟨rfl,rfl⟩:=h; exact ⟨rfl,by cases cb <;> rfl⟩
     | false=>simp only [Option.some.injEq,Res.ok.injEq,true_and] at h; obtain ⟨rfl,rfl⟩:=h; exact ⟨rfl,rfl⟩
    ·cases bz with
     | true=>simp only [Option.some.injEq,Res.ok.injEq,true_and] at h; obtain ⟨rfl,rfl⟩:=h; exact ⟨rfl,rfl⟩
     | false=>simp only [Option.some.injEq,Res.ok.injEq,true_and] at h; obtain ⟨rfl,rfl⟩:=h; exact ⟨rfl,by cases cb <;> cases bx <;> rfl⟩
    ·simp only [Option.some.injEq,Res.ok.injEq,true_and] at h; obtain ⟨rfl,rfl⟩:=h; exact ⟨rfl,rfl⟩
   refine good_at (σ':=σ) (v:=.bool (bif cb then bx else bz)) ?_ ho (Goes.refl σ).moves (hr.mem.trans hm.1.symm) (by rw [hm.2]; exact ⟨rfl,trivial⟩)
   simp only [execOp,hop]
   rw [h1]
   simp only [asBool]
   simp
   exact h2
  ·cases h
 | const _=>cases h
 | global _=>cases h
 | func _=>cases h
theorem op_alloc (ho:Ok base S0 σ) (hr:RelT σ s a) {T:TypeId} (hop:o.op=.alloc T) (h:plainOp C s ctx o=some (.ok true x mem')):Good C base S0 id σ a o x mem':=by
 unfold plainOp at h
 rw [hop] at h
 simp only at h
 have hex:∀ z,(zeroValue T).run C.P σ.w=.ok z σ.w→(execOp a.eval o).run C.P σ.w=.ok (.value (.pointer (some ⟨σ.w.heap.size,0,none⟩))) (σ.w.alloc (.cells z.cells T)):=fun z hz=>by
  simp only [execOp,hop,Instr.alloc]
  simp [hz,run_newVar]
 split at h
 ·rename_i z n e hz hT
  obtain ⟨zv,h1,h2⟩:=zeroSV_ok (σ:=σ) hz
  split at h
  ·rename_i τ eτ
   split at h
   ·rename_i xs exs
    simp only [Option.some.injEq,Res.ok.injEq,true_and] at h
    obtain ⟨rfl,rfl⟩:=h
    obtain ⟨g1,g2,g3,hlim⟩:=rows_of_many h1.cells exs
    ·obtain ⟨k1,k2,k3,k4,_⟩:=arr_push ho (T:=T) (Nat.le_refl _) hlim g2 g3
     refine good_at (σ':=σ.push (.arr τ xs) (.cells zv.cells T) xs.length) (hex zv (h2 _)) k1 k2.moves (by simp [Sit.push,hr.mem]) ?_
     rw [← hr.mem]
     exact ptr_of_arr (by simp [Sit.push]) k3 k4
   ·cases h
  ·cases h
 ·rename_i z _ _ hz hT
  obtain ⟨zv,h1,h2⟩:=zeroSV_ok (σ:=σ) hz
  simp only [Option.some.injEq,Res.ok.injEq,true_and] at h
  obtain ⟨rfl,rfl⟩:=h
  obtain ⟨k1,k2,k3⟩:=raw_push ho (T:=T) h1
  refine good_at (σ':=σ.push (.raw z.cells) (.cells zv.cells T) 0) (hex zv (h2 _)) k1 k2.moves (by simp [Sit.push,hr.mem]) ?_
  rw [← hr.mem]
  exact k3
 ·cases h
theorem op_box (ho:Ok base S0 σ) (hr:RelT σ s a) (hx:CtxOk a ctx) {T:TypeId} {y:Operand} (hop:o.op=.box T y) (h:plainOp C s ctx o=some (.ok true x mem')):Good C base S0 id σ a o x mem':=by
 unfold plainOp at h
 rw [hop] at h
 simp only at h
 have hex:(execOp a.eval o).run C.P σ.w=.ok (.value (.pointer (some ⟨σ.w.heap.size,0,none⟩))) (σ.w.alloc (.cells (a.eval y).cells T)):=by
  simp only [execOp,hop,Instr.box]
  simp [run_newVar]
 split at h
 ·rename_i z n e hz hT
  have h1:=evV_ok hr hx hz
  split at h
  ·rename_i τ eτ
   split at h
   ·rename_i xs exs
    simp only [Option.some.injEq,Res.ok.injEq,true_and] at h
    obtain ⟨rfl,rfl⟩:=h
    obtain ⟨g1,g2,g3,hlim⟩:=rows_of_many h1.cells exs
    ·obtain ⟨k1,k2,k3,k4,_⟩:=arr_push ho (T:=T) (Nat.le_refl _) hlim g2 g3
     refine good_at (σ':=σ.push (.arr τ xs) (.cells (a.eval y).cells T) xs.length) hex k1 k2.moves (by simp [Sit.push,hr.mem]) ?_
     rw [← hr.mem]
     exact ptr_of_arr (by simp [Sit.push]) k3 k4
   ·cases h
  ·cases h
 ·rename_i z _ _ hz hT
  have h1:=evV_ok hr hx hz
  simp only [Option.some.injEq,Res.ok.injEq,true_and] at h
  obtain ⟨rfl,rfl⟩:=h
  obtain ⟨k1,k2,k3⟩:=raw_push ho (T:=T) h1
  refine good_at (σ':=σ.push (.raw z.cells) (.cells (a.eval y).cells T) 0) hex k1 k2.moves (by simp [Sit.push,hr.mem]) ?_
  rw [← hr.mem]
  exact k3
 ·cases h
theorem build_run {P:Program} {σ:Sit} {T:TypeId} {parts:List (Nat×SV)} {qs:List (Nat×Value)} {z:SV} {cs:List SC} {place:Nat→Option (Nat×Nat)} (hz:zeroSV P T=some z)
  (hps:All2 (fun p q=>p.1=q.1∧RepV σ p.2 q.2) parts qs) (h:svSplice place parts z.cells=some cs) (hb:∀ zv i,P.info? T=some i→i.zero=some zv→P.built T qs=Instr.fill place zv.cells qs) (w:World) :
  ∃ v,(Instr.build T qs.toArray).run P w=.ok v w∧RepV σ (.agg cs) v:=by
 obtain ⟨i,zv,h1,h2,h3⟩:=zeroSV_parts hz
 obtain ⟨vs',h4,h5⟩:=fill_ok place h (h3 σ).cells (hps.mono fun p q hpq=>⟨hpq.1,hpq.2.cells⟩)
 exact ⟨.agg vs',run_build w T qs.toArray vs' (by simpa using (hb zv i h1 h2).trans h4),vs'.toList,by simp,h5⟩
theorem op_build (ho:Ok base S0 σ) (hr:RelT σ s a) (hx:CtxOk a ctx) {T:TypeId} {parts:Array (Nat×Operand)} (hop:o.op=.build T parts) (h:plainOp C s ctx o=some (.ok true x mem')):Good C base S0 id σ a o x mem':=by
 unfold plainOp at h
 rw [hop] at h
 simp only at h
 have hparts:(parts.map fun (i,x)=>(i,a.eval x))=(parts.toList.map fun p=>(p.1,a.eval p.2)).toArray:=by
  apply Array.toList_inj.1; simp
 split at h
 ·rename_i z ps fs hz hps hT
  cases hb:fs.toList.all (fun f=>(C.P.info? f.type).isSome) with
  | false=>rw [hb] at h; cases h
  | true =>
   rw [hb] at h
   simp only [cond_true] at h
   split at h
   ·rename_i cs ecs
    simp only [Option.some.injEq,Res.ok.injEq,true_and] at h
    obtain ⟨rfl,rfl⟩:=h
    obtain ⟨v,h1,h2⟩:=build_run (P:=C.P) (σ:=σ) hz (evParts_ok hr hx hps) ecs (fun zv i hi hzv=>by
     unfold Program.built
     simp only [hi,hT,hzv,places_eq hb]
     congr 1
     funext i
     simp only [List.getElem?_toArray,List.getElem?_map]
     cases fs.toList[i]? <;> rfl) σ.w
    exact good_at (σ':=σ) (v:=v) (by simp only [execOp,hop]; rw [hparts]; exact run_v h1) ho (Goes.refl σ).moves hr.mem h2
   ·cases h
 ·rename_i z ps n e hz hps hT
  cases hb:(C.P.info? e).isSome with
  | false=>rw [hb] at h; cases h
  | true =>
   rw [hb] at h
   simp only [cond_true] at h
   split at h
   ·rename_i cs ecs
    simp only [Option.some.injEq,Res.ok.injEq,true_and] at h
    obtain ⟨rfl,rfl⟩:=h
    obtain ⟨ie,hie⟩:=Option.isSome_iff_exists.1 hb
    obtain ⟨v,h1,h2⟩:=build_run (P:=C.P) (σ:=σ) hz (evParts_ok hr hx hps) ecs (fun zv i hi hzv=>by
     unfold Program.built
     simp only [hi,hT,hzv,hie]
     simp [Program.cellsOf,hie]) σ.w
    exact good_at (σ':=σ) (v:=v) (by simp only [execOp,hop]; rw [hparts]; exact run_v h1) ho (Goes.refl σ).moves hr.mem h2
   ·cases h
 ·cases h
theorem op_buildSlice (ho:Ok base S0 σ) (hr:RelT σ s a) (hx:CtxOk a ctx) {T:TypeId} {n:Nat} {parts:Array (Nat×Operand)} (hop:o.op=.buildSlice T n parts) (h:plainOp C s ctx o=some (.ok true x mem')):Good C base S0 id σ a o x mem':=by
 unfold plainOp at h
 rw [hop] at h
 simp only at h
 have hparts:(parts.map fun (i,x)=>(i,a.eval x)).toList=(parts.toList.map fun p=>(p.1,a.eval p.2)):=by simp
 split at h
 ·rename_i e hT
  split at h
  ·rename_i τ z ps eτ hz hps
   split at h
   ·rename_i cs ecs
    cases hf:freezeL s.mem cs with
    | mk cs' m1 =>
     rw [hf] at h
     simp only at h
     split at h
     ·rename_i xs exs
      cases hb:(Nat.ble (n*C.P.cellsOf e) 16777216&&Nat.blt 0 (C.P.cellsOf e)&&lenIs (C.P.cellsOf e) z.cells&&Nat.blt 0 n) with
      | false=>rw [hb] at h; cases h
      | true =>
       rw [hb] at h
       simp only [Bool.and_eq_true] at hb
       simp only [cond_true,Option.some.injEq,Res.ok.injEq,true_and] at h
       obtain ⟨rfl,rfl⟩:=h
       have hle:=Nat.le_of_ble_eq_true hb.1.1.1
       have hpos:0<C.P.cellsOf e:=by simpa using hb.1.1.2
       obtain ⟨i,zv,hi,hzv,hzr⟩:=zeroSV_parts hz
       obtain ⟨hmany,hn⟩:=many_eq exs
       have hw:=elemSh_ok eτ
       have hzsz:zv.cells.size=C.P.cellsOf e:=by
        have:=(hzr σ).cells.length
        rw [lenIs_eq hb.1.2] at this
        simpa using this.symm
       have hmade:=flatten_made (hzr σ).cells (by omega) n
       rw [hzsz] at hmade
       obtain ⟨vs',f1,f2⟩:=fill_ok _ ecs hmade ((evParts_ok hr hx hps).mono fun p q hpq=>⟨hpq.1,hpq.2.cells⟩)
       rw [← hr.mem] at hf
       obtain ⟨σ1,a1,a2,a3,a4,a5,a6⟩:=freezeL_ok ho hf
       have hcells:=a6 _ f2
       obtain ⟨g1,g2,g3⟩:=parseMany_rep hcells hmany
       have hsize:(Go.sizeOf e).run C.P σ.w=.ok (C.P.cellsOf e) σ.w:=run_size ⟨i,hi⟩
       have hrun:(Instr.buildSlice T n (parts.map fun (i,x)=>(i,a.eval x))).run C.P σ.w=.ok (.slice (some ⟨σ.w.heap.size,0,none⟩) n n) (σ.w.alloc (.cells vs' e)):=by
        have hz0:(zeroValue e).run C.P σ.w=.ok zv σ.w:=by simp [zeroValue,typeInfo,hi,hzv]
        have h24:¬ n*C.P.cellsOf e>2^24:=by omega
        unfold Instr.buildSlice
        simp only [Sem.run_bind,run_und hT,Result.andThen_ok,hsize]
        rw [if_neg h24]
        have hn0:0<n:=by simpa using hb.2
        have hz1:¬ n*C.P.cellsOf e=0:=Nat.ne_of_gt (Nat.mul_pos hn0 hpos)
        have hm0:(Array.range (n*C.P.cellsOf e)).map (zv.cells[·%zv.cells.size]!)=madeCells zv.cells (n*C.P.cellsOf e):=rfl
        simp only [if_neg hz1,Sem.run_bind,hz0,Sem.run_pure,Result.andThen_ok,hm0,hparts,f1]
        simp [newRow]
       have hfg:=fresh_goes a4 (.cells vs' e)
       refine good_at (σ':=σ1.fresh (.cells vs' e)) (v:=.slice (some ⟨σ.w.heap.size,0,none⟩) n n) ?_ (fresh_ok a4 _) (a5.trans hfg).moves a1 ?_
       ·simp only [execOp,hop]
        have:(σ1.fresh (.cells vs' e)).w=σ.w.alloc (.cells vs' e):=by simp [Sit.fresh,a2]
        rw [this]
        exact run_v hrun
       ·refine ⟨_,n,by rw [g1],by omega,by have:=big_lim; omega,fun _=>⟨σ.w.heap.size,0,vs',e,(0,0),rfl,.inr (by rw [a2]),?_,?_⟩⟩
        ·simp only [Sit.fresh,a2]; exact heap_alloc_new
        ·intro i x hix
         obtain ⟨ds,d1,d2⟩:=g3 i x hix
         exact ⟨ds,d1.mono hfg.stab hfg.heap,fun j d hj=>by simpa using d2 j d hj⟩
     ·cases h
   ·cases h
  ·cases h
 ·cases h
theorem op_load (ho:Ok base S0 σ) (hr:RelT σ s a) (hx:CtxOk a ctx) {T:TypeId} {y:Operand} (hop:o.op=.load T y) (h:plainOp C s ctx o=some (.ok true x mem')):Good C base S0 id σ a o x mem':=by
 unfold plainOp at h
 rw [hop] at h
 simp only at h
 split at h
 ·rename_i c ec
  have hc:=ev1_ok hr hx ec
  split at h
  ·rename_i cs off e1 e2
   have hl:=cellsAt_ok ho hc (by rw [hr.mem]; exact e1)
   split at h
   ·rename_i l e3
    simp only [Option.some.injEq,Res.ok.injEq,true_and] at h
    obtain ⟨rfl,rfl⟩:=h
    obtain ⟨v,h1,h2⟩:=load_agg hl e2 e3
    exact good_at (σ':=σ) (v:=v) (by simp only [execOp,hop]; exact run_v h1) ho (Goes.refl σ).moves hr.mem h2
   ·cases h
  ·rename_i cs off e1 e2
   have hl:=cellsAt_ok ho hc (by rw [hr.mem]; exact e1)
   split at h
   ·rename_i c' l e3
    simp only [Option.some.injEq,Res.ok.injEq,true_and] at h
    obtain ⟨rfl,rfl⟩:=h
    obtain ⟨v,h1,h2⟩:=load_one hl e2 e3
    exact good_at (σ':=σ) (v:=v) (by simp only [execOp,hop]; exact run_v h1) ho (Goes.refl σ).moves hr.mem h2
   ·cases h
  ·cases h
 ·cases h
theorem ok_drew {σ:Sit} {n:Nat} (ho:Ok base S0 σ):Ok base S0 { σ with w:={ σ.w with drawn:=n } }∧Goes σ { σ with w:={ σ.w with drawn:=n } }:=by
 have hg:Goes σ { σ with w:={ σ.w with drawn:=n } }:=⟨fun _ h=>h,fun _ _=>rfl,Nat.le_refl _,fun _ _=>Turns.refl rfl rfl rfl⟩
 exact ⟨⟨⟨ho.below.os,ho.below.tape,ho.below.output,ho.below.size,ho.below.block⟩,ho.stab0,ho.stab,fun b=>MemAt.keep hg rfl rfl rfl (fun _ _=>rfl) (ho.ent b),ho.own,ho.inj⟩,hg⟩
theorem op_binOp (ho:Ok base S0 σ) (hr:RelT σ s a) (hx:CtxOk a ctx) {op:BinOp} {T T':TypeId} {y z:Operand} (hop:o.op=.binOp op T y z T') (h:plainOp C s ctx o=some (.ok true x mem')):Good C base S0 id σ a o x mem':=by
 unfold plainOp at h
 rw [hop] at h
 simp only at h
 split at h
 ·rename_i c d e1 e2
  have h1:=evV_ok hr hx e1
  have h2:=evV_ok hr hx e2
  cases hb:okBoolT C.P T c with
  | false=>rw [hb] at h; cases h
  | true =>
   rw [hb] at h
   simp only [cond_true] at h
   split at h
   ·rename_i g r e3
    simp only [Option.some.injEq,Res.ok.injEq] at h
    obtain ⟨rfl,rfl,rfl⟩:=h
    obtain ⟨v,n,h3,h4⟩:=binV_ok (P:=C.P) (X:=y) (Y:=z) (T:=T) (w:=σ.w) (by
     cases c with
     | v q=>cases q with
      | bool b=>exact .inl hb
      | _=>exact .inr (by simp)
     | _=>exact .inr (by simp)) h1 h2 e3
    obtain ⟨k1,k2⟩:=ok_drew (n:=n) ho
    exact good_at (σ':={ σ with w:={ σ.w with drawn:=n } }) (v:=v) (by simp only [execOp,hop]; exact run_v h3) k1 k2.moves hr.mem (k2.repC h4)
   ·cases h
 ·rename_i c d e1 e2
  have h1:=evV_ok hr hx e1
  have h2:=evV_ok hr hx e2
  split at h
  ·rename_i fs hT
   cases hb:(!(C.P.eqGuardType C.P.depth T)&&!(C.P.stoodInHeld T)) with
   | false=>rw [hb] at h; cases h
   | true =>
    rw [hb] at h
    simp only [Bool.and_eq_true,Bool.not_eq_true'] at hb
    simp only [cond_true] at h
    split at h
    ·rename_i r e3
     simp only [Option.some.injEq,Res.ok.injEq,true_and] at h
     obtain ⟨rfl,rfl⟩:=h
     have:=(eqAgg_ok (X:=y) (Y:=z) (w:=σ.w) hT hb.1 hb.2 h1 h2 e3).1
     exact good_at (σ':=σ) (v:=.bool r) (by simp only [execOp,hop]; exact run_v this) ho (Goes.refl σ).moves hr.mem ⟨rfl,trivial⟩
    ·rename_i r e3
     simp only [Option.some.injEq,Res.ok.injEq,true_and] at h
     obtain ⟨rfl,rfl⟩:=h
     have:=(eqAgg_ok (X:=y) (Y:=z) (w:=σ.w) hT hb.1 hb.2 h1 h2 e3).2
     exact good_at (σ':=σ) (v:=.bool !r) (by simp only [execOp,hop]; exact run_v this) ho (Goes.refl σ).moves hr.mem ⟨rfl,trivial⟩
    ·cases h
  ·cases h
 ·cases h
end Vx
namespace Vx
open Go Go.RowKit
variable {C:Cfg} {base:Base} {S0:Nat→Prop} {σ:Sit} {s:St} {a:Act} {ctx:List (Nat×Bool)} {o:Oper} {x:TV} {mem':Mem}
theorem run_storeVar {P:Program} {T:TypeId} {r off:Nat} {v:Value} {w:World} {vs:Array Value} {T':TypeId} (hh:w.heap[r]? = some (.cells vs T' (0,0))) (hi:∃ i,P.info? T=some i) (hsz:v.cells.size=P.cellsOf T)
  (hv:∀ u∈v.cells.toList,scalar u) (hle:off+v.cells.size≤vs.size) :
  (Instr.storeAt T (.pointer (some ⟨r,off,none⟩)) v).run P w=.ok () (wset w r (.cells (putAt vs off v.cells.toList) T' (0,0))):=by
 unfold Instr.storeAt storeVar Instr.sureAddr
 have h1:=run_storeCells (P:=P) (r:=r) (o:=off) (T:=T') v.cells.toList 0 w vs hh (by simpa using hle) hv
 simp [run_size hi,hsz]
 simpa using h1
theorem All2.allScalar {cs:List SC} {ys:List Value} (h:All2 (RepC σ) cs ys):∀ u∈ys,scalar u:=by
 induction h with
 | nil=>simp
 | cons h _ ih =>
  intro u hu
  rcases List.mem_cons.1 hu with rfl | hu
  ·exact h.scalar
  ·exact ih u hu
theorem RepC.ptr_raw {b off:Nat} {y:Value} {cs:List SC} (h:RepC σ (.ptr b off) y) (e:blkAt σ.mem b=.raw cs):∃ r,σ.E.β b=some r∧y=.pointer (some ⟨r,off,none⟩):=by
 obtain ⟨_,_,hm⟩:=h
 rw [e] at hm
 exact hm
theorem info_of_cells {P:Program} {T:TypeId} (h:P.cellsOf T≠0):∃ i,P.info? T=some i:=by
 unfold Program.cellsOf at h
 cases hq:P.info? T with
 | none=>rw [hq] at h; exact absurd rfl h
 | some i=>exact ⟨i,rfl⟩
theorem op_store (ho:Ok base S0 σ) (hr:RelT σ s a) (hx:CtxOk a ctx) {T:TypeId} {y z:Operand} (hop:o.op=.store T y z) (h:plainOp C s ctx o=some (.ok true x mem')):Good C base S0 id σ a o x mem':=by
 unfold plainOp at h
 rw [hop] at h
 simp only at h
 split at h
 ·rename_i b off v e1 e2
  have hp:=ev1_ok hr hx e1
  have hv:=evV_ok hr hx e2
  split at h
  ·rename_i cs eb
   rw [← hr.mem] at eb
   cases hb:(lenIs (C.P.cellsOf T) v.cells&&allDef v.cells&&Nat.blt 0 (C.P.cellsOf T)) with
   | false=>rw [hb] at h; cases h
   | true =>
    rw [hb] at h
    simp only [Bool.and_eq_true] at hb
    simp only [cond_true] at h
    split at h
    ·rename_i cs' es
     simp only [Option.some.injEq,Res.ok.injEq,true_and] at h
     obtain ⟨rfl,rfl⟩:=h
     obtain ⟨r,hβ,hy⟩:=hp.ptr_raw eb
     have he:=ho.ent b
     unfold MemAt at he
     rw [eb] at he
     obtain ⟨r',vs,T',h1,h2,h3⟩:=he
     rw [hβ] at h1; cases h1
     have hown:σ.owned b r:=⟨by rw [eb]; trivial,hβ⟩
     obtain ⟨k1,k2⟩:=All2.splice es h3 hv.cells
     have hlt:b<σ.mem.length:=blkAt_lt (by rw [eb]; simp)
     have hrl:=(ho.own b r hown).2.1
     obtain ⟨g1,g2⟩:=store_ok ho hown (e:=.raw cs') (vs:=putAt vs off (a.eval z).cells.toList) (T:=T') (by rw [eb]; exact ⟨cs',rfl⟩) (fun hg=>by
      unfold MemAt
      simp only [Sit.store]
      rw [blkAt_set hlt,if_pos rfl]
      exact ⟨r,_,T',hβ,heap_wset_eq hrl,k1.mono fun _ _=>hg.repC⟩)
     have hl:=lenIs_eq hb.1.1
     have hcl:=hv.cells.length
     have hsz:(a.eval z).cells.size=C.P.cellsOf T:=by simp at hcl; omega
     have hpos:C.P.cellsOf T≠0:=Nat.ne_of_gt (by simpa using hb.2)
     have hrun:=run_storeVar (P:=C.P) (T:=T) (off:=off) h2 (info_of_cells hpos) hsz hv.cells.allScalar (by simpa using k2)
     refine good_skip (σ':=σ.store b r (.raw cs') (putAt vs off (a.eval z).cells.toList) T') ?_ g1 g2.moves (by simp [Sit.store,hr.mem]) trivial
     simp only [execOp,hop,hy]
     simp only [Sem.run_bind,hrun,Result.andThen_ok,Sem.run_pure]
     rfl
    ·cases h
  ·cases h
 ·rename_i b i off v e1 e2
  have hp:=ev1_ok hr hx e1
  have hv:=evV_ok hr hx e2
  cases hf:freezeSV s.mem v with
  | mk v' m1 =>
   rw [hf] at h
   simp only at h
   rw [← hr.mem] at hf
   obtain ⟨σ1,a1,a2,a3,a4,a5,a6⟩:=freezeSV_ok ho hf
   have hp1:=a5.repC hp
   have hv1:=a6 _ hv
   split at h
   ·rename_i τ xs eb
    rw [← a1] at eb
    cases hb:(lenIs (C.P.cellsOf T) v'.cells&&allDef v'.cells&&Nat.blt 0 (C.P.cellsOf T)) with
    | false=>rw [hb] at h; cases h
    | true =>
     rw [hb] at h
     simp only [Bool.and_eq_true] at hb
     simp only [cond_true] at h
     split at h
     ·rename_i cs' es
      split at h
      ·rename_i x' ep
       simp only [Option.some.injEq,Res.ok.injEq,true_and] at h
       obtain ⟨rfl,rfl⟩:=h
       obtain ⟨_,_,hm⟩:=hp1
       rw [eb] at hm
       obtain ⟨hi,r,hβ,hy⟩:=hm
       obtain ⟨hl0,hl1,vs,T',h2,h3,h4⟩:=arr_at (a4.ent b) eb hβ
       have hown:σ1.owned b r:=⟨by rw [eb]; trivial,hβ⟩
       have hlt:b<σ1.mem.length:=blkAt_lt (by rw [eb]; simp)
       have hrl:=(a4.own b r hown).2.1
       have hxi:xs[i]? = some (xs.getD i τ.dflt):=by
        rw [List.getD_eq_getElem?_getD,List.getElem?_eq_getElem hi]; rfl
       obtain ⟨ds,d1,d2⟩:=h4 i _ hxi
       have hdl:=d1.len
       obtain ⟨k1,k2⟩:=All2.splice es (vs:=ds.toArray) (by simpa using cellsOf_rep d1) hv1.cells
       obtain ⟨y1,y2,hyy,p1,p2⟩:=parse_rep k1 ep
       cases p2
       rw [List.append_nil] at hyy
       have hle:off+(a.eval z).cells.size≤τ.width:=by simp at k2; omega
       have hfit:i*τ.width+off+(a.eval z).cells.size≤vs.size:=by
        rw [h3]
        have:=Nat.mul_le_mul_right τ.width (show i+1≤σ1.E.κ b by omega)
        rw [Nat.succ_mul] at this
        omega
       have hnew:∀ j d,y1[j]? = some d→(putAt vs (i*τ.width+off) (a.eval z).cells.toList)[i*τ.width+j]? = some d:=fun j d hj=>by
        have hpl:=putAt_toList (a.eval z).cells.toList vs (i*τ.width+off) (by simpa using hfit)
        have hpd:=putAt_toList (a.eval z).cells.toList ds.toArray off (by simpa using k2)
        rw [← hyy,hpd] at hj
        have hjw:j<τ.width:=by
         have:=(List.getElem?_eq_some_iff.1 hj).1
         simp at this
         simp at k2
         omega
        rw [← Array.getElem?_toList,hpl]
        simp only [List.append_assoc] at hj ⊢
        rcases Nat.lt_or_ge j off with hjo | hjo
        ·rw [List.getElem?_append_left (by simp; omega),List.getElem?_take_of_lt (by omega)] at *
         simpa using d2 j d (by simpa using hj)
        ·rw [List.getElem?_append_right (by simp; omega)] at hj ⊢
         have e1:i*τ.width+j-(List.take (i*τ.width+off) vs.toList).length=j-(List.take off ds.toArray.toList).length:=by
          simp at k2 ⊢; omega
         rw [e1]
         rcases Nat.lt_or_ge (j-(List.take off ds.toArray.toList).length) (a.eval z).cells.toList.length with hq | hq
         ·rw [List.getElem?_append_left hq] at hj ⊢; exact hj
         ·rw [List.getElem?_append_right hq] at hj ⊢
          rw [List.getElem?_drop] at hj ⊢
          have e2:i*τ.width+off+(a.eval z).cells.toList.length+(j-(List.take off ds.toArray.toList).length-(a.eval z).cells.toList.length)=i*τ.width+(off+(a.eval z).cells.toList.length+(j-(List.take off ds.toArray.toList).length-(a.eval z).cells.toList.length)):=by omega
          rw [e2]
          simpa using d2 _ d (by simpa using hj)
       have hold:∀ i',i'≠i→∀ j,j<τ.width→(putAt vs (i*τ.width+off) (a.eval z).cells.toList)[i'*τ.width+j]? = vs[i'*τ.width+j]?:=fun i' hne j hj=>by
        have hpl:=putAt_toList (a.eval z).cells.toList vs (i*τ.width+off) (by simpa using hfit)
        rw [← Array.getElem?_toList,hpl]
        rcases Nat.lt_or_gt_of_ne hne with hlt' | hgt
        ·have:=Nat.mul_le_mul_right τ.width (show i'+1≤i by omega)
         rw [Nat.succ_mul] at this
         rw [List.append_assoc,List.getElem?_append_left (by simp; omega),List.getElem?_take_of_lt (by omega)]
         simp
        ·have:=Nat.mul_le_mul_right τ.width (show i+1≤i' by omega)
         rw [Nat.succ_mul] at this
         rw [List.getElem?_append_right (by simp; omega),List.getElem?_drop]
         have e2:i*τ.width+off+(a.eval z).cells.toList.length+(i'*τ.width+j-(List.take (i*τ.width+off) vs.toList++(a.eval z).cells.toList).length)=i'*τ.width+j:=by simp; omega
         rw [e2]; simp
       obtain ⟨g1,g2⟩:=store_ok a4 hown (e:=.arr τ (xs.set i x')) (vs:=putAt vs (i*τ.width+off) (a.eval z).cells.toList) (T:=T') (by rw [eb]; exact ⟨_,rfl,by simp⟩) (fun hg=>by
        unfold MemAt
        simp only [Sit.store]
        rw [blkAt_set hlt,if_pos rfl]
        refine ⟨by simpa using hl0,hl1,.inr ⟨r,_,T',hβ,heap_wset_eq hrl,by rw [putAt_size,h3],fun i' u hu=>?_⟩⟩
        rw [List.getElem?_set] at hu
        split at hu
        ·rename_i hii
         subst hii
         cases hu
         exact ⟨y1,p1.mono hg.stab hg.heap,fun j d hj=>by simpa using hnew j d hj⟩
        ·rename_i hii
         obtain ⟨ds',d1',d2'⟩:=h4 i' u hu
         refine ⟨ds',d1'.mono hg.stab hg.heap,fun j d hj=>?_⟩
         have hjl:=(List.getElem?_eq_some_iff.1 hj).1
         rw [d1'.len] at hjl
         rw [Nat.zero_add,hold i' (fun e=>hii e.symm) j hjl]
         simpa using d2' j d hj)
       have hl:=lenIs_eq hb.1.1
       have hcl:=hv1.cells.length
       have hsz:(a.eval z).cells.size=C.P.cellsOf T:=by simp at hcl; omega
       have hpos:C.P.cellsOf T≠0:=Nat.ne_of_gt (by simpa using hb.2)
       have hrun:=run_storeVar (P:=C.P) (T:=T) (off:=i*τ.width+off) h2 (info_of_cells hpos) hsz hv1.cells.allScalar (by omega)
       refine good_skip (σ':=σ1.store b r (.arr τ (xs.set i x')) (putAt vs (i*τ.width+off) (a.eval z).cells.toList) T') ?_ g1 (a5.trans g2).moves (by simp [Sit.store,a1]) trivial
       simp only [execOp,hop,hy]
       simp only [Sem.run_bind]
       rw [← a2,hrun]
       simp only [Result.andThen_ok,Sem.run_pure]
       rfl
      ·cases h
     ·cases h
   ·cases h
 ·cases h
theorem op_nilCheck (ho:Ok base S0 σ) (hr:RelT σ s a) (hx:CtxOk a ctx) {y:Operand} (hop:o.op=.nilCheck y) (h:plainOp C s ctx o=some (.ok true x mem')):Good C base S0 id σ a o x mem':=by
 unfold plainOp at h
 rw [hop] at h
 simp only at h
 split at h
 ·rename_i b off e
  have hp:=ev_ok hr hx e
  split at h
  ·rename_i cs eb
   simp only [Option.some.injEq,Res.ok.injEq,true_and] at h
   obtain ⟨rfl,rfl⟩:=h
   rw [← hr.mem] at eb
   obtain ⟨r,hβ,hy⟩:=RepC.ptr_raw hp eb
   refine good_at (σ':=σ) (v:=a.eval y) ?_ ho (Goes.refl σ).moves hr.mem hp
   simp only [execOp,hop,hy]
   rfl
  ·cases h
 ·cases h
theorem op_unOp (ho:Ok base S0 σ) (hr:RelT σ s a) (hx:CtxOk a ctx) {op:UnOp} {T:TypeId} {y:Operand} (hop:o.op=.unOp op T y) (h:plainOp C s ctx o=some (.ok true x mem')):Good C base S0 id σ a o x mem':=by
 unfold plainOp at h
 rw [hop] at h
 simp only at h
 split at h
 ·rename_i c ec
  split at h
  ·rename_i r er
   simp only [Option.some.injEq,Res.ok.injEq,true_and] at h
   obtain ⟨rfl,rfl⟩:=h
   obtain ⟨v,h1,h2⟩:=unV_ok (P:=C.P) (w:=σ.w) (ev1_ok hr hx ec) er
   exact good_at (σ':=σ) (v:=v) (by simp only [execOp,hop]; exact run_v h1) ho (Goes.refl σ).moves hr.mem h2
  ·cases h
 ·cases h
theorem op_convert (ho:Ok base S0 σ) (hr:RelT σ s a) (hx:CtxOk a ctx) {T1 T2:TypeId} {y:Operand} (hop:o.op=.convert T1 T2 y) (h:plainOp C s ctx o=some (.ok true x mem')):Good C base S0 id σ a o x mem':=by
 unfold plainOp at h
 rw [hop] at h
 simp only at h
 split at h
 ·rename_i k k' n hT e
  split at h
  ·rename_i d hT1
   simp only [Option.some.injEq,Res.ok.injEq,true_and] at h
   obtain ⟨rfl,rfl⟩:=h
   obtain ⟨h1,h2⟩:=ev1_ok hr hx e
   refine good_at (σ':=σ) (v:=.int k (k.wrap n)) ?_ ho (Goes.refl σ).moves hr.mem (wrap_ok (σ:=σ) k n)
   simp only [execOp,hop,h1]
   refine run_v ?_
   unfold convert
   simp only [Sem.run_bind,run_und hT1,run_und hT,Result.andThen_ok]
   cases d <;> simp [Conv.intToInt]
  ·cases h
 ·cases h
theorem op_fieldAddr (ho:Ok base S0 σ) (hr:RelT σ s a) (hx:CtxOk a ctx) {T:TypeId} {y:Operand} {i:Nat} (hop:o.op=.fieldAddr T y i) (h:plainOp C s ctx o=some (.ok true x mem')):Good C base S0 id σ a o x mem':=by
 unfold plainOp at h
 rw [hop] at h
 simp only at h
 split at h
 ·rename_i b off d ft e1 e2
  split at h
  ·rename_i cs eb
   simp only [Option.some.injEq,Res.ok.injEq,true_and] at h
   obtain ⟨rfl,rfl⟩:=h
   rw [← hr.mem] at eb
   have hp:=ev1_ok hr hx e1
   obtain ⟨r,hβ,hy⟩:=RepC.ptr_raw hp eb
   refine good_at (σ':=σ) (v:=.pointer (some ⟨r,off+d,none⟩)) (by simp only [execOp,hop,hy]; exact run_v (fieldPlace_run e2 _ _ _)) ho (Goes.refl σ).moves hr.mem ?_
   refine ⟨hp.1,trivial,?_⟩
   rw [eb]
   exact ⟨r,hβ,rfl⟩
  ·cases h
 ·rename_i b j off d ft e1 e2
  split at h
  ·rename_i τ xs eb
   simp only [Option.some.injEq,Res.ok.injEq,true_and] at h
   obtain ⟨rfl,rfl⟩:=h
   rw [← hr.mem] at eb
   have hp:=ev1_ok hr hx e1
   obtain ⟨hlt,_,hm⟩:=hp
   rw [eb] at hm
   obtain ⟨hi,r,hβ,hy⟩:=hm
   refine good_at (σ':=σ) (v:=.pointer (some ⟨r,j*τ.width+off+d,none⟩)) (by simp only [execOp,hop,hy]; exact run_v (fieldPlace_run e2 _ _ _)) ho (Goes.refl σ).moves hr.mem ?_
   refine ⟨hlt,trivial,?_⟩
   rw [eb]
   exact ⟨hi,r,hβ,by rw [Nat.add_assoc]⟩
  ·cases h
 ·rename_i τ y' off d ft e1 e2
  simp only [Option.some.injEq,Res.ok.injEq,true_and] at h
  obtain ⟨rfl,rfl⟩:=h
  obtain ⟨r,q,vs,T',fz,ds,hy,h1,h2,h3,h4⟩:=ev1_ok hr hx e1
  refine good_at (σ':=σ) (v:=.pointer (some ⟨r,q+off+d,none⟩)) (by simp only [execOp,hop,hy]; exact run_v (fieldPlace_run e2 _ _ _)) ho (Goes.refl σ).moves hr.mem ?_
  exact ⟨r,q,vs,T',fz,ds,by rw [Nat.add_assoc],h1,h2,h3,h4⟩
 ·cases h
end Vx
namespace Vx
open Go Go.RowKit
variable {C:Cfg} {base:Base} {S0:Nat→Prop} {σ:Sit} {s:St} {a:Act} {ctx:List (Nat×Bool)} {o:Oper} {x:TV} {mem':Mem}
theorem freeze1_not_own {mem:Mem} {c c':SC} {m:Mem} (h:freeze1 mem c=(c',m)) (b:Nat):c'≠.own b:=by
 unfold freeze1 at h
 split at h
 ·split at h <;> (cases h; simp)
 ·rename_i hn
  cases h
  intro e
  exact hn b e
theorem asList_ok {τ:Shape} {c:SC} {y:Value} {xs:List (Den τ)} (hc:RepC σ c y) (hn:∀ b,c≠.own b) (h:asList σ.mem τ c=some xs):DRep σ.w σ.S (.slice τ) xs [y]:=by
 unfold asList at h
 split at h
 ·exact castL_rep h hc
 ·cases h
  obtain ⟨rfl,_⟩:=hc
  exact nil_rep τ
 ·exact absurd rfl (hn _)
 ·cases h
theorem slice_of_rep {τ:Shape} {y:Value} {xs:List (Den τ)} (h:DRep σ.w σ.S (.slice τ) xs [y]):∃ A c,y=.slice A xs.length c∧xs.length≤c∧c<lim:=by
 obtain ⟨A,c,h1,h2,h3,_⟩:=h
 cases h1
 exact ⟨A,c,rfl,h2,h3⟩
theorem lenOf_ok {c:SC} {y:Value} {n:Nat} (hc:RepC σ c y) (hns:∀ str,c≠.v (.string str)) (h:lenOf σ.mem c=some n):∃ A k,y=.slice A n k:=by
 unfold lenOf at h
 split at h
 ·cases h
  obtain ⟨A,k,h1,_⟩:=hc
  cases h1
  exact ⟨A,k,rfl⟩
 ·cases h
  obtain ⟨rfl,_⟩:=hc
  exact ⟨none,0,rfl⟩
 ·exact absurd rfl (hns _)
 ·obtain ⟨_,_,hm⟩:=hc
  split at h
  ·rename_i e
   cases h
   rw [e] at hm
   obtain ⟨r,_,rfl⟩:=hm
   exact ⟨_,_,rfl⟩
  ·rename_i e
   cases h
   rw [e] at hm
   exact ⟨_,_,hm⟩
  ·rename_i e
   cases h
   rw [e] at hm
   obtain ⟨A,k,h1,_⟩:=hm
   cases h1
   exact ⟨A,k,rfl⟩
  ·cases h
 ·cases h
theorem lenOf_lim (ho:Ok base S0 σ) {c:SC} {y:Value} {n:Nat} (hc:RepC σ c y) (h:lenOf σ.mem c=some n):n<lim:=by
 unfold lenOf at h
 split at h
 ·cases h
  obtain ⟨A,k,h1,h2,h3,_⟩:=hc
  exact Nat.lt_of_le_of_lt h2 h3
 ·cases h; unfold lim; omega
 ·cases h; exact hc.2
 ·rename_i b
  obtain ⟨_,_,hm⟩:=hc
  have he:=ho.ent b
  unfold MemAt at he
  split at h
  ·rename_i e
   cases h
   rw [e] at he
   exact Nat.lt_of_le_of_lt he.1 he.2.1
  ·rename_i e
   cases h
   rw [e] at he
   exact Nat.lt_of_le_of_lt he.1 he.2.1
  ·rename_i e
   cases h
   rw [e] at hm
   obtain ⟨A,k,h1,h2,h3,_⟩:=hm
   exact Nat.lt_of_le_of_lt h2 h3
  ·cases h
 ·cases h
theorem DRep.cut {w:World} {S:Nat→Prop} {τ:Shape} {xs:List (Den τ)} {A:Option Addr} {c l h:Nat} (hd:DRep w S (.slice τ) xs [.slice A xs.length c]) (h1:l≤h) (h2:h≤xs.length) (hc:xs.length≤c) (hlim:c<lim) :
  DRep w S (.slice τ) ((xs.take h).drop l) [.slice (if c=l then A else A.map (·.add (l*τ.width))) (h-l) (c-l)]:=by
 obtain ⟨A',c',e,_,_,h4⟩:=hd
 cases e
 have hlen:((xs.take h).drop l).length=h-l:=by simp; omega
 refine ⟨_,c-l,by rw [hlen],by omega,by omega,fun hne=>?_⟩
 have hlt:l<h:=by
  rcases Nat.lt_or_ge l h with h' | h'
  ·exact h'
  ·exact absurd (List.eq_nil_of_length_eq_zero (by omega)) hne
 have hxs:xs≠[]:=by intro e; subst e; simp at h2; omega
 obtain ⟨r,o,vs,T,fz,e1,e2,e3,e4⟩:=h4 hxs
 refine ⟨r,o+l*τ.width,vs,T,fz,?_,e2,e3,fun i x hi=>?_⟩
 ·rw [if_neg (by omega),e1]
  simp [addr_add]
 ·rw [List.getElem?_drop,List.getElem?_take] at hi
  split at hi
  ·obtain ⟨ds,d1,d2⟩:=e4 _ _ hi
   refine ⟨ds,d1,fun j d hj=>?_⟩
   have:=d2 j d hj
   rw [Nat.add_mul] at this
   rw [show o+l*τ.width+i*τ.width+j=o+(l*τ.width+i*τ.width)+j by omega]
   exact this
  ·cases hi
theorem elemSh_info' {P:Program} {e:TypeId} {τ:Shape} (eτ:elemSh P e=some τ):∃ i,P.info? e=some i:=by
 have:shapeOf P 12 e=some τ:=by
  unfold elemSh at eτ
  split at eτ
  ·rename_i τ' e'
   cases hb:Nat.beq (P.cellsOf e) τ'.width with
   | false=>rw [hb] at eτ; cases eτ
   | true=>rw [hb] at eτ; cases eτ; exact e'
  ·cases eτ
 unfold shapeOf at this
 cases hu:P.underlying e with
 | none=>rw [hu] at this; cases this
 | some d=>exact info_of_und hu
theorem slice_run {T e:TypeId} {τ:Shape} {y:Operand} {lo hi:Option Operand} (hr:RelT σ s a) (hx:CtxOk a ctx) (hT:C.P.underlying T=some (.slice e)) (eτ:elemSh C.P e=some τ) {A:Option Addr} {n k:Nat} (hy:a.eval y=.slice A n k) (hk:n≤k) {l hh:Int}
  (el:(match lo with | none=>some (0:Int) | some a=>intArg s ctx a)=some l) (eh:(match hi with | none=>some (n:Int) | some a=>intArg s ctx a)=some hh) (hop:o.op=.slice T y lo hi none) (g1:0≤l) (g2:l≤hh) (g3:hh≤(n:Int)) (w:World) :
  (execOp a.eval o).run C.P w=.ok (.value (.slice (if k=l.toNat then A else A.map (·.add (l.toNat*τ.width))) (hh.toNat-l.toNat) (k-l.toNat))) w:=by
 have hi':∃ i,C.P.info? e=some i:=by
  have:shapeOf C.P 12 e=some τ:=by
   unfold elemSh at eτ
   split at eτ
   ·rename_i τ' e'
    cases hb:Nat.beq (C.P.cellsOf e) τ'.width with
    | false=>rw [hb] at eτ; cases eτ
    | true=>rw [hb] at eτ; cases eτ; exact e'
   ·cases eτ
  unfold shapeOf at this
  cases hu:C.P.underlying e with
  | none=>rw [hu] at this; cases this
  | some d=>exact info_of_und hu
 have hw:=elemSh_ok eτ
 simp only [execOp,hop,hy,Option.map_none]
 refine run_v ?_
 unfold Instr.sliceAt
 simp only [Sem.run_bind,run_und hT,Result.andThen_ok]
 unfold Instr.slice
 simp only [Sem.run_bind,run_und hT,Result.andThen_ok]
 have hbH:(match hi.map a.eval with | some v=>Instr.sliceBound v k .sliceAcap | none=>pure n:Sem Nat).run C.P w=.ok hh.toNat w:=by
  cases hi with
  | none=>simp only [Option.map_none,Sem.run_pure]; simp at eh; subst eh; rfl
  | some q =>
   simp only at eh
   obtain ⟨kk,hq,_⟩:=intArg_ok hr hx eh
   simp only [Option.map_some,hq,Instr.sliceBound,asIntOf,Sem.run_bind,Sem.run_pure,Result.andThen_ok]
   rw [if_pos ⟨by omega,by omega⟩]
   rfl
 have hbL:(match lo.map a.eval with | some v=>Instr.sliceBound v hh.toNat (if (none:Option Value).isSome then .slice3C else .sliceB) | none=>pure 0:Sem Nat).run C.P w=.ok l.toNat w:=by
  cases lo with
  | none=>simp only [Option.map_none,Sem.run_pure]; simp at el; subst el; rfl
  | some q =>
   simp only at el
   obtain ⟨kk,hq,_⟩:=intArg_ok hr hx el
   simp only [Option.map_some,hq,Instr.sliceBound,asIntOf,Sem.run_bind,Sem.run_pure,Result.andThen_ok]
   rw [if_pos ⟨by omega,by omega⟩]
   rfl
 have hb:(Instr.sliceBounds true n k (lo.map a.eval) (hi.map a.eval) none).run C.P w=.ok (l.toNat,hh.toNat,k) w:=by
  cases hhi:hi.map a.eval <;> cases hlo:lo.map a.eval <;> rw [hhi] at hbH <;> rw [hlo] at hbL <;>
   simp only [Sem.run_pure,Result.ok.injEq,and_true,Option.isSome_none,Bool.false_eq_true,if_false] at hbH hbL <;> unfold Instr.sliceBounds
  ·simp [hbH,← hbL]
  ·simp [hbH,hbL]
  ·simp [hbH,← hbL]
  ·simp [hbH,hbL]
 rw [hb]
 simp only [Result.andThen_ok,run_size hi',hw]
 simp
theorem op_sub (ho:Ok base S0 σ) (hr:RelT σ s a) (hx:CtxOk a ctx) {T:TypeId} {y:Operand} {lo hi mx:Option Operand} (hop:o.op=.slice T y lo hi mx) {g:Bool} {c:SC} (hs:subOp C s ctx T y lo hi mx=some (g,c)) (h:plainOp C s ctx o=some (.ok true x mem')):Good C base S0 id σ a o x mem':=by
 unfold plainOp at h
 rw [hop] at h
 simp only [hs,Option.some.injEq,Res.ok.injEq] at h
 obtain ⟨rfl,rfl,rfl⟩:=h
 unfold subOp at hs
 split at hs
 ·rename_i b ec
  replace hs:=(cond_some hs).2
  split at hs
  ·rename_i l0 h0 e τ' xs hT eb
   split at hs
   ·rename_i τ l hh eτ el eh
    split at hs
    ·rename_i hττ
     subst hττ
     simp only [Option.some.injEq,Prod.mk.injEq,Bool.and_eq_true,decide_eq_true_eq] at hs
     obtain ⟨⟨⟨g1,g2⟩,g3⟩,rfl⟩:=hs
     rw [← hr.mem] at eb
     have hc:=ev1_ok hr hx ec
     have he:=ho.ent b
     unfold MemAt at he
     rw [eb] at he
     obtain ⟨q1,q2,_⟩:=he
     obtain ⟨hlt,_,hm⟩:=hc
     rw [eb] at hm
     simp only at hm
     have hrun:=slice_run (lo:=some l0) (hi:=some h0) hr hx hT eτ hm q1 el eh hop g1 g2 g3 σ.w
     refine good_at (σ':=σ) hrun ho (Goes.refl σ).moves hr.mem ?_
     refine ⟨hlt,trivial,?_⟩
     rw [eb]
     refine ⟨by omega,_,_,rfl,by omega,by omega,fun hn=>?_⟩
     obtain ⟨r,hβ⟩:=arr_some (ho.ent b) eb (by omega)
     refine ⟨r,hβ,?_⟩
     rw [if_neg (by omega),hβ]
     simp [addr_add]
    ·cases hs
   ·cases hs
  ·cases hs
 ·rename_i b ec
  split at hs
  ·rename_i n e τ' xs hT eb
   split at hs
   ·rename_i τ eτ
    split at hs
    ·rename_i hττ
     subst hττ
     obtain ⟨hn,hs⟩:=cond_some hs
     simp only [Option.some.injEq,Prod.mk.injEq,true_and] at hs
     subst hs
     have hn:xs.length=n:=Nat.eq_of_beq_eq_true hn
     rw [← hr.mem] at eb
     have hc:=ev1_ok hr hx ec
     have he:=ho.ent b
     unfold MemAt at he
     rw [eb] at he
     obtain ⟨q1,q2,_⟩:=he
     obtain ⟨hlt,_,hm⟩:=hc
     rw [eb] at hm
     obtain ⟨r,hβ,hy⟩:=hm
     refine good_at (σ':=σ) (v:=.slice (some ⟨r,0,none⟩) xs.length xs.length) ?_ ho (Goes.refl σ).moves hr.mem ?_
     ·simp only [execOp,hop,hy]
      refine run_v ?_
      unfold Instr.sliceAt
      simp only [Sem.run_bind,run_und hT,Result.andThen_ok,Instr.sureAddr,Sem.run_pure,Option.map_none,Instr.sliceBounds]
      simp [run_size (elemSh_info' eτ),hn,addr_add]
     ·refine ⟨hlt,trivial,?_⟩
      rw [eb]
      exact ⟨by omega,_,_,rfl,Nat.le_refl _,by omega,fun _=>⟨r,hβ,by simp⟩⟩
    ·cases hs
   ·cases hs
  ·cases hs
 ·cases hs
theorem op_slice (ho:Ok base S0 σ) (hr:RelT σ s a) (hx:CtxOk a ctx) {T:TypeId} {y:Operand} {lo hi mx:Option Operand} (hop:o.op=.slice T y lo hi mx) (hns:subOp C s ctx T y lo hi mx=none) (hno:truncB C s ctx y lo mx=none) (h:plainOp C s ctx o=some (.ok true x mem')):Good C base S0 id σ a o x mem':=by
 unfold plainOp at h
 rw [hop] at h
 simp only [hns,hno] at h
 split at h
 ·rename_i e c hT ec
  split at h
  ·rename_i τ eτ
   cases hf:freeze1 s.mem c with
   | mk c' m1 =>
    rw [hf] at h
    simp only at h
    rw [← hr.mem] at hf
    obtain ⟨σ1,a1,a2,a3,a4,a5,a6⟩:=freeze1_ok ho hf
    split at h
    ·rename_i xs exs
     split at h
     ·rename_i l hh el eh
      simp only [Option.some.injEq,Res.ok.injEq,Bool.and_eq_true,decide_eq_true_eq] at h
      obtain ⟨⟨⟨g1,g2⟩,g3⟩,rfl,rfl⟩:=h
      have hd:=asList_ok (a6 _ (ev1_ok hr hx ec)) (freeze1_not_own hf) (by rw [a1]; exact exs)
      obtain ⟨A,k,hy,hk,hklim⟩:=slice_of_rep hd
      rw [hy] at hd
      have hcut:=hd.cut (l:=l.toNat) (h:=hh.toNat) (by omega) (by omega) hk hklim
      exact good_at (σ':=σ1) (by rw [a2]; exact slice_run hr hx hT eτ hy hk el eh hop g1 g2 g3 σ.w) a4 a5.moves a1 hcut
     ·cases h
    ·cases h
  ·cases h
 ·cases h
end Vx
namespace Vx
open Go Go.RowKit
variable {C:Cfg} {base:Base} {S0:Nat→Prop} {σ:Sit} {s:St} {a:Act} {ctx:List (Nat×Bool)} {o:Oper} {x:TV} {mem':Mem}
theorem elemSh_info {P:Program} {e:TypeId} {τ:Shape} (eτ:elemSh P e=some τ):∃ i,P.info? e=some i:=by
 have:shapeOf P 12 e=some τ:=by
  unfold elemSh at eτ
  split at eτ
  ·rename_i τ' e'
   cases hb:Nat.beq (P.cellsOf e) τ'.width with
   | false=>rw [hb] at eτ; cases eτ
   | true=>rw [hb] at eτ; cases eτ; exact e'
  ·cases eτ
 unfold shapeOf at this
 cases hu:P.underlying e with
 | none=>rw [hu] at this; cases this
 | some d=>exact info_of_und hu
theorem index_array {P:Program} {T e:TypeId} {n:Nat} {τ:Shape} (hT:P.underlying T=some (.array n e)) (eτ:elemSh P e=some τ) {r q:Nat} {k:IntKind} {i:Int} (h0:0≤i) (h1:i<(n:Int)) (w:World) :
  (Instr.indexAt T (.pointer (some ⟨r,q,none⟩)) (.int k i)).run P w=.ok (.pointer (some ⟨r,q+i.toNat*τ.width,none⟩)) w:=by
 unfold Instr.indexAt
 simp [run_und hT,asIntOf,Instr.sureAddr,h0,h1,run_size (elemSh_info eτ),elemSh_ok eτ,addr_add]
theorem index_slice {P:Program} {T e:TypeId} {n c:Nat} {τ:Shape} (hT:P.underlying T=some (.slice e)) (eτ:elemSh P e=some τ) {r q:Nat} {k:IntKind} {i:Int} (h0:0≤i) (h1:i<(n:Int)) (w:World) :
  (Instr.indexAt T (.slice (some ⟨r,q,none⟩) n c) (.int k i)).run P w=.ok (.pointer (some ⟨r,q+i.toNat*τ.width,none⟩)) w:=by
 unfold Instr.indexAt
 simp [run_und hT,asIntOf,h0,h1,run_size (elemSh_info eτ),elemSh_ok eτ,addr_add]
theorem getD_some {α:Type} {xs:List α} {i:Nat} {d:α} (h:i<xs.length):xs[i]? = some (xs.getD i d):=by
 rw [List.getD_eq_getElem?_getD,List.getElem?_eq_getElem h]; rfl
theorem iptr_of {τ:Shape} {xs:List (Den τ)} {r q:Nat} {vs:Array Value} {T:TypeId} {fz:Nat×Nat} {i:Nat} (hS:σ.S r) (hh:σ.w.heap[r]? = some (.cells vs T fz)) (hrow:Rows σ.w σ.S τ vs q xs) (hi:i<xs.length) :
  RepC σ (.iptr τ (xs.getD i τ.dflt) 0) (.pointer (some ⟨r,q+i*τ.width,none⟩)):=by
 obtain ⟨ds,d1,d2⟩:=hrow i _ (getD_some (d:=τ.dflt) hi)
 exact ⟨r,q+i*τ.width,vs,T,fz,ds,rfl,hS,hh,d1,d2⟩
theorem iptr_slice {P:Program} {T e:TypeId} {τ:Shape} {xs:List (Den τ)} {y:Value} (hT:P.underlying T=some (.slice e)) (eτ:elemSh P e=some τ) (hd:DRep σ.w σ.S (.slice τ) xs [y]) {k:IntKind} {i:Int} (h0:0≤i) (h1:i<(xs.length:Int)) (w:World) :
  ∃ v,(Instr.indexAt T y (.int k i)).run P w=.ok v w∧RepC σ (.iptr τ (xs.getD i.toNat τ.dflt) 0) v:=by
 obtain ⟨A,c,hy,hc,hl,hne⟩:=hd
 cases hy
 have hlt:i.toNat<xs.length:=by omega
 obtain ⟨r,q,vs,T',fz,rfl,g1,g2,g3⟩:=hne (fun e=>by subst e; simp at hlt)
 exact ⟨_,index_slice hT eτ h0 h1 w,iptr_of g1 g2 g3 hlt⟩
theorem op_indexAddr (ho:Ok base S0 σ) (hr:RelT σ s a) (hx:CtxOk a ctx) (hG:GlobOk C σ.w σ.S) {T:TypeId} {y z:Operand} (hop:o.op=.indexAddr T y z) (h:plainOp C s ctx o=some (.ok true x mem')):Good C base S0 id σ a o x mem':=by
 unfold plainOp at h
 rw [hop] at h
 simp only at h
 have hex:∀ {v:Value},(Instr.indexAt T (a.eval y) (a.eval z)).run C.P σ.w=.ok v σ.w→(execOp a.eval o).run C.P σ.w=.ok (.value v) σ.w:=fun hv=>by
  simp only [execOp,hop]; exact run_v hv
 split at h
 ·rename_i n e g i hT ec ei
  obtain ⟨k,hi,_⟩:=intArg_ok hr hx ei
  have hc:a.eval y=.pointer (some ⟨g,0,none⟩):=ev1_ok hr hx ec
  split at h
  ·rename_i τ xs τ' eg eτ
   split at h
   ·rename_i hττ
    subst hττ
    cases hb:Nat.beq xs.length n with
    | false=>rw [hb] at h; cases h
    | true =>
     rw [hb] at h
     simp only [cond_true,Option.some.injEq,Res.ok.injEq,sealN_eq,Bool.and_eq_true,decide_eq_true_eq] at h
     obtain ⟨⟨g1,g2⟩,rfl,rfl⟩:=h
     have hn:xs.length=n:=Nat.eq_of_beq_eq_true hb
     obtain ⟨hS,vs,T',fz,hh,hrow⟩:=hG g _ _ eg
     refine good_at (σ':=σ) (hex (by rw [hc,hi]; exact index_array hT eτ g1 g2 σ.w)) ho (Goes.refl σ).moves hr.mem ?_
     exact iptr_of (q:=0) hS hh hrow (by omega)
   ·cases h
  ·cases h
 ·rename_i n e b i hT ec ei
  obtain ⟨k,hi,_⟩:=intArg_ok hr hx ei
  have hc:=ev1_ok hr hx ec
  split at h
  ·rename_i τ xs τ' eb eτ
   split at h
   ·rename_i hττ
    subst hττ
    simp only [Option.some.injEq,Res.ok.injEq,Bool.and_eq_true,decide_eq_true_eq] at h
    obtain ⟨⟨⟨g1,g2⟩,g3⟩,rfl,rfl⟩:=h
    rw [← hr.mem] at eb
    obtain ⟨hlt,_,hm⟩:=hc
    rw [eb] at hm
    obtain ⟨r,hβ,hy⟩:=hm
    refine good_at (σ':=σ) (hex (by rw [hy,hi]; exact index_array hT eτ g1 g2 σ.w)) ho (Goes.refl σ).moves hr.mem ?_
    refine ⟨hlt,trivial,?_⟩
    rw [eb]
    exact ⟨by omega,r,hβ,by simp⟩
   ·cases h
  ·cases h
 ·rename_i e c i hT ec ei
  obtain ⟨k,hi,_⟩:=intArg_ok hr hx ei
  have hc:=ev1_ok hr hx ec
  split at h
  ·rename_i τ eτ
   split at h
   ·rename_i b
    split at h
    ·rename_i τ' xs eb
     split at h
     ·rename_i hττ
      subst hττ
      simp only [Option.some.injEq,Res.ok.injEq,Bool.and_eq_true,decide_eq_true_eq] at h
      obtain ⟨⟨g1,g2⟩,rfl,rfl⟩:=h
      rw [← hr.mem] at eb
      obtain ⟨hlt,_,hm⟩:=hc
      rw [eb] at hm
      obtain ⟨r,hβ⟩:=arr_some (ho.ent b) eb (by omega)
      simp only [hβ,Option.map_some] at hm
      have hy:=hm
      refine good_at (σ':=σ) (hex (by rw [hy,hi]; exact index_slice hT eτ g1 g2 σ.w)) ho (Goes.refl σ).moves hr.mem ?_
      refine ⟨hlt,trivial,?_⟩
      rw [eb]
      exact ⟨by omega,r,hβ,by simp⟩
     ·cases h
    ·rename_i τ' xs eb
     split at h
     ·rename_i hττ
      subst hττ
      simp only [Option.some.injEq,Res.ok.injEq,Bool.and_eq_true,decide_eq_true_eq] at h
      obtain ⟨⟨g1,g2⟩,rfl,rfl⟩:=h
      rw [← hr.mem] at eb
      obtain ⟨σ1,a1,a2,a3,a4,a5⟩:=froze ho (.inr eb)
      have hc1:=a5.repC hc
      obtain ⟨_,_,hm⟩:=hc1
      rw [a1,blkAt_set (blkAt_lt (by rw [eb]; simp)),if_pos rfl] at hm
      obtain ⟨v,h1,h2⟩:=iptr_slice hT eτ hm (k:=k) g1 g2 σ.w
      refine good_at (σ':=σ1) (v:=v) (by rw [a2]; exact hex (by rw [hi]; exact h1)) a4 a5.moves (by rw [a1,hr.mem]) h2
     ·cases h
    ·rename_i τ' xs eb
     split at h
     ·rename_i hττ
      subst hττ
      simp only [Option.some.injEq,Res.ok.injEq,Bool.and_eq_true,decide_eq_true_eq] at h
      obtain ⟨⟨g1,g2⟩,rfl,rfl⟩:=h
      rw [← hr.mem] at eb
      obtain ⟨_,_,hm⟩:=hc
      rw [eb] at hm
      obtain ⟨v,h1,h2⟩:=iptr_slice hT eτ hm (k:=k) g1 g2 σ.w
      exact good_at (σ':=σ) (v:=v) (hex (by rw [hi]; exact h1)) ho (Goes.refl σ).moves hr.mem h2
     ·cases h
    ·cases h
   ·rename_i τ' xs
    split at h
    ·rename_i hττ
     subst hττ
     simp only [Option.some.injEq,Res.ok.injEq,Bool.and_eq_true,decide_eq_true_eq] at h
     obtain ⟨⟨g1,g2⟩,rfl,rfl⟩:=h
     obtain ⟨v,h1,h2⟩:=iptr_slice hT eτ hc (k:=k) g1 g2 σ.w
     exact good_at (σ':=σ) (v:=v) (hex (by rw [hi]; exact h1)) ho (Goes.refl σ).moves hr.mem h2
    ·cases h
   ·rename_i b lo n
    split at h
    ·rename_i τ' xs eb
     split at h
     ·rename_i hττ
      subst hττ
      simp only [Option.some.injEq,Res.ok.injEq,Bool.and_eq_true,decide_eq_true_eq] at h
      obtain ⟨⟨g1,g2⟩,rfl,rfl⟩:=h
      rw [← hr.mem] at eb
      obtain ⟨hlt,_,hm⟩:=hc
      rw [eb] at hm
      obtain ⟨q1,A,cc,hy,q2,q3,q4⟩:=hm
      obtain ⟨r,hβ,rfl⟩:=q4 (by omega)
      refine good_at (σ':=σ) (hex (by rw [hy,hi]; exact index_slice hT eτ g1 g2 σ.w)) ho (Goes.refl σ).moves hr.mem ?_
      refine ⟨hlt,trivial,?_⟩
      rw [eb]
      exact ⟨by omega,r,hβ,by rw [Nat.add_mul]; simp⟩
     ·cases h
    ·cases h
   ·cases h
  ·cases h
 ·cases h
theorem made_rows {τ:Shape} {d:Den τ} {z:Array Value} (hd:DRep σ.w σ.S τ d z.toList) (_hw:0<z.size) (n:Nat):Rows σ.w σ.S τ (madeCells z (n*z.size)) 0 (List.replicate n d):=by
 have hl:=hd.len
 simp at hl
 intro i x hi
 rw [List.getElem?_replicate] at hi
 split at hi
 ·rename_i hin
  cases hi
  refine ⟨z.toList,hd,fun j v hj=>?_⟩
  have hjl:j<z.size:=by simpa using (List.getElem?_eq_some_iff.1 hj).1
  rw [← hl,Nat.zero_add]
  refine madeCells_get ?_ ?_
  ·have:=Nat.mul_le_mul_right z.size (show i+1≤n by omega)
   rw [Nat.succ_mul] at this
   omega
  ·rw [Nat.add_comm,Nat.add_mul_mod_self_right,Nat.mod_eq_of_lt hjl]
   simpa using hj
 ·cases hi
theorem sameArg_ok {a:Act} {l c:Operand} (h:sameArg l c=true) {n m:Int} {kn km:IntKind} (hn:a.eval l=.int kn n) (hm:a.eval c=.int km m):kn=km∧n=m:=by
 unfold sameArg at h
 split at h
 ·rename_i t t'
  have:=Nat.eq_of_beq_eq_true h
  subst this
  rw [hn] at hm; cases hm; exact ⟨rfl,rfl⟩
 ·simp only [Bool.and_eq_true,decide_eq_true_eq] at h
  obtain ⟨rfl,rfl⟩:=h
  have h1:=hn.symm.trans hm
  cases h1
  exact ⟨rfl,rfl⟩
 ·cases h
theorem op_makeSlice (ho:Ok base S0 σ) (hr:RelT σ s a) (hx:CtxOk a ctx) {T:TypeId} {l c:Operand} (hop:o.op=.makeSlice T l c) (h:plainOp C s ctx o=some (.ok true x mem')):Good C base S0 id σ a o x mem':=by
 unfold plainOp at h
 rw [hop] at h
 simp only at h
 split at h
 ·rename_i e n m hT en em
  obtain ⟨kn,hn,_⟩:=intArg_ok hr hx en
  obtain ⟨km,hm,_⟩:=intArg_ok hr hx em
  split at h
  ·rename_i τ z eτ hz
   split at h
   ·rename_i d ep
    obtain ⟨ie,zv,hi,hzv,hzr⟩:=zeroSV_parts hz
    obtain ⟨y1,y2,hyy,p1,p2⟩:=parse_rep (hzr σ).cells ep
    cases p2
    rw [List.append_nil] at hyy
    rw [← hyy] at p1
    have hw:=elemSh_ok eτ
    have hzl:=p1.len
    have hsz:ie.size=C.P.cellsOf e:=by simp [Program.cellsOf,hi]
    have hby:(ie.bytes:Int)=(C.P.bytesOf e:Int):=by simp [Program.bytesOf,hi]
    cases hb0:(sameArg l c&&Nat.blt 0 (C.P.cellsOf e)&&Nat.blt 0 (C.P.bytesOf e)) with
    | true =>
     rw [hb0] at h
     simp only [Bool.and_eq_true] at hb0
     simp only [cond_true,Option.some.injEq,Res.ok.injEq,Bool.and_eq_true,decide_eq_true_eq] at h
     obtain ⟨⟨g1,g2⟩,rfl,rfl⟩:=h
     have hnm:kn=km∧n=m:=sameArg_ok hb0.1.1 hn hm
     obtain ⟨rfl,rfl⟩:=hnm
     have hpos:0<C.P.cellsOf e:=by simpa using hb0.1.2
     have hbpos:0<C.P.bytesOf e:=by simpa using hb0.2
     have hnle:n≤maxRoom:=by
      refine Int.le_trans ?_ g2
      have:=Int.mul_le_mul_of_nonneg_left (a:=1) (b:=(C.P.bytesOf e:Int)) (c:=n) (by omega) g1
      omega
     have hrun:=run_make (P:=C.P) σ.w T e ie zv hT hi hzv kn kn n n g1 (Int.le_refl _) (by rw [hby,Int.mul_comm]; unfold maxRoom at g2; omega) (by unfold maxRoom at hnle; omega)
     have hzs:zv.cells.size=C.P.cellsOf e:=by simpa [hw] using hzl
     obtain ⟨k1,k2,k3,k4,k5⟩:=arr_push ho (T:=e) (τ:=τ) (xs:=List.replicate n.toNat d) (vs:=madeCells zv.cells (n.toNat*ie.size)) (k:=n.toNat) (by simp) (by unfold lim; unfold maxRoom at hnle; omega) (by rw [size_madeCells,hsz,hw])
      (by rw [hsz,← hzs]; exact made_rows p1 (by omega) n.toNat)
     refine good_at (σ':=σ.push (.arr τ (List.replicate n.toNat d)) (.cells (madeCells zv.cells (n.toNat*ie.size)) e) n.toNat) ?_ k1 k2.moves (by simp [Sit.push,hr.mem]) ?_ (v:=.slice (some ⟨σ.w.heap.size,0,none⟩) n.toNat n.toNat)
     ·simp only [execOp,hop,hn,hm]; exact run_v hrun
     ·rw [← hr.mem]
      refine ⟨by simp [Sit.push],trivial,?_⟩
      rw [k3]
      simp only [k4,k5,Option.map_some,List.length_replicate]
    | false =>
     rw [hb0] at h
     simp only [cond_false] at h
     cases hb:(Nat.blt 0 (C.P.cellsOf e)&&Nat.blt 0 (C.P.bytesOf e)) with
     | false=>rw [hb] at h; cases h
     | true =>
      rw [hb] at h
      simp only [Bool.and_eq_true] at hb
      simp only [cond_true,Option.some.injEq,Res.ok.injEq,Bool.and_eq_true,decide_eq_true_eq] at h
      obtain ⟨⟨⟨g0,g1⟩,g2⟩,rfl,rfl⟩:=h
      have hpos:0<C.P.cellsOf e:=by simpa using hb.1
      have hbpos:0<C.P.bytesOf e:=by simpa using hb.2
      have hnle:m≤maxRoom:=by
       refine Int.le_trans ?_ g2
       have:=Int.mul_le_mul_of_nonneg_left (a:=1) (b:=(C.P.bytesOf e:Int)) (c:=m) (by omega) (Int.le_trans g0 g1)
       omega
      have hrun:=run_make (P:=C.P) σ.w T e ie zv hT hi hzv kn km n m g0 g1 (by rw [hby,Int.mul_comm]; unfold maxRoom at g2; omega) (by unfold maxRoom at hnle; omega)
      have hzs:zv.cells.size=C.P.cellsOf e:=by simpa [hw] using hzl
      have hg:=push_goes ho (.acc τ (List.replicate n.toNat d)) (.cells (madeCells zv.cells (m.toNat*ie.size)) e) m.toNat
      have hblk:blkAt (σ.push (.acc τ (List.replicate n.toNat d)) (.cells (madeCells zv.cells (m.toNat*ie.size)) e) m.toNat).mem σ.mem.length=.acc τ (List.replicate n.toNat d):=blkAt_append_at
      have hrows:Rows σ.w σ.S τ (madeCells zv.cells (m.toNat*ie.size)) 0 (List.replicate n.toNat d):=by
       have:=made_rows p1 (by omega) m.toNat
       rw [hsz,← hzs]
       intro i x hi
       refine this i x ?_
       rw [List.getElem?_replicate] at hi ⊢
       split at hi
       ·rw [if_pos (by omega)]; exact hi
       ·cases hi
      have hok:Ok base S0 (σ.push (.acc τ (List.replicate n.toNat d)) (.cells (madeCells zv.cells (m.toNat*ie.size)) e) m.toNat):=by
       refine push_ok ho _ _ _ ?_
       unfold MemAt
       rw [hblk]
       refine ⟨by simp [Sit.push,upd]; omega,by simp [Sit.push,upd]; unfold lim; unfold maxRoom at hnle; omega,.inr ⟨σ.w.heap.size,_,e,by simp [Sit.push,upd],heap_alloc_new,?_,hrows.mono hg.stab hg.heap⟩⟩
       rw [size_madeCells,hsz,hw]
       simp [Sit.push,upd]
      refine good_at (σ':=σ.push (.acc τ (List.replicate n.toNat d)) (.cells (madeCells zv.cells (m.toNat*ie.size)) e) m.toNat) ?_ hok hg.moves (by simp [Sit.push,hr.mem]) ?_ (v:=.slice (some ⟨σ.w.heap.size,0,none⟩) n.toNat m.toNat)
      ·simp only [execOp,hop,hm,hn]; exact run_v hrun
      ·rw [← hr.mem]
       refine ⟨by simp [Sit.push],trivial,?_⟩
       rw [hblk]
       simp [Sit.push,upd]
   ·cases h
  ·cases h
 ·cases h
theorem op_extract (ho:Ok base S0 σ) (hr:RelT σ s a) (hx:CtxOk a ctx) {y:Operand} {i:Nat} (hop:o.op=.extract y i) (h:plainOp C s ctx o=some (.ok true x mem')):Good C base S0 id σ a o x mem':=by
 unfold plainOp at h
 rw [hop] at h
 simp only at h
 split at h
 ·rename_i l e
  split at h
  ·rename_i v ev
   simp only [Option.some.injEq,Res.ok.injEq,true_and] at h
   obtain ⟨rfl,rfl⟩:=h
   obtain ⟨_,ys,hy,ha⟩:=ev_ok hr hx e
   obtain ⟨u,hu,hR⟩:=ha.get ev
   refine good_at (σ':=σ) (v:=u) ?_ ho (Goes.refl σ).moves hr.mem hR
   simp only [execOp,hop,hy]
   refine run_v ?_
   simp [Instr.extract,hu]
  ·cases h
 ·cases h
theorem op_index (ho:Ok base S0 σ) (hr:RelT σ s a) (hx:CtxOk a ctx) {T:TypeId} {y z:Operand} (hop:o.op=.index T y z) (h:plainOp C s ctx o=some (.ok true x mem')):Good C base S0 id σ a o x mem':=by
 unfold plainOp at h
 rw [hop] at h
 simp only at h
 split at h
 ·rename_i str i hT ec ei
  obtain ⟨k,hi,_⟩:=intArg_ok hr hx ei
  obtain ⟨hy,_⟩:=ev1_ok hr hx ec
  simp only [Option.some.injEq,Res.ok.injEq,Bool.and_eq_true,decide_eq_true_eq] at h
  obtain ⟨⟨g1,g2⟩,rfl,rfl⟩:=h
  have hlt:i.toNat<str.size:=by omega
  have hb:str.data.toList.getD i.toNat 0=str[i.toNat]:=by
   rw [List.getD_eq_getElem?_getD,List.getElem?_eq_getElem (by simpa using hlt)]
   rfl
  refine good_at (σ':=σ) (v:=.int .u8 ((str.data.toList.getD i.toNat 0).toNat:Int)) ?_ ho (Goes.refl σ).moves hr.mem ⟨rfl,?_⟩
  ·simp only [execOp,hop,hy,hi]
   refine run_v ?_
   unfold Instr.index
   simp only [Sem.run_bind,asIntOf,Sem.run_pure,Result.andThen_ok,run_und hT]
   rw [if_pos g1,getElem?_pos str i.toNat hlt]
   rw [hb]
   rfl
  ·generalize str.data.toList.getD i.toNat 0=u
   have:=u.toNat_lt
   simp only [wfV,IntKind.min,IntKind.max,IntKind.signed,IntKind.bits]
   simp
   omega
 ·cases h
theorem part_agg {P:Program} {T:TypeId} {cs l:List SC} {ys:List Value} {d:Nat} (ha:All2 (RepC σ) cs ys) (hT:aggT P T=some true) (h:takeN (P.cellsOf T) (dropN d cs)=some l) (w:World) :
  ∃ v,(part T ys.toArray d).run P w=.ok v w∧RepV σ (.agg l) v:=by
 obtain ⟨h5,h6⟩:=takeN_eq h
 rw [dropN_eq] at h5 h6
 obtain ⟨dd,hd⟩:=aggT_und hT
 refine ⟨.agg (ys.toArray.extract d (d+P.cellsOf T)),?_,⟨(ys.drop d).take (P.cellsOf T),?_,?_⟩⟩
 ·unfold part
  simp [aggT_ok hT,run_size (info_of_und hd)]
 ·simp
 ·rw [h5]; exact (ha.drop d).take _
theorem part_one {P:Program} {T:TypeId} {cs l:List SC} {c:SC} {ys:List Value} {d:Nat} (ha:All2 (RepC σ) cs ys) (hT:aggT P T=some false) (h:dropN d cs=c::l) (w:World) :
  ∃ v,(part T ys.toArray d).run P w=.ok v w∧RepC σ c v:=by
 rw [dropN_eq] at h
 have hc:cs[d]? = some c:=by
  have:=congrArg (fun l=>l[0]?) h
  simpa using this
 obtain ⟨v,hv,hR⟩:=ha.get hc
 refine ⟨v,?_,hR⟩
 unfold part
 simp [aggT_ok hT,hv]
theorem op_field (ho:Ok base S0 σ) (hr:RelT σ s a) (hx:CtxOk a ctx) {T:TypeId} {y:Operand} {i:Nat} (hop:o.op=.field T y i) (h:plainOp C s ctx o=some (.ok true x mem')):Good C base S0 id σ a o x mem':=by
 unfold plainOp at h
 rw [hop] at h
 simp only at h
 split at h
 ·rename_i cs d ft ec ef
  obtain ⟨ys,hy,ha⟩:=evV_ok hr hx ec
  have hfd:∃ fs f,C.P.underlying T=some (.struct fs)∧fs[i]? = some f∧f.offset=d∧f.type=ft:=by
   unfold fieldOff at ef
   split at ef
   ·rename_i fs e
    split at ef
    ·rename_i f eff
     cases hb:Nat.beq (C.P.cellsOf f.type) 0 with
     | true=>rw [hb] at ef; cases ef
     | false=>rw [hb] at ef; cases ef; exact ⟨fs,f,e,by simpa using eff,rfl,rfl⟩
    ·cases ef
   ·cases ef
  obtain ⟨fs,f,hu,hf,rfl,rfl⟩:=hfd
  have hex:∀ {v:Value},(part f.type ys.toArray f.offset).run C.P σ.w=.ok v σ.w→(execOp a.eval o).run C.P σ.w=.ok (.value v) σ.w:=fun hv=>by
   simp only [execOp,hop,hy]
   refine run_v ?_
   unfold Instr.field
   simp [run_und hu,hf,asAgg,hv]
  split at h
  ·rename_i hT
   split at h
   ·rename_i l et
    simp only [Option.some.injEq,Res.ok.injEq,true_and] at h
    obtain ⟨rfl,rfl⟩:=h
    obtain ⟨v,h1,h2⟩:=part_agg ha hT et σ.w
    exact good_at (σ':=σ) (v:=v) (hex h1) ho (Goes.refl σ).moves hr.mem h2
   ·cases h
  ·rename_i hT
   split at h
   ·rename_i c l et
    simp only [Option.some.injEq,Res.ok.injEq,true_and] at h
    obtain ⟨rfl,rfl⟩:=h
    obtain ⟨v,h1,h2⟩:=part_one ha hT et σ.w
    exact good_at (σ':=σ) (v:=v) (hex h1) ho (Goes.refl σ).moves hr.mem h2
   ·cases h
  ·cases h
 ·cases h
end Vx
