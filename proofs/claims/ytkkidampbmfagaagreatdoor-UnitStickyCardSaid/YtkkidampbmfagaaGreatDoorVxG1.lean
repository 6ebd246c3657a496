/- Part 1 of the proof. What is proved: symbolic execution of the functions, proved sound; what each function of the program computes, and that every run ends with it; what these functions compute, in plain numbers. Conditions: each theorem bears its own. -/
import Derived.Calls
import Derived.Orders
import Derived.LoopN
import Derived.KernelRfl
import Derived.Below
import Derived.Laws.Closers25b
import Derived.Laws.Sem
import Derived.Laws.World
import Derived.Laws.Cells
import Derived.Laws.Slices
import Derived.Laws.StructEq
import Derived.Laws.MakeOwn
import Derived.Laws.Tables
set_option linter.all false
set_option exponentiation.threshold 1000000
noncomputable section
open Array renaming ext->qw,getElem?_eq_some_iff->dc,getElem?_toList->kj,getElem_setIfInBounds->mo,toList_inj->gb
open BitVec renaming ofInt->bv
open Bool renaming and_eq_true->ai
open Classical renaming choice->pp
open Go renaming sizeOf->qc
open Go.IntKind renaming min->ol
open Go.Program renaming built->qn,cellsOf->ko,fieldsOf->nk
open Go.Result renaming andThen_ok->bl
open Go.Sem renaming run_bind->cy,run_pure->ee
open Go.Value renaming pointer->jb
open Go.World renaming size_alloc->gl
open Int renaming le_total->pn,le_trans->ly,neg_tmod->qo,tmod_nonneg->qb
open List renaming append_assoc->fj,eq_nil_of_length_eq_zero->cq,getD_eq_getElem?_getD->al,getElem?_append_left->co,getElem?_append_right->cj,getElem?_drop->dr,getElem?_eq_getElem->bc,getElem?_eq_none->ff,getElem?_eq_some_iff->aw,getElem?_set->nc,getElem?_take_of_lt->cr,length_append->fh,length_cons->gk,mem_cons->cx,mem_cons_of_mem->ig,mem_cons_self->kg,replicate->ax,take->kp
open Nat renaming add_assoc->gu,eq_of_beq_eq_true->ak,le_of_ble_eq_true->jl,le_refl->cg,le_trans->fk,lt_of_le_of_lt->av,lt_of_lt_of_le->ah,lt_or_ge->au,mul_le_mul_right->ay,ne_of_gt->lz,succ_mul->jv,zero_add->dw
open Option renaming isSome_iff_exists->nd,map_none->li,map_some->js
open Option.some renaming inj->kl,injEq->af
open Prod.mk renaming injEq->dh
namespace Vx
open Go
inductive Shape where
 |int (k:IntKind)|flt (k:FloatKind)|bool|str|fn|unit
 |slice (e:Shape)|pair (a b:Shape)
 /-- a At that nobody writes,and an interface's value (its type,its whole numbers) -/
 |box (a:Shape)|ifc
 /-- a function that holds nothing -/
 |pfn
 deriving DecidableEq
@[reducible] def Aa:Shape->Type
 |.int _=>Int
 |.flt _=>Option Nat
 |.bool=>Bool
 |.str=>ByteArray
 |.fn=>Option (Nat×List Nat)
 |.unit=>Unit
 |.slice e=>List (Aa e)
 |.pair a b=>Aa a×Aa b
 |.box a=>Aa a
 |.ifc=>Option (Nat×List Int)
 |.pfn=>Nat
def Shape.width:Shape->Nat
 |.unit=>0
 |.pair a b=>a.width+b.width
 |_=>1
def Shape.dflt:(τ:Shape)->Aa τ
 |.int _=>(0:Int)
 |.flt _=>some 0
 |.bool=>false
 |.str=>⟨#[]⟩
 |.fn=>none
 |.unit=>()
 |.slice _=>[]
 |.pair a b=>(a.dflt,b.dflt)
 |.box a=>a.dflt
 |.ifc=>none
 |.pfn=>(0:Nat)
inductive SC where
 |undef
 |v (x:Value)
 |fl (k:FloatKind) (o:Option Nat)
 |sl (τ:Shape) (xs:List (Aa τ))
 |own (b:Nat)
 |ptr (b off:Nat)
 |eptr (b i off:Nat)
 |sub (b lo len:Nat)
 |iptr (τ:Shape) (x:Aa τ) (off:Nat)
 |gptr (g:Nat)
 |fnv (o:Option (Nat×List Nat))
 |fn (f:FuncId) (caps:List (Nat×Nat))
 |ifv (d:Option (Nat×List Int))
inductive SV where
 |one (c:SC)
 |agg (cs:List SC)
inductive TV where
 |un
 |val (x:SV)
 |tup (xs:List SV)
inductive Blk where
 |gone
 |raw (cells:List SC)
 |arr (τ:Shape) (xs:List (Aa τ))
 |acc (τ:Shape) (xs:List (Aa τ))
 |froz (τ:Shape) (xs:List (Aa τ))
abbrev Ae:=List Blk
structure St where
 n:Nat
 m0:Nat
 tm:List (Nat×TV)
 mem:Ae
 cs:List (Nat×Nat×Bool×TV)
def SV.cells:SV->List SC
 |.one c=>[c]
 |.agg cs=>cs
def cellsOf:(τ:Shape)->Aa τ->List SC
 |.int k,n=>[.v (.int k n)]
 |.flt k,o=>[.fl k o]
 |.bool,b=>[.v (.bool b)]
 |.str,s=>[.v (.string s)]
 |.fn,o=>[.fnv o]
 |.unit,_=>[]
 |.slice e,xs=>[.sl e xs]
 |.pair a b,x=>cellsOf a x.1++cellsOf b x.2
 |.box a,x=>[.iptr a x 0]
 |.ifc,d=>[.ifv d]
 |.pfn,n=>[.fnv (some (n,[]))]
def CS(e' e:Shape)(xs:List (Aa e')):Option (List (Aa e)):=if h:e'=e then some (h▸xs)else none
def sO(e' e:Shape)(x:Aa e'):Option (Aa e):=if h:e'=e then some (h▸x)else none
def Cs:(τ:Shape)->List SC->Option (Aa τ×List SC)
 |.int k,c::r=>match c with
  |.v (.int k' n)=>if k'=k then some (n,r)else none
  |_=>none
 |.flt k,c::r=>match c with
  |.fl k' o=>if k'=k then some (o,r)else none
  |_=>none
 |.bool,c::r=>match c with
  |.v (.bool b)=>some (b,r)
  |_=>none
 |.str,c::r=>match c with
  |.v (.string s)=>some (s,r)
  |_=>none
 |.fn,c::r=>match c with
  |.v .nilFunc=>some (none,r)
  |.fn f []=>some (some (f,[]),r)
  |.fnv o=>some (o,r)
  |_=>none
 |.box a,c::r=>match c with
  |.iptr a' x 0=>match sO a' a x with
   |some y=>some (y,r)
   |none=>none
  |_=>none
 |.ifc,c::r=>match c with
  |.v .nilIface=>some (none,r)
  |.ifv d=>some (d,r)
  |_=>none
 |.pfn,c::r=>match c with
  |.fn f []=>some (f,r)
  |.fnv (some (f,[]))=>some (f,r)
  |_=>none
 |.unit,cs=>some ((),cs)
 |.slice e,c::r=>match c with
  |.sl e' xs=>match CS e' e xs with
   |some ys=>some (ys,r)
   |none=>none
  |.v (.slice none 0 0)=>some ([],r)
  |_=>none
 |.pair a b,cs=>match Cs a cs with
  |none=>none
  |some (x,r)=>match Cs b r with
   |none=>none
   |some (y,r')=>some ((x,y),r')
 |_,[]=>none
def Te(τ:Shape):Nat->List SC->Option (List (Aa τ))
 |0,[]=>some []
 |0,_::_=>none
 |n+1,cs=>match Cs τ cs with
  |none=>none
  |some (x,r)=>match Te τ n r with
   |none=>none
   |some xs=>some (x::xs)
def RJ(τ:Shape)(n:Nat)(cs:List SC):Option (List (Aa τ)):=bif Nat.ble n 1048576 then Te τ n cs else none
section types
variable (P:Program)
def aEp:List (Option Shape)->Option Shape
 | []=>some .unit
 |none::_=>none
 |some a::r=>match aEp r with
  |none=>none
  |some b=>some (.pair a b)
def M8:Nat->TypeId->Option Shape
 |0,_=>none
 |d+1,T=>match P.underlying T with
  |some (.int k)=>some (.int k)
  |some (.float k)=>some (.flt k)
  |some .bool=>some .bool
  |some .string=>some .str
  |some (.func _ _ _)=>some .fn
  |some (.slice e)=>match M8 d e with
   |some s=>some (.slice s)
   |none=>none
  |some (.struct fs)=>aEp (fs.toList.map fun f=>M8 d f.type)
  |_=>none
def G7(T:TypeId):Option Bool:=
 match P.underlying T with
 |some (.struct _)=>some true
 |some (.array _ _)=>some true
 |some _=>some false
 |none=>none
def iJ(k:IntKind)(n:Int):Bool:=
 match k with
 |.i8=>decide (-128<=n)&&decide (n<=127)
 |.i16=>decide (-32768<=n)&&decide (n<=32767)
 |.i32=>decide (-2147483648<=n)&&decide (n<=2147483647)
 |.i64=>decide (-9223372036854775808<=n)&&decide (n<=9223372036854775807)
 |.u8=>decide (0<=n)&&decide (n<=255)
 |.u16=>decide (0<=n)&&decide (n<=65535)
 |.u32=>decide (0<=n)&&decide (n<=4294967295)
 |.u64=>decide (0<=n)&&decide (n<=18446744073709551615)
def V4:Value->Option SC
 |.bool b=>some (.v (.bool b))
 |.int k n=>bif iJ k n then some (.v (.int k n))else none
 |.float .f32 b=>bif Nat.blt b 4294967296 then some (.fl .f32 (some b))else none
 |.float .f64 b=>bif Nat.blt b 18446744073709551616 then some (.fl .f64 (some b))else none
 |.string s=>bif Nat.blt s.size 9223372036854775808 then some (.v (.string s))else none
 |.pointer none=>some (.v (.pointer none))
 |.slice none 0 0=>some (.v (.slice none 0 0))
 |.nilFunc=>some (.v .nilFunc)
 |.nilIface=>some (.v .nilIface)
 |.func (.func f) first captured=>match first.toList,captured.toList with
  | [],[]=>some (.fn f [])
  |_,_=>none
 |_=>none
def RS:List Value->Option (List SC)
 | []=>some []
 |v::r=>match V4 v,RS r with
  |some c,some cs=>some (c::cs)
  |_,_=>none
def aT:Value->Option SV
 |.agg cs=>match RS cs.toList with
  |some l=>some (.agg l)
  |none=>none
 |v=>match V4 v with
  |some c=>some (.one c)
  |none=>none
def FY(T:TypeId):Option SV:=
 match P.info? T with
 |some i=>match i.zero with
  |some z=>aT z
  |none=>none
 |none=>none
end types
def AU:List (Nat×TV)->Nat->TV
 | [],_=>.un
 |(n,x)::r,m=>bif Nat.beq n m then x else AU r m
def pb:Bool->Bool->Bool
 |true,b=>b
 |false,b=>!b
def ZH:List (Nat×Nat×Bool×TV)->Nat->Option ((Nat×Bool)×TV)
 | [],_=>none
 |(d,g,p,x)::r,t=>bif Nat.beq d t then some ((g,p),x)else ZH r t
def J1:List (Nat×Nat×Bool×TV)->Nat->Bool->List (Nat×Bool)
 | [],t,p=>[(t,p)]
 |(d,g,q,_)::r,t,p=>bif Nat.beq d t then(t,p)::J1 r g q else J1 r t p
def Rq(tm:List (Nat×TV)):List (Nat×Nat×Bool×TV)->Nat->Bool->Option Bool
 | [],t,p=>match AU tm t with
  |.val (.one (.v (.bool b)))=>some (pb p b)
  |_=>none
 |(d,g,q,x)::r,t,p=>bif Nat.beq d t then
   (match x with
    |.val (.one (.v (.bool b)))=>match Rq tm r g q with
     |some c=>some (c&&pb p b)
     |none=>none
    |_=>none)
  else Rq tm r t p
def Vz:List (Nat×Bool)->Nat->Bool->Bool
 | [],_,_=>false
 |(t,p)::r,g,q=>(Nat.beq t g&&pb p q)||Vz r g q
def ev(s:St)(ctx:List (Nat×Bool)):Operand->Option TV
 |.tmp t=>match ZH s.cs t with
  |some ((g,p),x)=>bif Vz ctx g p then some x else none
  |none=>some (AU s.tm t)
 |.const v=>match aT v with
  |some x=>some (.val x)
  |none=>none
 |.global g=>some (.val (.one (.gptr g)))
 |.func f=>some (.val (.one (.fn f [])))
def AZ(s:St)(ctx:List (Nat×Bool))(x:Operand):Option SC:=
 match ev s ctx x with
 |some (.val (.one c))=>some c
 |_=>none
def EW(s:St)(ctx:List (Nat×Bool))(x:Operand):Option SV:=
 match ev s ctx x with
 |some (.val v)=>some v
 |_=>none
def Et(s:St)(ctx:List (Nat×Bool)):List Operand->Option (List SV)
 | []=>some []
 |x::r=>match EW s ctx x,Et s ctx r with
  |some v,some vs=>some (v::vs)
  |_,_=>none
def Ac(mem:Ae)(b:Nat):Blk:=(mem[b]?).getD .gone
def sN:List SC->Option Nat
 | [c]=>match c with
  |.v (.bool b)=>some (bif b then 1 else 0)
  |.fn g []=>some (g+2)
  |.fnv (some (g,[]))=>some (g+2)
  |_=>none
 |_=>none
def Ig(mem:Ae):List (Nat×Nat)->Option (List Nat×Ae)
 | []=>some ([],mem)
 |(b,0)::r=>match Ac mem b with
  |.raw cs=>match sN cs,Ig (mem.set b .gone) r with
   |some n,some (ns,m)=>some (n::ns,m)
   |_,_=>none
  |_=>none
 |_=>none
def C8(mem:Ae)(c:SC):SC×Ae:=
 match c with
 |.fn f (p::caps)=>match Ig mem (p::caps)with
  |some (ns,m)=>(.fnv (some (f,ns)),m)
  |none=>(.fn f (p::caps),mem)
 |.own b=>match Ac mem b with
  |.arr τ xs=>(.sl τ xs,mem.set b (.froz τ xs))
  |.acc τ xs=>(.sl τ xs,mem.set b (.froz τ xs))
  |.froz τ xs=>(.sl τ xs,mem)
  |_=>(.undef,mem)
 |c=>(c,mem)
def EY:Ae->List SC->List SC×Ae
 |mem,[]=>([],mem)
 |mem,c::r=>match C8 mem c with
  |(c',mem')=>match EY mem' r with
   |(r',mem'')=>(c'::r',mem'')
def FH(mem:Ae):SV->SV×Ae
 |.one c=>match C8 mem c with
  |(c',m)=>(.one c',m)
 |.agg cs=>match EY mem cs with
  |(cs',m)=>(.agg cs',m)
def Mx(mem:Ae)(τ:Shape):SC->Option (List (Aa τ))
 |.sl τ' xs=>CS τ' τ xs
 |.v (.slice none 0 0)=>some []
 |.own b=>match Ac mem b with
  |.arr τ' xs=>CS τ' τ xs
  |.acc τ' xs=>CS τ' τ xs
  |.froz τ' xs=>CS τ' τ xs
  |_=>none
 |_=>none
def lenOf(mem:Ae):SC->Option Nat
 |.sl _ xs=>some xs.length
 |.v (.slice none 0 0)=>some 0
 |.v (.string s)=>some s.size
 |.own b=>match Ac mem b with
  |.arr _ xs=>some xs.length
  |.acc _ xs=>some xs.length
  |.froz _ xs=>some xs.length
  |_=>none
 |_=>none
def MD(mem:Ae):SC->Option (List SC×Nat)
 |.ptr b off=>match Ac mem b with
  |.raw cs=>some (cs,off)
  |_=>none
 |.eptr b i off=>match Ac mem b with
  |.arr τ xs=>some (cellsOf τ (xs.getD i τ.dflt),off)
  |_=>none
 |.iptr τ x off=>some (cellsOf τ x,off)
 |_=>none
def Hi:Nat->List SC->Option (List SC)
 |0,_=>some []
 |_+1,[]=>none
 |n+1,c::r=>match Hi n r with
  |some l=>some (c::l)
  |none=>none
def DT:Nat->List SC->List SC
 |0,l=>l
 |_+1,[]=>[]
 |n+1,_::r=>DT n r
def splice:Nat->List SC->List SC->Option (List SC)
 |0,[],old=>some old
 |0,_::_,[]=>none
 |0,c::r,_::old=>match splice 0 r old with
  |some l=>some (c::l)
  |none=>none
 |_+1,_,[]=>none
 |n+1,new,c::old=>match splice n new old with
  |some l=>some (c::l)
  |none=>none
def aME:SC->Bool
 |.undef=>false
 |_=>true
def FK:Nat->List SC->Bool
 |0,[]=>true
 |n+1,_::r=>FK n r
 |_,_=>false
def AQ(k:IntKind)(x y:Int):Int:=k.wrap (x*2^(min y.toNat k.bits))
def AJ(k:IntKind)(x y:Int):Int:=x.fdiv (2^(min y.toNat k.bits))
def A9(k:IntKind)(x y:Int):Int:=k.wrap ((bv k.bits x &&& bv k.bits y).toNat:Int)
def A7(k:IntKind)(x y:Int):Int:=k.wrap ((bv k.bits x ||| bv k.bits y).toNat:Int)
def n7(k:IntKind)(x y:Int):Int:=k.wrap ((bv k.bits x ^^^ bv k.bits y).toNat:Int)
def JW(k:IntKind)(x y:Int):Int:=k.wrap ((bv k.bits x &&& ~~~(bv k.bits y)).toNat:Int)
def aPa(k:IntKind)(x:Int):Int:=n7 k (if k.signed then -1 else k.max) x
def BC(k:IntKind)(x y:Int):Int:=k.wrap (x.tdiv y)
def RB(op:BinOp)(k:FloatKind)(x y:Nat):Option Nat:=
 match op with
 |.add=>k.format.add x y
 |.sub=>k.format.sub x y
 |.mul=>k.format.mul x y
 |_=>k.format.div x y
def Zs(op:BinOp)(k:FloatKind):Option Nat->Option Nat->Option Nat
 |some x,some y=>RB op k x y
 |_,_=>none
def Im(k:FloatKind):Option Nat->Option Nat->Option Ordering
 |some x,some y=>k.format.order x y
 |_,_=>none
def Rn(op:BinOp):SC->SC->Option (Bool×SC)
 |.v (.int k x),.v (.int k' y)=>
  match op with
  |.shl=>some ((match k'.signed with|true=>decide (0<=y)|false=>true),.v (.int k (AQ k x y)))
  |.shr=>some ((match k'.signed with|true=>decide (0<=y)|false=>true),.v (.int k (AJ k x y)))
  |op=>if k'=k then
    match op with
    |.add=>some (true,.v (.int k (k.wrap (x+y))))
    |.sub=>some (true,.v (.int k (k.wrap (x-y))))
    |.mul=>some (true,.v (.int k (k.wrap (x*y))))
    |.quo=>some (y !=0,.v (.int k (BC k x y)))
    |.rem=>some (y !=0,.v (.int k (x.tmod y)))
    |.and=>some (true,.v (.int k (A9 k x y)))
    |.or=>some (true,.v (.int k (A7 k x y)))
    |.xor=>some (true,.v (.int k (n7 k x y)))
    |.andNot=>some (true,.v (.int k (JW k x y)))
    |.eql=>some (true,.v (.bool (x==y)))
    |.neq=>some (true,.v (.bool (x !=y)))
    |.lss=>some (true,.v (.bool (decide (x<y))))
    |.leq=>some (true,.v (.bool (decide (x<=y))))
    |.gtr=>some (true,.v (.bool (decide (x>y))))
    |.geq=>some (true,.v (.bool (decide (x>=y))))
    |_=>none
   else none
 |.v (.bool x),.v (.bool y)=>
  match op with
  |.eql=>some (true,.v (.bool (x==y)))
  |.neq=>some (true,.v (.bool (!(x==y))))
  |_=>none
 |.v (.string x),.v (.string y)=>
  match op with
  |.eql=>some (true,.v (.bool (x.toList==y.toList)))
  |.neq=>some (true,.v (.bool (x.toList !=y.toList)))
  |_=>none
 |.fl k x,.fl k' y=>
  if k'=k then
   match op with
   |.eql=>some (true,.v (.bool (Im k x y==some .eq)))
   |.neq=>some (true,.v (.bool (Im k x y !=some .eq)))
   |.lss=>some (true,.v (.bool (Im k x y==some .lt)))
   |.leq=>some (true,.v (.bool (Im k x y==some .lt||Im k x y==some .eq)))
   |.gtr=>some (true,.v (.bool (Im k x y==some .gt)))
   |.geq=>some (true,.v (.bool (Im k x y==some .gt||Im k x y==some .eq)))
   |.add=>some (true,.fl k (Zs .add k x y))
   |.sub=>some (true,.fl k (Zs .sub k x y))
   |.mul=>some (true,.fl k (Zs .mul k x y))
   |.quo=>some (true,.fl k (Zs .quo k x y))
   |_=>none
  else none
 |_,_=>none
def wC(op:BinOp)(a b:SC):Option Bool:=
 match b with
 |.v (.pointer none)=>match a with
  |.ptr _ _=>match op with
   |.eql=>some false
   |.neq=>some true
   |_=>none
  |.v (.pointer none)=>match op with
   |.eql=>some true
   |.neq=>some false
   |_=>none
  |_=>none
 |_=>none
def uO(P:Program)(T:TypeId):Bool:=match P.underlying T with|some .bool=>true|_=>false
def aGp(P:Program)(T:TypeId):SC->Bool
 |.v (.bool _)=>uO P T
 |_=>true
def tA(P:Program)(T:TypeId):SC->SC->Option Bool
 |.v (.int k x),.v (.int k' y)=>match P.underlying T with
  |some (.int _)=>if k'=k then some (x==y)else none
  |_=>none
 |.v (.bool x),.v (.bool y)=>match P.underlying T with
  |some .bool=>some (x==y)
  |_=>none
 |_,_=>none
def MH(P:Program):Nat->List Field->List SC->List SC->Option Bool
 |0,_,_,_=>none
 |_+1,[],_,_=>some true
 | k + 1, f :: fs, as, bs => bif f.name != "_" then
   (match(match G7 P f.type with
    |some true=>(match P.underlying f.type with
     |some (.struct gs)=>bif P.stoodInHeld f.type then none else(match Hi (P.cellsOf f.type) (DT f.offset as),Hi (P.cellsOf f.type) (DT f.offset bs)with
      |some a,some b=>MH P k gs.toList a b
      |_,_=>none)
     |_=>none)
    |some false=>(match DT f.offset as,DT f.offset bs with
     |a::_,b::_=>tA P f.type a b
     |_,_=>none)
    |none=>none),MH P k fs as bs with
    |some x,some r=>match fs with
     | []=>some x
     |_::_=>some (x&&r)
    |_,_=>none)
  else none
def xI(op:UnOp):SC->Option SC
 |.v (.int k n)=>match op with
  |.neg=>some (.v (.int k (k.wrap (0-n))))
  |.xor=>some (.v (.int k (aPa k n)))
  |_=>none
 |.v (.bool b)=>match op with
  |.not=>some (.v (.bool !b))
  |_=>none
 |_=>none
inductive LK where
 |win (e:Shape)
 |ref (τ:Shape)
@[reducible] def LK.D:LK->Type
 |.win e=>List (Aa e)×Nat×Nat
 |.ref τ=>Aa τ
@[reducible] def LK.B:LK->Type
 |.win e=>List (Aa e)
 |.ref τ=>Aa τ
abbrev Ab:=List (Bool×Shape)
@[reducible] def DenS:Ab->Type
 | []=>Unit
 |(_,τ)::r=>Aa τ×DenS r
@[reducible] def DenS.dflt0:(S:Ab)->DenS S
 | []=>()
 |(_,τ)::r=>(τ.dflt,DenS.dflt0 r)
def Eh(mem:Ae)(a:Bool)(τ:Shape)(z:SV):Option (Aa τ×Ae):=
 match z with
 |.one c=>bif a then none else(match Cs τ [c]with
  |some (y,[])=>some (y,mem)
  |_=>none)
 |.agg cs=>bif a then(match Cs τ cs with
  |some (y,[])=>some (y,mem)
  |_=>none)else none
def IB(mem:Ae)(a:Bool):(τ:Shape)->SV->Option (Aa τ×Ae)
 |.slice e,z=>bif a then(match z with
  |.one (.own b)=>(match Ac mem b with
   |.arr τ' xs=>(match CS τ' e xs with
    |some xs'=>some (xs',mem.set b .gone)
    |none=>none)
   |.acc τ' xs=>(match CS τ' e xs with
    |some xs'=>some (xs',mem.set b .gone)
    |none=>none)
   |_=>none)
  |.one (.v (.slice none 0 0))=>some ([],mem)
  |_=>none)else Eh mem false (.slice e) z
 |.int k,z=>Eh mem a (.int k) z
 |.flt k,z=>Eh mem a (.flt k) z
 |.bool,z=>Eh mem a .bool z
 |.str,z=>Eh mem a .str z
 |.fn,z=>Eh mem a .fn z
 |.unit,z=>Eh mem a .unit z
 |.pair σ τ,z=>Eh mem a (.pair σ τ) z
 |.box σ,z=>Eh mem a (.box σ) z
 |.ifc,z=>Eh mem a .ifc z
 |.pfn,z=>Eh mem a .pfn z
def CH:Ae->(S:Ab)->List SV->Option (DenS S×Ae)
 |mem,[],[]=>some ((),mem)
 |mem,(a,τ)::S,z::r=>match IB mem a τ z with
  |some (x,m1)=>(match CH m1 S r with
   |some (y,m2)=>some ((x,y),m2)
   |none=>none)
  |none=>none
 |_,_,_=>none
def J9(a:Bool):Shape->Bool
 |.slice _=>a
 |_=>false
def Be:Ae->Ab->List SV->List SV×Ae
 |mem,[],r=>(r,mem)
 |mem,_::_,[]=>([],mem)
 |mem,(a,τ)::S,z::r=>bif J9 a τ then(match Be mem S r with
   |(r',m')=>(z::r',m'))
  else(match FH mem z with
   |(z',m1)=>(match Be m1 S r with
    |(r',m')=>(z'::r',m')))
def DL(mem:Ae)(a:Bool):(τ:Shape)->Aa τ->Option (SV×Ae)
 |.slice e,x=>bif a then some (.one (.own mem.length),mem++[.arr e x])else(match cellsOf (.slice e) x with
  | [c]=>some (.one c,mem)
  |_=>none)
 |.int k,x=>giveP mem a (.int k) x
 |.flt k,x=>giveP mem a (.flt k) x
 |.bool,x=>giveP mem a .bool x
 |.str,x=>giveP mem a .str x
 |.fn,x=>giveP mem a .fn x
 |.unit,x=>giveP mem a .unit x
 |.pair σ τ,x=>giveP mem a (.pair σ τ) x
 |.box σ,x=>giveP mem a (.box σ) x
 |.ifc,x=>giveP mem a .ifc x
 |.pfn,x=>giveP mem a .pfn x
where giveP (mem:Ae) (a:Bool) (τ:Shape) (x:Aa τ):Option (SV×Ae):=
 bif a then some (.agg (cellsOf τ x),mem)else match cellsOf τ x with
  | [c]=>some (.one c,mem)
  |_=>none
def CB:Ae->(S:Ab)->DenS S->Option (List SV×Ae)
 |mem,[],_=>some ([],mem)
 |mem,(a,τ)::S,x=>match DL mem a τ x.1 with
  |some (v,m1)=>(match CB m1 S x.2 with
   |some (r,m2)=>some (v::r,m2)
   |none=>none)
  |none=>none
structure Sum where
 ins:Ab
 outs:Ab
 pre:DenS ins->Bool
 F:DenS ins->DenS outs
structure SumF where
 ins:Ab
 outs:Ab
 pre:Option (Nat×List Nat)->DenS ins->Bool
 F:Option (Nat×List Nat)->DenS ins->DenS outs
def SumF.at(S:SumF)(v:Option (Nat×List Nat)):Sum:=⟨S.ins,S.outs,S.pre v,S.F v⟩
structure SumM where
 ins:Ab
 outs:Ab
 pre:Option (Nat×List Int)->DenS ins->Bool
 F:Option (Nat×List Int)->DenS ins->DenS outs
def SumM.at(S:SumM)(d:Option (Nat×List Int)):Sum:=⟨S.ins,S.outs,S.pre d,S.F d⟩
structure SumL where
 lend:LK
 ins:Ab
 outs:Ab
 pre:lend.D×DenS ins->Bool
 F:lend.D×DenS ins->lend.B×DenS outs
def RN(mem:Ae):LK->SV->Ae
 |.win _,_=>mem
 |.ref _,z=>match z with
  |.one (.ptr b 0)=>(match Ac mem b with
   |.raw cs=>(match EY mem cs with
    |(cs',m1)=>(match Ac m1 b with
     |.raw _=>m1.set b (.raw cs')
     |_=>mem))
   |_=>mem)
  |_=>mem
def ZR(mem:Ae):(k:LK)->SV->Option (Nat×k.D×Ae)
 |.win e,z=>match z with
  |.one (.sub b lo len)=>(match Ac mem b with
   |.arr τ xs=>(match CS τ e xs with
    |some xs'=>some (b,(xs',lo,len),mem.set b .gone)
    |none=>none)
   |_=>none)
  |.one (.own b)=>(match Ac mem b with
   |.arr τ xs=>(match CS τ e xs with
    |some xs'=>some (b,(xs',0,xs.length),mem.set b .gone)
    |none=>none)
   |_=>none)
  |_=>none
 |.ref τ,z=>match z with
  |.one (.ptr b 0)=>(match Ac mem b with
   |.raw cs=>(match Cs τ cs with
    |some (x,[])=>some (b,x,mem.set b .gone)
    |_=>none)
   |_=>none)
  |_=>none
def SI(mem:Ae)(b:Nat):(k:LK)->k.B->Ae
 |.win e,xs=>mem.set b (.arr e xs)
 |.ref τ,x=>mem.set b (.raw (cellsOf τ x))
def VI(b:Nat):SC->Bool
 |.own b'=>Nat.beq b' b
 |.ptr b' _=>Nat.beq b' b
 |.eptr b' _ _=>Nat.beq b' b
 |.sub b' _ _=>Nat.beq b' b
 |.fn _ caps=>caps.any fun p=>Nat.beq p.1 b
 |_=>false
def aEt(b:Nat):Blk->Bool
 |.raw cs=>cs.all fun c=>!(VI b c)
 |_=>true
def SZ(b:Nat)(mem:Ae):Bool:=mem.all (aEt b)
def gQ(mem:Ae):LK->SV->Bool
 |.win _,z=>match z with
  |.one (.sub b _ _)=>(match Ac mem b with|.arr _ _=>true|_=>false)
  |.one (.own b)=>(match Ac mem b with|.arr _ _=>true|_=>false)
  |_=>false
 |.ref _,z=>match z with
  |.one (.ptr b 0)=>(match Ac mem b with|.raw _=>true|_=>false)
  |_=>false
def SX(mem:Ae)(k:LK):List SV->Bool
 | []=>false
 |z::_=>gQ mem k z
inductive PC where
 |v (k:IntKind)|bool|str|fnv|sl (τ:Shape)|fl (k:FloatKind)
 |own (b:Nat)|ptr (b off:Nat)|gptr (g:Nat)|fn (f:FuncId)|nilp|undef|sub (b:Nat)|ifv
@[reducible] def PC.D:PC->Type
 |.v _=>Int
 |.bool=>Bool
 |.str=>ByteArray
 |.fnv=>Option (Nat×List Nat)
 |.ifv=>Option (Nat×List Int)
 |.sl τ=>List (Aa τ)
 |.fl _=>Option Nat
 |.sub _=>Nat×Nat
 |_=>Unit
@[reducible] def TF:List PC->Type
 | []=>Unit
 |c::r=>c.D×TF r
inductive PV where
 |one (c:PC)
 |agg (cs:List PC)
@[reducible] def PV.D:PV->Type
 |.one c=>c.D
 |.agg cs=>TF cs
@[reducible] def WJ:List (Nat×PV)->Type
 | []=>Unit
 |(_,v)::r=>v.D×WJ r
inductive PB where
 |gone
 |raw (cs:List PC)
 |arr (τ:Shape)
 |acc (τ:Shape)
 |froz (τ:Shape)
@[reducible] def PB.D:PB->Type
 |.gone=>Unit
 |.raw cs=>TF cs
 |.arr τ=>List (Aa τ)
 |.acc τ=>List (Aa τ)
 |.froz τ=>List (Aa τ)
@[reducible] def R2:List PB->Type
 | []=>Unit
 |b::r=>b.D×R2 r
structure Pat where
 n:Nat
 tm:List (Nat×PV)
 mem:List PB
@[reducible] def Pat.D(p:Pat):Type:=WJ p.tm×R2 p.mem
def E3(mem:Ae)(len:Nat):(c:PC)->SC->Option c.D
 |.v k,z=>match z with
  |.v (.int k' n)=>if k'=k then some n else none
  |_=>none
 |.bool,z=>match z with
  |.v (.bool b)=>some b
  |_=>none
 |.str,z=>match z with
  |.v (.string b)=>some b
  |_=>none
 |.fnv,z=>match z with
  |.v .nilFunc=>some none
  |.fn f []=>some (some (f,[]))
  |.fnv o=>some o
  |_=>none
 |.ifv,z=>match z with
  |.v .nilIface=>some none
  |.ifv d=>some d
  |_=>none
 |.sl τ,z=>match z with
  |.sl τ' xs=>CS τ' τ xs
  |.v (.slice none 0 0)=>some []
  |.own b=>match Ac mem b with
   |.froz τ' xs=>CS τ' τ xs
   |_=>none
  |_=>none
 |.fl k,z=>match z with
  |.fl k' o=>if k'=k then some o else none
  |_=>none
 |.own b,z=>match z with
  |.own b'=>bif Nat.beq b' b&&Nat.blt b len then some ()else none
  |_=>none
 |.ptr b off,z=>match z with
  |.ptr b' off'=>bif Nat.beq b' b&&Nat.beq off' off&&Nat.blt b len then some ()else none
  |_=>none
 |.gptr g,z=>match z with
  |.gptr g'=>bif Nat.beq g' g then some ()else none
  |_=>none
 |.fn f,z=>match z with
  |.fn f' []=>bif Nat.beq f' f then some ()else none
  |_=>none
 |.nilp,z=>match z with
  |.v (.pointer none)=>some ()
  |_=>none
 |.undef,_=>some ()
 |.sub b,z=>match z with
  |.sub b' lo n=>bif Nat.beq b' b&&Nat.blt b len then some (lo,n)else none
  |_=>none
def sG:(c:PC)->c.D->SC
 |.v k,n=>.v (.int k n)
 |.bool,b=>.v (.bool b)
 |.str,b=>.v (.string b)
 |.fnv,o=>.fnv o
 |.ifv,o=>.ifv o
 |.sl τ,xs=>.sl τ xs
 |.fl k,o=>.fl k o
 |.own b,_=>.own b
 |.ptr b off,_=>.ptr b off
 |.gptr g,_=>.gptr g
 |.fn f,_=>.fn f []
 |.nilp,_=>.v (.pointer none)
 |.undef,_=>.undef
 |.sub b,x=>.sub b x.1 x.2
def Tl(mem:Ae)(len:Nat):(l:List PC)->List SC->Option (TF l)
 | [],[]=>some ()
 |c::r,z::zs=>match E3 mem len c z,Tl mem len r zs with
  |some d,some ds=>some (d,ds)
  |_,_=>none
 |_,_=>none
def gA:(l:List PC)->TF l->List SC
 | [],_=>[]
 |c::r,x=>sG c x.1::gA r x.2
def wJ(mem:Ae)(len:Nat):(v:PV)->TV->Option v.D
 |.one c,.val (.one z)=>E3 mem len c z
 |.agg cs,.val (.agg zs)=>Tl mem len cs zs
 |_,_=>none
def aDt:(v:PV)->v.D->SV
 |.one c,x=>.one (sG c x)
 |.agg cs,x=>.agg (gA cs x)
def i4(s:St)(len:Nat):(l:List (Nat×PV))->Option (WJ l)
 | []=>some ()
 |(t,v)::r=>match wJ s.mem len v (AU s.tm t),i4 s len r with
  |some d,some ds=>some (d,ds)
  |_,_=>none
def gB:(l:List (Nat×PV))->WJ l->List (Nat×TV)
 | [],_=>[]
 |(t,v)::r,x=>(t,.val (aDt v x.1))::gB r x.2
def V2(mem:Ae)(len:Nat):(b:PB)->Blk->Option b.D
 |.gone,_=>some ()
 |.raw cs,.raw zs=>Tl mem len cs zs
 |.arr τ,.arr τ' xs=>CS τ' τ xs
 |.acc τ,.acc τ' xs=>CS τ' τ xs
 |.froz τ,.froz τ' xs=>CS τ' τ xs
 |_,_=>none
def MA:(b:PB)->b.D->Blk
 |.gone,_=>.gone
 |.raw cs,x=>.raw (gA cs x)
 |.arr τ,x=>.arr τ x
 |.acc τ,x=>.acc τ x
 |.froz τ,x=>.froz τ x
def aG(mem:Ae)(len:Nat):(l:List PB)->List Blk->Option (R2 l)
 | [],_=>some ()
 |b::r,z::zs=>match V2 mem len b z,aG mem len r zs with
  |some d,some ds=>some (d,ds)
  |_,_=>none
 |_,_=>none
def UK:(l:List PB)->R2 l->Ae
 | [],_=>[]
 |b::r,x=>MA b x.1::UK r x.2
def Hh(p:Pat)(s:St)(m:Nat:=0):Option p.D:=
 bif Nat.beq s.n p.n&&Nat.beq s.m0 m&&Nat.ble m p.mem.length then
  (match i4 s p.mem.length p.tm,aG s.mem p.mem.length p.mem s.mem with
   |some x,some y=>some (x,y)
   |_,_=>none)
 else none
def MB(p:Pat)(x:p.D)(m:Nat:=0):St:={n:=p.n,m0:=m,tm:=gB p.tm x.1,mem:=UK p.mem x.2,cs:=[] }
structure LoopSpec where
 pat:Pat
 accs:List (Nat×Shape)
 exits:List (Nat×Pat)
 ret:Option Pat
 run:{R:Type}->pat.D->(Nat->St->Option R)->(St->Option R)->Option R
 /-- so RJ names of the caller's lie ahead -/
 m0:Nat:=0
structure Cfg where
 P:Program
 sums:List (FuncId×Sum)
 loops:List (FuncId×Nat×LoopSpec)
 globs:List (Nat×Sigma fun τ=>List (Aa τ))
 /-- are rows that are cut at their end Ez the call's own? -/
 keep:Bool:=false
 /-- functions to which something is lent -/
 lsums:List (FuncId×SumL):=[]
 /-- is a row that is cut at both ends a piece of it? -/
 cut:Bool:=false
 /-- loops without a spec are followed for so RJ rounds -/
 unroll:Nat:=0
 /-- functions that are data: the call's result's type,what such a call computes -/
 fns:List (TypeId×SumF):=[]
 /-- methods of an interface's value: the name,what such a call computes -/
 meths:List (String×SumM):=[]
def ML(mem:Ae):Ab->List SV->Bool
 | [],[]=>true
 |(a,τ)::S,z::r=>(bif J9 a τ then(match z with
  |.one (.own b)=>(match Ac mem b with
   |.arr _ _=>true
   |.acc _ _=>true
   |_=>false)
  |.one (.v (.slice none 0 0))=>true
  |_=>false)else true)&&ML mem S r
 |_,_=>false
def Il:List (FuncId×Sum)->FuncId->Ae->List SV->Option Sum
 | [],_,_,_=>none
 |(g,S)::r,f,mem,args=>bif Nat.beq g f&&ML mem S.ins args then some S else Il r f mem args
def Zq:List (FuncId×Nat×LoopSpec)->FuncId->Nat->Option LoopSpec
 | [],_,_=>none
 |(g,k,S)::r,f,n=>bif Nat.beq g f&&Nat.beq k n then some S else Zq r f n
def MK:List (Nat×Sigma fun τ=>List (Aa τ))->Nat->Option (Sigma fun τ=>List (Aa τ))
 | [],_=>none
 |(g,S)::r,f=>bif Nat.beq g f then some S else MK r f
def Cfg.sum(C:Cfg)(f:FuncId)(mem:Ae)(args:List SV):Option Sum:=Il C.sums f mem args
def J3:List (FuncId×SumL)->FuncId->Ae->List SV->Option SumL
 | [],_,_,_=>none
 |(g,S)::r,f,mem,args=>bif Nat.beq g f&&SX mem S.lend args then some S else J3 r f mem args
def Cfg.lsum(C:Cfg)(f:FuncId)(mem:Ae)(args:List SV):Option SumL:=J3 C.lsums f mem args
def Cfg.loop(C:Cfg)(f:FuncId)(k:Nat):Option LoopSpec:=Zq C.loops f k
def Cfg.glob(C:Cfg)(g:Nat):Option (Sigma fun τ=>List (Aa τ)):=MK C.globs g
def Nd:List SV->TV
 | [x]=>.val x
 |l=>.tup l
def Rz(mem:Ae)(I:Ab)(args:List SV):Bool:=
 match Be mem I args with
 |(args',m1)=>match CH m1 I args' with
  |some _=>true
  |none=>false
def Rx(mem:Ae)(T:TypeId)(args:List SV):List (TypeId×SumF)->Option SumF
 | []=>none
 |(T',S)::r=>bif Nat.beq T' T&&Rz mem S.ins args then some S else Rx mem T args r
def Ry(mem:Ae)(m:String)(args:List SV):List (String×SumM)->Option SumM
 | []=>none
 |(m',S)::r=>bif m'==m&&Rz mem S.ins args then some S else Ry mem m args r
def ZQ:List SC->Option (List Int)
 | []=>some []
 |.v (.int .i64 n)::r=>match ZQ r with
  |some l=>some (n::l)
  |none=>none
 |_=>none
def FF(mem:Ae)(S:Sum)(args:List SV):Option (Bool×TV×Ae):=
 match Be mem S.ins args with
 |(args',m1)=>match CH m1 S.ins args' with
  |some x=>match CB x.2 S.outs (S.F x.1)with
   |some (vs,mem')=>some (S.pre x.1,Nd vs,mem')
   |none=>none
  |none=>none
inductive Res where
 |ok (g:Bool) (x:TV) (mem:Ae)
 |inl (f:FuncId) (args:List SV)
def E0(s:St)(ctx:List (Nat×Bool))(x:Operand):Option Int:=
 match AZ s ctx x with
 |some (.v (.int _ n))=>some n
 |_=>none
def Zp(P:Program)(T:TypeId)(i:Nat):Option (Nat×TypeId):=
 match P.underlying T with
 |some (.struct fs)=>match fs.toList[i]? with
  |some f=>bif Nat.beq (P.cellsOf f.type) 0 then none else some (f.offset,f.type)
  |none=>none
 |_=>none
def CU(P:Program)(e:TypeId):Option Shape:=
 match M8 P 12 e with
 |some τ=>bif Nat.beq (P.cellsOf e) τ.width then some τ else none
 |none=>none
def IA(At:Nat->Option (Nat×Nat)):List (Nat×SV)->List SC->Option (List SC)
 | [],old=>some old
 |(i,x)::r,old=>match At i with
  |none=>none
  |some (off,size)=>bif FK size x.cells then
    (match splice off x.cells old with
     |some old'=>IA At r old'
     |none=>none)
   else none
def Hc(s:St)(ctx:List (Nat×Bool)):List (Nat×Operand)->Option (List (Nat×SV))
 | []=>some []
 |(i,x)::r=>match EW s ctx x,Hc s ctx r with
  |some v,some vs=>some ((i,v)::vs)
  |_,_=>none
def Y5:List SC->Bool
 | []=>true
 |c::r=>aME c&&Y5 r
def Ei(mem:Ae):List SV->Option (List (Nat×Nat))
 | []=>some []
 |.one (.ptr b off)::r=>match Ac mem b,Ei mem r with
  |.raw _,some l=>some ((b,off)::l)
  |_,_=>none
 |_=>none
def Y7(mem:Ae):List (Nat×Nat)->Bool
 | []=>true
 |(b,_)::r=>match Ac mem b with
  |.raw _=>Y7 mem r
  |_=>false
def Ef(b:Nat):SC->SC
 |.own b'=>bif Nat.beq b b' then .undef else .own b'
 |c=>c
def aD0(b:Nat):SV->SV
 |.one c=>.one (Ef b c)
 |.agg cs=>.agg (cs.map (Ef b))
def SP(b:Nat):TV->TV
 |.un=>.un
 |.val x=>.val (aD0 b x)
 |.tup l=>.tup (l.map (aD0 b))
def Ru(b:Nat):Blk->Blk
 |.raw cs=>.raw (cs.map (Ef b))
 |x=>x
def aY(P:Program)(e:TypeId):Bool:=
 match FY P e with
 |some z=>FK (P.cellsOf e) z.cells
 |none=>false
def wP(b:Bool):Bool:=(pp ⟨(⟨b,rfl⟩:{c:Bool // c=b})⟩).1
theorem aHH(b:Bool):wP b=b:=(pp ⟨(⟨b,rfl⟩:{c:Bool // c=b})⟩).2
def wQ(n:Nat)(b:Bool):Bool:=bif Nat.blt 15 n then wP b else b
theorem aUK(n:Nat)(b:Bool):wQ n b=b:=by
 unfold wQ;cases Nat.blt 15 n with
 |true=>exact aHH b
 |false=>rfl
def E1:Int:=140737488355328
def wM(n b:Nat):Bool:=Nat.ble (n*2*b) 140737488355328
def jA:Operand->Operand->Bool
 |.tmp t,.tmp t'=>Nat.beq t t'
 |.const (.int k a),.const (.int k' b)=>decide (k=k')&&decide (a=b)
 |_,_=>false
def aHw(mem:Ae)(τ:Shape)(b:Nat):Option (List (Aa τ)):=
 match Ac mem b with
 |.arr τ' xs=>CS τ' τ xs
 |.acc τ' xs=>CS τ' τ xs
 |_=>none
def RW(C:Cfg)(s:St)(ctx:List (Nat×Bool))(x:Operand)(lo mx:Option Operand):Option Nat:=
 bif C.keep&&lo.isNone&&mx.isNone then(match AZ s ctx x with
  |some (.own b)=>(match Ac s.mem b with
   |.arr _ _=>some b
   |.acc _ _=>some b
   |_=>none)
  |_=>none)else none
def Nb(C:Cfg)(s:St)(ctx:List (Nat×Bool))(T:TypeId)(x:Operand)(lo hi mx:Option Operand):Option (Bool×SC):=
 match mx,AZ s ctx x with
 |none,some (.own b)=>bif C.cut then(match lo,hi,C.P.underlying T,Ac s.mem b with
  |some l,some h,some (.slice e),.arr τ' xs=>(match CU C.P e,E0 s ctx l,E0 s ctx h with
   |some τ,some l,some h=>if τ'=τ then some (decide (0<=l)&&decide (l<=h)&&decide (h<=(xs.length:Int)),.sub b l.toNat (h.toNat-l.toNat))else none
   |_,_,_=>none)
  |_,_,_,_=>none)else none
 |none,some (.ptr b 0)=>(match lo,hi,C.P.underlying T,Ac s.mem b with
  |none,none,some (.array n e),.arr τ' xs=>(match CU C.P e with
   |some τ=>if τ'=τ then(bif Nat.beq xs.length n then some (true,.sub b 0 xs.length)else none)else none
   |none=>none)
  |_,_,_,_=>none)
 |_,_=>none
def Ax(C:Cfg)(s:St)(ctx:List (Nat×Bool))(o:Oper):Option Res:=
 let P:=C.P
 match o.op with
 |.move x=>match ev s ctx x with
  |some v=>some (.ok true v s.mem)
  |none=>none
 |.assign x=>match ev s ctx x with
  |some v=>some (.ok true v s.mem)
  |none=>none
 |.pick c a b=>match c with
  |.tmp t=>match AZ s ctx (.tmp t),AZ s ((t,true)::ctx) a,AZ s ((t,false)::ctx) b with
   |some (.v (.bool cb)),some (.v (.bool x)),some (.v (.bool y))=>
    (match a,b with
     |.const _,_=>(match x with
      |true=>some (.ok true (.val (.one (.v (.bool (cb||y))))) s.mem)
      |false=>some (.ok true (.val (.one (.v (.bool (bif cb then x else y))))) s.mem))
     |_,.const _=>(match y with
      |false=>some (.ok true (.val (.one (.v (.bool (cb&&x))))) s.mem)
      |true=>some (.ok true (.val (.one (.v (.bool (bif cb then x else y))))) s.mem))
     |_,_=>some (.ok true (.val (.one (.v (.bool (bif cb then x else y))))) s.mem))
   |_,_,_=>none
  |_=>none
 |.alloc T=>match FY P T,P.underlying T with
  |some z,some (.array n e)=>match CU P e with
   |some τ=>match RJ τ n z.cells with
    |some xs=>some (.ok true (.val (.one (.ptr s.mem.length 0))) (s.mem++[.arr τ xs]))
    |none=>none
   |none=>none
  |some z,some _=>some (.ok true (.val (.one (.ptr s.mem.length 0))) (s.mem++[.raw z.cells]))
  |_,_=>none
 |.box T x=>match EW s ctx x,P.underlying T with
  |some v,some (.array n e)=>match CU P e with
   |some τ=>match RJ τ n v.cells with
    |some xs=>some (.ok true (.val (.one (.ptr s.mem.length 0))) (s.mem++[.arr τ xs]))
    |none=>none
   |none=>none
  |some v,some _=>some (.ok true (.val (.one (.ptr s.mem.length 0))) (s.mem++[.raw v.cells]))
  |_,_=>none
 |.build T parts=>match FY P T,Hc s ctx parts.toList,P.underlying T with
  |some z,some ps,some (.struct fs)=>bif fs.toList.all (fun f=>(P.info? f.type).isSome)then
   (match IA (fun i=>match fs.toList[i]? with|some f=>some (f.offset,P.cellsOf f.type)|none=>none) ps z.cells with
    |some cs=>some (.ok true (.val (.agg cs)) s.mem)
    |none=>none)
   else none
  |some z,some ps,some (.array _ e)=>bif(P.info? e).isSome then
   (match IA (fun i=>some (i*P.cellsOf e,P.cellsOf e)) ps z.cells with
    |some cs=>some (.ok true (.val (.agg cs)) s.mem)
    |none=>none)
   else none
  |_,_,_=>none
 |.buildSlice T n parts=>match P.underlying T with
  |some (.slice e)=>match CU P e,FY P e,Hc s ctx parts.toList with
   |some τ,some z,some ps=>
    (match IA (fun i=>some (i*P.cellsOf e,P.cellsOf e)) ps ((ax n z.cells).flatten)with
     |some cs=>match EY s.mem cs with
      |(cs',mem')=>match RJ τ n cs' with
       |some xs=>bif Nat.ble (n*P.cellsOf e) 16777216&&Nat.blt 0 (P.cellsOf e)&&FK (P.cellsOf e) z.cells&&Nat.blt 0 n then some (.ok true (.val (.one (.sl τ xs))) mem')else none
       |none=>none
     |none=>none)
   |_,_,_=>none
  |_=>none
 |.load T x=>match AZ s ctx x with
  |some a=>match MD s.mem a,G7 P T with
   |some (cs,off),some true=>match Hi (P.cellsOf T) (DT off cs)with
    |some l=>some (.ok true (.val (.agg l)) s.mem)
    |none=>none
   |some (cs,off),some false=>match DT off cs with
    |c::_=>some (.ok true (.val (.one c)) s.mem)
    | []=>none
   |_,_=>none
  |none=>none
 |.store T x y=>match AZ s ctx x,EW s ctx y with
  |some (.ptr b off),some v=>match Ac s.mem b with
   |.raw cs=>bif FK (P.cellsOf T) v.cells&&Y5 v.cells&&Nat.blt 0 (P.cellsOf T)then
     (match splice off v.cells cs with
      |some cs'=>some (.ok true .un (s.mem.set b (.raw cs')))
      |none=>none)
    else none
   |_=>none
  |some (.eptr b i off),some v=>match FH s.mem v with
   |(v',mem')=>match Ac mem' b with
    |.arr τ xs=>bif FK (P.cellsOf T) v'.cells&&Y5 v'.cells&&Nat.blt 0 (P.cellsOf T)then
      (match splice off v'.cells (cellsOf τ (xs.getD i τ.dflt))with
       |some cs'=>match Cs τ cs' with
        |some (x',[])=>some (.ok true .un (mem'.set b (.arr τ (xs.set i x'))))
        |_=>none
       |none=>none)
     else none
    |_=>none
  |_,_=>none
 |.nilCheck x=>match ev s ctx x with
  |some (.val (.one (.ptr b off)))=>match Ac s.mem b with
   |.raw _=>some (.ok true (.val (.one (.ptr b off))) s.mem)
   |_=>none
  |_=>none
 |.binOp op T x y _=>match EW s ctx x,EW s ctx y with
  |some (.one a),some (.one b)=>bif aGp P T a then
    (match Rn op a b with
     |some (g,c)=>some (.ok g (.val (.one c)) s.mem)
     |none=>match wC op a b,P.underlying T with
      |some r,some (.pointer _)=>some (.ok true (.val (.one (.v (.bool r)))) s.mem)
      |_,_=>none)
   else none
  |some (.agg a),some (.agg b)=>match P.underlying T with
   |some (.struct fs)=>bif !(P.eqGuardType P.depth T)&&!(P.stoodInHeld T)then
     (match op,MH P 40 fs.toList a b with
      |.eql,some r=>some (.ok true (.val (.one (.v (.bool r)))) s.mem)
      |.neq,some r=>some (.ok true (.val (.one (.v (.bool !r)))) s.mem)
      |_,_=>none)
    else none
   |_=>none
  |_,_=>none
 |.unOp op _ x=>match AZ s ctx x with
  |some a=>match xI op a with
   |some c=>some (.ok true (.val (.one c)) s.mem)
   |none=>none
  |none=>none
 |.convert src dst x=>match P.underlying dst,AZ s ctx x with
  |some (.int k),some (.v (.int _ n))=>match P.underlying src with
   |some _=>some (.ok true (.val (.one (.v (.int k (k.wrap n))))) s.mem)
   |none=>none
  |_,_=>none
 |.makeSlice T l c=>match P.underlying T,E0 s ctx l,E0 s ctx c with
  |some (.slice e),some n,some m=>match CU P e,FY P e with
   |some τ,some z=>match Cs τ z.cells with
    |some (d,[])=>
     bif jA l c&&Nat.blt 0 (P.cellsOf e)&&Nat.blt 0 (P.bytesOf e)then
      some (.ok (decide (0<=n)&&decide (n*(P.bytesOf e:Int)<=E1)) (.val (.one (.own s.mem.length))) (s.mem++[.arr τ (ax n.toNat d)]))
     else bif Nat.blt 0 (P.cellsOf e)&&Nat.blt 0 (P.bytesOf e)then
      some (.ok (decide (0<=n)&&decide (n<=m)&&decide (m*(P.bytesOf e:Int)<=E1)) (.val (.one (.own s.mem.length))) (s.mem++[.acc τ (ax n.toNat d)]))
     else none
    |_=>none
   |_,_=>none
  |_,_,_=>none
 |.slice T x lo hi mx=>match Nb C s ctx T x lo hi mx with
  |some (g,c)=>some (.ok g (.val (.one c)) s.mem)
  |none=>match RW C s ctx x lo mx with
  |some b=>(match P.underlying T with
   |some (.slice e)=>(match CU P e with
    |some τ=>(match aHw s.mem τ b with
     |some xs=>(match(match hi with|none=>some (xs.length:Int)|some a=>E0 s ctx a)with
      |some h=>some (.ok (decide (0<=h)&&decide (h<=(xs.length:Int))) (.val (.one (.own s.mem.length))) (s.mem.set b .gone++[.arr τ (xs.take h.toNat)]))
      |none=>none)
     |none=>none)
    |none=>none)
   |_=>none)
  |none=>match mx,P.underlying T,AZ s ctx x with
  |none,some (.slice e),some c=>match CU P e with
   |some τ=>match C8 s.mem c with
    |(c',mem')=>match Mx mem' τ c' with
     |some xs=>
      (match(match lo with|none=>some (0:Int)|some a=>E0 s ctx a),(match hi with|none=>some (xs.length:Int)|some a=>E0 s ctx a)with
       |some l,some h=>some (.ok (decide (0<=l)&&decide (l<=h)&&decide (h<=(xs.length:Int))) (.val (.one (.sl τ ((xs.take h.toNat).drop l.toNat)))) mem')
       |_,_=>none)
     |none=>none
   |none=>none
  |_,_,_=>none
 |.fieldAddr T x i=>match AZ s ctx x,Zp P T i with
  |some (.ptr b off),some (d,_)=>match Ac s.mem b with
   |.raw _=>some (.ok true (.val (.one (.ptr b (off+d)))) s.mem)
   |_=>none
  |some (.eptr b j off),some (d,_)=>match Ac s.mem b with
   |.arr _ _=>some (.ok true (.val (.one (.eptr b j (off+d)))) s.mem)
   |_=>none
  |some (.iptr τ y off),some (d,_)=>some (.ok true (.val (.one (.iptr τ y (off+d)))) s.mem)
  |_,_=>none
 |.field T x i=>match EW s ctx x,Zp P T i with
  |some (.agg cs),some (d,ft)=>match G7 P ft with
   |some true=>match Hi (P.cellsOf ft) (DT d cs)with
    |some l=>some (.ok true (.val (.agg l)) s.mem)
    |none=>none
   |some false=>match DT d cs with
    |c::_=>some (.ok true (.val (.one c)) s.mem)
    | []=>none
   |none=>none
  |_,_=>none
 |.indexAddr T x ix=>match P.underlying T,AZ s ctx x,E0 s ctx ix with
  |some (.array n e),some (.gptr g),some i=>match C.glob g,CU P e with
   |some ⟨τ,xs⟩,some τ'=>if τ'=τ then
     bif Nat.beq xs.length n then some (.ok (wQ n (decide (0<=i)&&decide (i<(n:Int)))) (.val (.one (.iptr τ (xs.getD i.toNat τ.dflt) 0))) s.mem)else none
    else none
   |_,_=>none
  |some (.array n e),some (.ptr b 0),some i=>match Ac s.mem b,CU P e with
   |.arr τ xs,some τ'=>if τ'=τ then
     some (.ok (decide (0<=i)&&decide (i<(n:Int))&&decide (i<(xs.length:Int))) (.val (.one (.eptr b i.toNat 0))) s.mem)
    else none
   |_,_=>none
  |some (.slice e),some c,some i=>match CU P e with
   |some τ=>match c with
    |.own b=>match Ac s.mem b with
     |.arr τ' xs=>if τ'=τ then
       some (.ok (decide (0<=i)&&decide (i<(xs.length:Int))) (.val (.one (.eptr b i.toNat 0))) s.mem)
      else none
     |.acc τ' xs=>if τ'=τ then
       some (.ok (decide (0<=i)&&decide (i<(xs.length:Int))) (.val (.one (.iptr τ' (xs.getD i.toNat τ'.dflt) 0))) (s.mem.set b (.froz τ' xs)))
      else none
     |.froz τ' xs=>if τ'=τ then
       some (.ok (decide (0<=i)&&decide (i<(xs.length:Int))) (.val (.one (.iptr τ' (xs.getD i.toNat τ'.dflt) 0))) s.mem)
      else none
     |_=>none
    |.sl τ' xs=>if τ'=τ then
      some (.ok (decide (0<=i)&&decide (i<(xs.length:Int))) (.val (.one (.iptr τ' (xs.getD i.toNat τ'.dflt) 0))) s.mem)
     else none
    |.sub b lo n=>match Ac s.mem b with
     |.arr τ' _=>if τ'=τ then
       some (.ok (decide (0<=i)&&decide (i<(n:Int))) (.val (.one (.eptr b (lo+i.toNat) 0))) s.mem)
      else none
     |_=>none
    |_=>none
   |none=>none
  |_,_,_=>none
 |.index T x ix=>match P.underlying T,AZ s ctx x,E0 s ctx ix with
  |some .string,some (.v (.string str)),some i=>
   some (.ok (decide (0<=i)&&decide (i<(str.size:Int))) (.val (.one (.v (.int .u8 ((str.data.toList.getD i.toNat 0).toNat:Int))))) s.mem)
  |_,_,_=>none
 |.extract x i=>match ev s ctx x with
  |some (.tup l)=>match l[i]? with
   |some v=>some (.ok true (.val v) s.mem)
   |none=>none
  |_=>none
 |.makeFunc fn first captured=>match fn,first.toList,captured.toList with
  |.func f,[],caps=>match Et s ctx caps with
   |some vs=>match Ei s.mem vs with
    |some cl=>some (.ok true (.val (.one (.fn f cl))) s.mem)
    |none=>none
   |none=>none
  |_,_,_=>none
 |.makeInterface T x=>match EW s ctx x,P.underlying T with
  |some (.agg cs),some (.struct _)=>match ZQ cs with
   |some ns=>some (.ok true (.val (.one (.ifv (some (T,ns))))) s.mem)
   |none=>none
  |_,_=>none
 |.call c=>match c.callee with
  |.builtin .len=>match c.args.toList,c.argTypes.toList with
   | [x],[T]=>match P.underlying T with
    |some (.array n _)=>bif Nat.blt n 9223372036854775808 then some (.ok true (.val (.one (.v (.int .i64 (n:Int))))) s.mem)else none
    |some (.slice _)=>match AZ s ctx x with
     |some a=>match a with
      |.v (.string _)=>none
      |.sub b _ n=>(match Ac s.mem b with
       |.arr _ _=>some (.ok true (.val (.one (.v (.int .i64 (n:Int))))) s.mem)
       |_=>none)
      |a=>match lenOf s.mem a with
       |some n=>some (.ok true (.val (.one (.v (.int .i64 (n:Int))))) s.mem)
       |none=>none
     |none=>none
    |some .string=>match AZ s ctx x with
     |some (.v (.string str))=>some (.ok true (.val (.one (.v (.int .i64 (str.size:Int))))) s.mem)
     |_=>none
    |_=>none
   |_,_=>none
  |.builtin .min=>match c.args.toList with
   | [x,y]=>match AZ s ctx x,AZ s ctx y with
    |some (.v (.int k a)),some (.v (.int k' b))=>if k'=k then some (.ok true (.val (.one (.v (.int k (if b<a then b else a))))) s.mem)else none
    |_,_=>none
   |_=>none
  |.builtin .max=>match c.args.toList with
   | [x,y]=>match AZ s ctx x,AZ s ctx y with
    |some (.v (.int k a)),some (.v (.int k' b))=>if k'=k then some (.ok true (.val (.one (.v (.int k (if b>a then b else a))))) s.mem)else none
    |_,_=>none
   |_=>none
  |.builtin .append=>match c.args.toList,c.argTypes.toList with
   | [x,y],T::T2::_=>match P.underlying T,P.underlying T2,AZ s ctx x,AZ s ctx y with
    |some (.slice e),some (.slice _),some a,some yc=>match CU P e with
     |some τ=>match C8 s.mem yc with
      |(yc',mem')=>match Mx mem' τ yc',a with
       |some ys,.v (.slice none 0 0)=>
        some (.ok (wM ys.length (P.bytesOf e)&&Nat.blt 0 (P.bytesOf e)&&aY P e) (.val (.one (.own mem'.length))) (mem'++[.acc τ ys]))
       |some ys,.own b=>match Ac mem' b with
        |.acc τ' xs=>match CS τ' τ xs with
         |some xs'=>some (.ok (wM (xs'.length+ys.length) (P.bytesOf e)&&Nat.blt 0 (P.bytesOf e)&&aY P e) (.val (.one (.own b))) (mem'.set b (.acc τ (xs'++ys))))
         |none=>none
        |_=>none
       |_,_=>none
     |none=>none
    |_,_,_,_=>none
   |_,_=>none
  |.builtin .copy=>match c.args.toList,c.argTypes.toList with
   | [x,y],T::_=>match P.underlying T,AZ s ctx x,AZ s ctx y with
    |some (.slice e),some (.own b),some yc=>match CU P e with
     |some τ=>match C8 s.mem yc with
      |(yc',mem')=>match Mx mem' τ yc',Ac mem' b with
       |some ys,.arr τ' xs=>match CS τ' τ xs with
        |some xs'=>some (.ok true (.val (.one (.v (.int .i64 ((min ys.length xs'.length:Nat):Int))))) (mem'.set b (.arr τ (ys.take xs'.length++xs'.drop ys.length))))
        |none=>none
       |_,_=>none
     |none=>none
    |some (.slice e),some (.sub b lo n),some yc=>match CU P e with
     |some τ=>match C8 s.mem yc with
      |(yc',mem')=>match Mx mem' τ yc',Ac mem' b with
       |some ys,.arr τ' xs=>match CS τ' τ xs with
        |some xs'=>some (.ok true (.val (.one (.v (.int .i64 ((min ys.length n:Nat):Int))))) (mem'.set b (.arr τ (xs'.take lo++ys.take n++xs'.drop (lo+min ys.length n)))))
        |none=>none
       |_,_=>none
     |none=>none
    |_,_,_=>none
   |_,_=>none
  |.value fo=>match AZ s ctx fo,Et s ctx c.args.toList with
   |some (.fn f caps),some args=>
    (match(match caps,o.guard with | [],none=>C.lsum f s.mem args|_,_=>none)with
     |some L=>(match args with
      |z::rest=>(match Be (RN s.mem L.lend z) L.ins rest with
       |(rest',m1)=>(match CH m1 L.ins rest' with
        |some (x,m2)=>(match ZR m2 L.lend z with
         |some (b,xl,m3)=>bif SZ b m3 then(match CB (SI m3 b L.lend (L.F (xl,x)).1) L.outs (L.F (xl,x)).2 with
          |some (vs,m4)=>some (.ok (L.pre (xl,x)) (Nd vs) m4)
          |none=>none)else none
         |none=>none)
        |none=>none))
      | []=>none)
     |none=>match(match caps with | []=>C.sum f s.mem args|_=>none)with
     |some S=>(match FF s.mem S args with
      |some (g,x,m)=>some (.ok g x m)
      |none=>none)
     |none=>bif Y7 s.mem caps then some (.inl f (args++caps.map fun p=>.one (.ptr p.1 p.2)))else none)
   |some (.fnv v),some args=>(match Rx s.mem o.type args C.fns with
    |some S=>(match FF s.mem (S.at v) args with
     |some (g,x,m)=>some (.ok g x m)
     |none=>none)
    |none=>none)
   |_,_=>none
  |.invoke q m=>match AZ s ctx q,Et s ctx c.args.toList with
   |some (.ifv d),some args=>(match Ry s.mem m args C.meths with
    |some S=>(match FF s.mem (S.at d) args with
     |some (g,x,m)=>some (.ok g x m)
     |none=>none)
    |none=>none)
   |_,_=>none
  |_=>none
 |_=>none
def MT:Op->Bool
 |.alloc _|.box _ _|.store _ _ _|.makeSlice _ _ _=>false
 |.call c=>match c.callee with
  |.builtin .append|.builtin .copy=>false
  |_=>true
 |_=>true
def FO(d:Nat):List (Nat×Nat×Bool×TV)->Bool
 | []=>true
 |(e,g,_,_)::r=>!(Nat.beq e d)&&!(Nat.beq g d)&&FO d r
def RO(s:St)(o:Oper)(x:TV)(mem:Ae):Option St:=
 match o.dst with
 |none=>some {s with mem:=mem}
 |some d=>bif FO d s.cs&&Nat.blt d s.n then some {s with tm:=(d,x)::s.tm,mem:=mem}else none
def aP(o:Oper)(x:TV)(s:St)(mem:Ae):St×Ae:=
 match o.op with
 |.call c=>match c.callee with
  |.builtin .append=>match x with
   |.val (.one (.own b))=>({s with tm:=s.tm.map fun p=>(p.1,SP b p.2),cs:=s.cs.map fun p=>(p.1,p.2.1,p.2.2.1,SP b p.2.2.2)},mem.map (Ru b))
   |_=>(s,mem)
  |_=>(s,mem)
 |_=>(s,mem)
def EZ(ops:List Oper)(gi:Nat):Option Nat:=
 match ops[gi]? with
 |some o=>o.dst
 |none=>none
def Ez(op:Op)(mem mem':Ae):Bool:=
 match op with
 |.call c=>match c.callee with
  |.builtin _=>true
  |_=>Nat.beq mem'.length mem.length
 |.slice _ _ _ _ _=>Nat.beq mem'.length mem.length
 |_=>true
def ZT(op:Op)(mem mem':Ae):Bool:=
 match op with
 |.call c=>match c.callee with
  |.value _=>Nat.beq mem'.length (mem.length+1)
  |_=>false
 |_=>false
inductive Step where
 |ok (g:Bool) (s:St)
 |inl (f:FuncId) (args:List SV)
 /-- under a guard: does it hold; the slots,the guard's wish -/
 |gin (c:Bool) (t d:Nat) (p:Bool) (f:FuncId) (args:List SV)
def step(C:Cfg)(ops:List Oper)(o:Oper)(s:St):Option Step:=
 match o.guard with
 |none=>match Ax C s [] o with
  |some (.ok g x mem)=>match aP o x s mem with
   |(s',mem')=>match RO s' o x mem' with
    |some s''=>some (.ok g s'')
    |none=>none
  |some (.inl f args)=>some (.inl f args)
  |none=>none
 |some (gi,p)=>match EZ ops gi,o.dst with
  |some t,some d=>bif MT o.op&&FO d s.cs&&!(Nat.beq d t)&&Nat.blt d s.n then
    (match Rq s.tm s.cs t p,Ax C s (J1 s.cs t p) o with
     |some c,some (.ok g x mem)=>bif Ez o.op s.mem mem then some (.ok (g||!c) {s with tm:=(d,.un)::s.tm,cs:=(d,t,p,x)::s.cs,mem:=mem})else none
     |some c,some (.inl f args)=>some (.gin c t d p f args)
     |_,_=>none)
   else none
  |_,_=>none
def BS(o:Oper):List Nat:=(o.after.toList.filter fun e=>Region.binds .any e).map (·.on)
def Gp:List (List Nat)->List Oper->List (List Nat)
 |acc,[]=>acc
 |acc,o::r=>Gp (acc++[(BS o).flatMap fun i=>i::(acc[i]?).getD []]) r
def xE:List Operand->List Nat
 | []=>[]
 |.tmp t::r=>t::xE r
 |_::r=>xE r
def iA(ops:List Oper):Nat->Option (Nat×Bool)->List Nat
 |0,_=>[]
 |_+1,none=>[]
 |k+1,some (g,_)=>match ops[g]? with
  |some o=>match o.dst with
   |some t=>t::iA ops k o.guard
   |none=>iA ops k o.guard
  |none=>[]
def looks(ops:List Oper)(o:Oper):List Nat:=iA ops 12 o.guard++xE o.op.operands.toList
def Ba:Op->Nat
 |.move _|.assign _|.pick _ _ _|.binOp _ _ _ _ _|.unOp _ _ _|.convert _ _ _|.extract _ _|.build _ _|.field _ _ _|.makeInterface _ _=>0
 |.load _ _|.nilCheck _|.makeFunc _ _ _|.fieldAddr _ _ _|.buildSlice _ _ _|.indexAddr _ _ _|.index _ _ _|.slice _ _ _ _ _=>1
 |.store _ _ _|.alloc _|.box _ _=>2
 |.call c=>match c.callee with
  |.value _|.invoke _ _=>1
  |.builtin .len|.builtin .min|.builtin .max=>1
  |_=>3
 |_=>3
inductive FP where
 |pure
 |rd (o:Option Nat)
 |wr (o:Option Nat)
 |mk (b:Nat)
def C3:FP->FP->Bool
 |.pure,_=>true
 |_,.pure=>true
 |.rd _,.rd _=>true
 |.rd (some b),.wr (some c)=>!(Nat.beq b c)
 |.wr (some b),.rd (some c)=>!(Nat.beq b c)
 |.wr (some b),.wr (some c)=>!(Nat.beq b c)
 |.rd (some b),.mk c=>!(Nat.beq b c)
 |.mk b,.rd (some c)=>!(Nat.beq b c)
 |.wr (some b),.mk c=>!(Nat.beq b c)
 |.mk b,.wr (some c)=>!(Nat.beq b c)
 |_,_=>false
def He(n:Nat):List Nat->Bool
 | []=>false
 |m::r=>Nat.beq m n||He n r
def MG(o:Oper)(l:List Nat):Bool:=
 match o.dst with
 |some d=>He d l
 |none=>false
def gN(x y:Oper):Bool:=
 match x.dst,y.dst with
 |some d,some e=>Nat.beq d e
 |_,_=>false
def vJ(ops:List Oper)(fps:List FP)(A:List (List Nat))(i j:Nat)(x y:Oper):Bool:=!(gN x y)&&(He i ((A[j]?).getD [])||(!(MG x (looks ops y))&&!(MG y (looks ops x))&&C3 ((fps[i]?).getD (.wr none)) ((fps[j]?).getD (.wr none))))
def VP(ops:List Oper)(fps:List FP)(A:List (List Nat))(j:Nat)(y:Oper):Nat->List Oper->Bool
 |_,[]=>true
 |i,x::r=>(bif Nat.blt i j then vJ ops fps A i j x y&&VP ops fps A j y (i+1) r else true)
def UH(j:Nat):List Nat->Bool
 | []=>true
 |i::r=>Nat.blt i j&&UH j r
def iK(ops:List Oper)(fps:List FP)(A:List (List Nat)):Nat->List Oper->Bool
 |_,[]=>true
 |j,y::r=>UH j (BS y)&&Nat.blt (Ba y.op) 3&&!(MG y (looks ops y))&&VP ops fps A j y 0 ops&&(match y.guard with|some (g,_)=>Nat.blt g j|none=>true)&&iK ops fps A (j+1) r
def VO(ops:List Oper)(fps:List FP):Bool:=iK ops fps (Gp [] ops) 0 ops
def De(ops:List Oper)(o:Oper)(s:St):St:=
 {s with tm:=(looks ops o).map fun t=>(t,AU s.tm t),cs:=s.cs.filter fun e=>He e.1 (looks ops o)}
def FQ:SC->Bool
 |.own _=>false
 |.sub _ _ _=>false
 |.ptr _ _=>false
 |.fn _ (_::_)=>false
 |_=>true
def AM:List SC->Bool
 | []=>true
 |c::r=>FQ c&&AM r
def vF:TV->Bool
 |.un=>true
 |.val x=>AM x.cells
 |.tup l=>l.all fun x=>AM x.cells
def DA(s:St)(ctx:List (Nat×Bool)):List Operand->Bool
 | []=>true
 |x::r=>(match ev s ctx x with|some v=>vF v|none=>true)&&DA s ctx r
def DS(s:St)(ctx:List (Nat×Bool))(op:Op):Bool:=
 match op with
 |.indexAddr _ x _=>match AZ s ctx x with
  |some (.own b)=>match Ac s.mem b with
   |.acc _ _=>false
   |_=>true
  |_=>true
 |.buildSlice _ _ _=>DA s ctx op.operands.toList
 |.slice _ x _ _ _=>DA s ctx [x]
 |.call c=>match c.callee with
  |.builtin _=>true
  |_=>DA s ctx op.operands.toList
 |_=>true
def aDq:SC->Option Nat
 |.ptr b _=>some b
 |.eptr b _ _=>some b
 |.own b=>some b
 |.sub b _ _=>some b
 |_=>none
def MM(s:St)(ctx:List (Nat×Bool))(x:Operand):FP:=
 match AZ s ctx x with
 |some c=>match aDq c with
  |some b=>.rd (some b)
  |none=>.pure
 |none=>.pure
def Eu(s:St)(ctx:List (Nat×Bool))(op:Op):FP:=
 match op with
 |.load _ x=>MM s ctx x
 |.nilCheck x=>MM s ctx x
 |.fieldAddr _ x _=>MM s ctx x
 |.indexAddr _ x _=>MM s ctx x
 |.index _ _ _=>.pure
 |.buildSlice _ _ _=>.pure
 |.makeFunc _ _ _=>.rd none
 |.store _ x y=>match AZ s ctx x,EW s ctx y with
  |some (.ptr b _),_=>.wr (some b)
  |some (.eptr b _ _),some v=>bif AM v.cells then .wr (some b)else .wr none
  |_,_=>.wr none
 |.alloc _=>.mk s.mem.length
 |.box _ _=>.mk s.mem.length
 |.call c=>match c.callee with
  |.value _=>.pure
  |.builtin .len=>match c.args.toList with
   | [x]=>MM s ctx x
   |_=>.pure
  |_=>.pure
 |_=>.pure
def Z1(C:Cfg)(s:St)(ctx:List (Nat×Bool))(op:Op):Option Nat:=
 match op with
 |.call c=>match c.callee with
  |.value fo=>match AZ s ctx fo,Et s ctx c.args.toList with
   |some (.fn f []),some (.one (.own b)::r)=>(match C.lsum f s.mem (.one (.own b)::r),C.sum f s.mem (.one (.own b)::r)with
    |none,some S=>(match S.ins with
     |(true,.slice _)::_=>bif r.all (fun z=>AM z.cells)then some b else none
     |_=>none)
    |_,_=>none)
   |_,_=>none
  |_=>none
 |_=>none
def SS(C:Cfg)(ops:List Oper)(o:Oper)(s0:St):Option (FP×Bool×TV×Ae):=
 let s:=De ops o s0
 match o.guard with
 |none=>bif DS s [] o.op||Nat.beq (Ba o.op) 2 then
   (match Ax C s [] o with
    |some (.ok g x mem)=>bif Ez o.op s.mem mem then some (Eu s [] o.op,g,x,mem)else(bif ZT o.op s.mem mem then some (.mk s.mem.length,g,x,mem)else none)
    |_=>none)
  else(match Z1 C s [] o.op with
   |some b=>(match Ax C s [] o with
    |some (.ok g x mem)=>bif Nat.beq mem.length s.mem.length then some (.wr (some b),g,x,mem)else none
    |_=>none)
   |none=>none)
 |some (gi,p)=>match EZ ops gi,o.dst with
  |some t,some d=>bif MT o.op&&!(Nat.beq d t)&&DS s (J1 s.cs t p) o.op then
    (match Rq s.tm s.cs t p,Ax C s (J1 s.cs t p) o with
     |some c,some (.ok g x mem)=>bif Ez o.op s.mem mem then some (Eu s (J1 s.cs t p) o.op,g||!c,x,mem)else none
     |_,_=>none)
   else none
  |_,_=>none
def Ic(ops:List Oper)(o:Oper)(s:St)(x:TV)(mem:Ae):St:=
 match o.dst with
 |none=>{s with mem:=mem}
 |some d=>match o.guard with
  |none=>{s with tm:=(d,x)::s.tm,mem:=mem}
  |some (gi,p)=>match EZ ops gi with
   |some t=>{s with tm:=(d,.un)::s.tm,cs:=(d,t,p,x)::s.cs,mem:=mem}
   |none=>{s with mem:=mem}
def Rt(C:Cfg)(ops:List Oper):List Oper->St->Option (List FP×List Bool×St)
 | [],s=>some ([],[],s)
 |o::r,s=>match SS C ops o s with
  |some (fp,g,x,mem)=>bif(match o.dst with|some d=>Nat.blt d s.n|none=>true)then
    (match Rt C ops r (Ic ops o s x mem)with
     |some (fps,gs,s'')=>some (fp::fps,g::gs,s'')
     |none=>none)
   else none
  |none=>none
def Am{α:Type}:List Bool->Option α->Option α
 | [],x=>x
 |g::gs,x=>bif g then Am gs x else none
def Ij(mem:Ae):SC->SC
 |.own b=>match Ac mem b with
  |.acc _ _=>.undef
  |_=>.own b
 |c=>c
def aDY(mem:Ae):SV->SV
 |.one c=>.one (Ij mem c)
 |.agg cs=>.agg (cs.map (Ij mem))
def SN(mem:Ae):TV->TV
 |.un=>.un
 |.val x=>.val (aDY mem x)
 |.tup l=>.tup (l.map (aDY mem))
def Zj(s:St):St:=
 {s with tm:=s.tm.map (fun p=>(p.1,SN s.mem p.2)),cs:=s.cs.map fun p=>(p.1,p.2.1,p.2.2.1,SN s.mem p.2.2.2)}
def aD(s:St)(d t:Nat)(p:Bool)(x:TV)(mem:Ae):St:={s with tm:=(d,.un)::s.tm,cs:=(d,t,p,x)::s.cs,mem:=mem}
def aVY(P:Program)(T:TypeId):TV:=match FY P T with
 |some z=>.val z
 |none=>.un
section C7
variable {R:Type}
def M7(C:Cfg)(inl:FuncId->List SV->Ae->(List SV->Ae->Option R)->Option R)(ops:List Oper):List Oper->St->(St->Option R)->Option R
 | [],s,k=>k s
 |o::r,s,k=>match step C ops o s with
  |some (.ok g s')=>bif g then M7 C inl ops r s' k else none
  |some (.inl f args)=>match o.guard with
   |none=>inl f args s.mem fun rs mem=>match RO (Zj s) o (Nd rs) mem with
    |some s'=>M7 C inl ops r s' k
    |none=>none
   |some _=>none
  |some (.gin c t d p f args)=>bif c then inl f args s.mem (fun rs mem=>M7 C inl ops r (aD (Zj s) d t p (Nd rs) mem) k)else M7 C inl ops r (aD s d t p (aVY C.P o.type) s.mem) k
  |none=>none
def Mw:List (Nat×Shape)->St->St
 | [],s=>s
 |(t,τ)::r,s=>match AU s.tm t with
  |.val (.one (.v (.slice none 0 0)))=>Mw r {s with tm:=(t,.val (.one (.own s.mem.length)))::s.tm,mem:=s.mem++[.acc τ []] }
  |_=>Mw r s
def tI:List (Nat×Pat)->Nat->Option Pat
 | [],_=>none
 |(i,p)::r,k=>bif Nat.beq i k then some p else tI r k
def VR(l:List (Nat×Pat))(ke:Nat->St->Option R)(id:Nat)(s:St)(m:Nat:=0):Option R:=
 match tI l id with
 |some p=>match Hh p s m with
  |some y=>ke id (MB p y m)
  |none=>none
 |none=>none
def iM(o:Option Pat)(kr:St->Option R)(s:St)(m:Nat:=0):Option R:=
 match o with
 |some p=>match Hh p s m with
  |some y=>kr (MB p y m)
  |none=>none
 |none=>none
def CY{α β:Type}(φ:(α->Option β)->α->Option β):Nat->α->Option β
 |0,_=>none
 |n+1,x=>φ (CY φ n) x
def CN:Code->List Code
 |.seq a b=>CN a++CN b
 |.cond _ a b=>CN a++CN b
 |.block _ a=>CN a
 |.loop a=>a::CN a
 |_=>[]
def Db:Code->Nat
 |.region id _ _=>id
 |.seq a _=>Db a
 |.cond _ a _=>Db a
 |.block _ a=>Db a
 |.loop a=>Db a
 |_=>0
def uI:List Oper->Nat
 | []=>0
 |o::r=>bif Nat.blt (Ba o.op) 3 then uI r+1 else 0
def ZU(o:Oper):Bool:=match o.guard with
 |none=>true
 |some _=>false
def fU(l:List Nat):Nat->Bool
 |0=>true
 |n+1=>He n l&&fU l n
def nQ:Nat->List Oper->Bool
 |_,[]=>true
 |i,o::r=>ZU o&&He i (BS o)&&UH (i+1) (BS o)&&nQ (i+1) r
def Nc(H:List Oper)(n:Nat):List Oper->Bool
 | []=>true
 |o::r=>ZU o&&fU ((BS o).flatMap fun i=>i::((Gp [] H)[i]?).getD []) n&&UH n (BS o)&&nQ n r
def Gs(s:St):Operand->St
 |.tmp t=>match AU s.tm t with
  |.val (.one (.own b))=>(match C8 s.mem (.own b)with
   |(c,m)=>{s with tm:=(t,.val (.one c))::s.tm,mem:=m})
  |_=>s
 |_=>s
def Gt(f:Bool)(s:St)(o:Oper):St:=
 match o.op with
 |.call c=>(match c.callee with
  |.value _=>c.args.toList.foldl Gs s
  |_=>s)
 |.move x=>bif f then Gs s x else s
 |.slice _ x _ _ _=>bif f then Gs s x else s
 |_=>s
def uW:Nat->List Oper->Nat->Nat
 |_,[],k=>k
 |i,o::r,k=>uW (i+1) r (match o.op with
  |.call c=>(match c.callee with
   |.value _=>i
   |_=>k)
  |_=>k)
def aFd:List Oper->Nat
 | []=>0
 |o::r=>bif Nat.blt (Ba o.op) 3&&(match o.op with|.slice _ _ _ _ _=>false|_=>true)then aFd r+1 else 0
def aMM(C:Cfg)(ops:List Oper)(s:St)(n:Nat)(f:Bool):Bool:=
 match Rt C (ops.take n) (ops.take n) ((ops.take n).foldl (Gt f) {s with cs:=[] })with
 |some (fps,_,_)=>VO (ops.take n) fps&&Nc (ops.take n) n (ops.drop n)
 |none=>false
def aDV(C:Cfg)(ops:List Oper)(s:St):List (Nat×Bool)->Nat×Bool
 | []=>(0,false)
 |(n,f)::r=>bif Nat.ble n ops.length&&aMM C ops s n f then(n,f)else aDV C ops s r
def aDT(C:Cfg)(ops:List Oper)(s:St):Nat×Bool:=aDV C ops s [(aFd ops,false),(uI ops,false),(uI ops,true),(uW 0 ops 0,false),(uW 0 ops 0,true)]
def iE(o:Oper):Bool:=match o.op with
 |.alloc _=>ZU o
 |_=>false
def Y8:List Oper->Nat
 | []=>0
 |o::r=>bif iE o then 0 else Y8 r+1
def r4:List Oper->Nat
 | []=>0
 |o::r=>bif iE o then r4 r+1 else 0
def FG:List Oper->List Nat
 | []=>[]
 |o::r=>match o.dst with
  |some d=>d::FG r
  |none=>FG r
def Tc:List Nat->Bool
 | []=>true
 |d::r=>!(He d r)&&Tc r
def fV:List Oper->Bool
 | []=>true
 |o::r=>iE o&&(match BS o with | []=>true|_=>false)&&(match o.dst with|some _=>true|none=>false)&&fV r
def UO(ds:List Nat)(s:St):St:={s with tm:=ds.map (fun d=>(d,.un))++s.tm}
def SH(P:Program):List Oper->St->Option St
 | [],s=>some s
 |o::r,s=>match o.op,o.dst with
  |.alloc T,some d=>bif Nat.blt d s.n then
    (match FY P T with
     |some z=>SH P r {s with tm:=(d,.val (.one (.ptr s.mem.length 0)))::s.tm,mem:=s.mem++[.raw z.cells] }
     |none=>none)
   else none
  |_,_=>none
def gK(C:Cfg)(inl:FuncId->List SV->Ae->(List SV->Ae->Option R)->Option R)(ops:List Oper)(n k:Nat)(s:St)(kn:St->Option R):Option R:=
 bif Nat.blt 1 k&&Nat.ble (n+k) ops.length&&fV ((ops.drop n).take k)&&Tc (FG (ops.take (n+k)))then
  (match Rt C (ops.take n) (ops.take n) ((ops.take n).foldl (Gt false) (UO (FG ((ops.drop n).take k)) {s with cs:=[] }))with
   |some (fps,gs,s')=>bif VO (ops.take n) fps&&Nc (ops.take n) (n+k) (ops.drop (n+k))then
     Am gs (match SH C.P ((ops.drop n).take k) {s' with cs:=[] }with
      |some s2=>M7 C inl ops (ops.drop (n+k)) s2 fun s''=>kn {s'' with cs:=[] }
      |none=>none)else none
   |none=>none)
 else none
def C7(C:Cfg)(inl:FuncId->List SV->Ae->(List SV->Ae->Option R)->Option R)(lp:Bool)(fid:FuncId):
  Code->St->(St->Option R)->(Nat->St->Option R)->(St->Option R)->Option R
 |.skip,s,kn,_,_=>kn s
 |.region _ ops false,s,kn,_,_=>M7 C inl ops.toList ops.toList {s with cs:=[] } fun s'=>kn {s' with cs:=[] }
 |.region _ ops true,s,kn,_,_=>match aDT C ops.toList s with
  |(n,f)=>match Rt C (ops.toList.take n) (ops.toList.take n) ((ops.toList.take n).foldl (Gt f) {s with cs:=[] })with
   |some (fps,gs,s')=>bif Nat.ble n ops.toList.length&&(VO (ops.toList.take n) fps&&Nc (ops.toList.take n) n (ops.toList.drop n))then
     Am gs (M7 C inl ops.toList (ops.toList.drop n) {s' with cs:=[] } fun s''=>kn {s'' with cs:=[] })else gK C inl ops.toList (Y8 ops.toList) (r4 (ops.toList.drop (Y8 ops.toList))) s kn
   |none=>gK C inl ops.toList (Y8 ops.toList) (r4 (ops.toList.drop (Y8 ops.toList))) s kn
 |.seq a b,s,kn,ke,kr=>C7 C inl lp fid a s (fun s'=>C7 C inl lp fid b s' kn ke kr) ke kr
 |.cond c a b,s,kn,ke,kr=>match AZ s [] c with
  |some (.v (.bool t))=>bif t then C7 C inl lp fid a s kn ke kr else C7 C inl lp fid b s kn ke kr
  |_=>none
 |.block id a,s,kn,ke,kr=>C7 C inl lp fid a s kn (fun i s'=>bif Nat.beq i id then kn s' else ke i s') kr
 |.loop a,s,_,ke,kr=>match C.loop fid (Db a)with
  |none=>CY (fun L s'=>C7 C inl lp fid a {s' with cs:=[] } L ke kr) C.unroll s
  |some sp=>bif lp then
    (match Hh sp.pat (Mw sp.accs {s with cs:=[] }) sp.m0 with
     |some x=>sp.run x ke kr
     |none=>none)
   else none
 |.exit id,s,_,ke,_=>ke id s
 |.ret,s,_,_,kr=>kr s
 |_,_,_,_,_=>none
def RP(P:Program)(s:St):List ResultVar->Option (List SV)
 | []=>some []
 |.tmp t::r=>match AU s.tm t,RP P s r with
  |.val x,some l=>some (x::l)
  |_,_=>none
 |.cell a T::r=>match AU s.tm a,RP P s r with
  |.val (.one c),some l=>match MD s.mem c,G7 P T with
   |some (cs,off),some true=>match Hi (P.cellsOf T) (DT off cs)with
    |some x=>some (.agg x::l)
    |none=>none
   |some (cs,off),some false=>match DT off cs with
    |x::_=>some (.one x::l)
    | []=>none
   |_,_=>none
  |_,_=>none
def UJ:Nat->List SV->List (Nat×TV)
 |_,[]=>[]
 |n,x::r=>(n,.val x)::UJ (n+1) r
def BM(P:Program)(fn:Func)(k:List SV->Ae->Option R)(s:St):Option R:=
 match RP P s fn.results.toList with
 |some rs=>k rs s.mem
 |none=>none
def Zc(C:Cfg)(inl:FuncId->List SV->Ae->(List SV->Ae->Option R)->Option R)(lp:Bool)(f:FuncId)(fn:Func)(m0:Nat)(args:List SV)(mem:Ae)(k:List SV->Ae->Option R):Option R:=
 match fn.body with
 | some c => bif Nat.ble args.length fn.ntmps && !(fn.name == "runtime.NumGoroutine") then C7 C inl lp f c { n := fn.ntmps, m0 := m0, tm := UJ 0 args, mem := mem, cs := [] } (BM C.P fn k) (fun _ _ => none) (BM C.P fn k) else none
 |none=>none
def Ip(C:Cfg):Nat->FuncId->List SV->Ae->(List SV->Ae->Option R)->Option R
 |0,_,_,_,_=>none
 |d+1,f,args,mem,k=>match C.P.funcs[f]? with
  |some fn=>bif Nat.beq fn.params.size args.length then Zc C (Ip C d) (Nat.ble 2 d) f fn mem.length args mem k else none
  |none=>none
end C7
def Ta(C:Cfg)(d:Nat)(fid:FuncId)(body:Code)(sp:LoopSpec){R:Type}(ke:Nat->St->Option R)(kr:St->Option R)(L:sp.pat.D->Option R)(x:sp.pat.D):Option R:=
 C7 C (Ip C d) true fid body (MB sp.pat x sp.m0) (fun s'=>match Hh sp.pat (Mw sp.accs {s' with cs:=[] }) sp.m0 with
  |some y=>L y
  |none=>none) (fun id s=>VR sp.exits ke id s sp.m0) (fun s=>iM sp.ret kr s sp.m0)
def run(C:Cfg)(d:Nat)(f:FuncId)(fn:Func)(S T:Ab)(x:DenS S):Option (DenS T):=
 match CB [] S x with
 |some (args,m0)=>Zc C (Ip C d) (Nat.ble 2 d) f fn 0 args m0 fun rs mem=>match Be mem T rs with
  |(rs',m1)=>match CH m1 T rs' with
   |some (y,_)=>some y
   |none=>none
 |none=>none
def ZI:(k:LK)->k.D->SV×Ae
 |.win e,x=>(.one (.sub 0 x.2.1 x.2.2),[.arr e x.1])
 |.ref τ,x=>(.one (.ptr 0 0),[.raw (cellsOf τ x)])
def sZ(mem:Ae):(k:LK)->Option k.B
 |.win e=>match Ac mem 0 with
  |.arr τ xs=>CS τ e xs
  |_=>none
 |.ref τ=>match Ac mem 0 with
  |.raw cs=>(match Cs τ cs with
   |some (x,[])=>some x
   |_=>none)
  |_=>none
def Iy(C:Cfg)(d:Nat)(f:FuncId)(fn:Func)(k:LK)(S T:Ab)(x:k.D×DenS S):Option (k.B×DenS T):=
 match ZI k x.1 with
 |(z,m)=>match CB m S x.2 with
  |some (args,m0)=>Zc C (Ip C d) (Nat.ble 2 d) f fn 1 (z::args) m0 fun rs mem=>match Be (RN mem k (.one (.ptr 0 0))) T rs with
   |(rs',m1)=>match CH m1 T rs' with
    |some (y,m2)=>(match sZ m2 k with
     |some b=>some (b,y)
     |none=>none)
    |none=>none
  |none=>none
end Vx
namespace Vx
open Go Go.RowKit
theorem AI{α:Type}{c:Bool}{x:Option α}{y:α}(h:(bif c then x else none)=some y):c=true/\x=some y:=by
 cases c with
 |true=>exact⟨rfl,h⟩
 |false=>cases h
theorem DU{α:Type}{c:Prop}[Decidable c]{x:Option α}{y:α}(h:(if c then x else none)=some y):x=some y:=by
 split at h
 ·exact h
 ·cases h
theorem Bn{g g':Bool}{x x':TV}{m m':Ae}(h:some (Res.ok g x m)=some (Res.ok g' x' m')):m'=m:=by
 cases h;rfl
def BQ:Nat:=9223372036854775808
def scalar:Value->Prop
 |.agg _=>False
 |.tuple _=>False
 |_=>True
def MJ:FloatKind->Nat
 |.f32=>32
 |.f64=>64
def WG(k:FloatKind)(o:Option Nat)(y:Value):Prop:=
 ∃b,y=.float k b/\b<2^MJ k/\(match o with
   |some b'=>b=b'
   |none=>(k.format.read b).isNaN=true)
def MC:Nat->Value
 |0=>.bool false
 |1=>.bool true
 |n+2=>.func (.func n) #[] #[]
def AN(w:World)(S:Nat->Prop):(τ:Shape)->Aa τ->List Value->Prop
 |.int k,n,cs=>cs=[.int k n]/\k.min<=n/\n<=k.max
 |.flt k,o,cs=>∃y,cs=[y]/\WG k o y
 |.bool,b,cs=>cs=[.bool b]
 |.str,s,cs=>cs=[.string s]/\s.size<BQ
 |.fn,o,cs=>match o with
  |none=>cs=[.nilFunc]
  |some (f,ns)=>∃ps:List Value,cs=[.func (.func f) #[] ps.toArray]/\ps.length=ns.length /\
    ∀(i n:Nat),ns[i]? = some n->∃(r:Nat) (vs:Array Value) (T:TypeId) (fz:Nat×Nat),ps[i]? = some (jb (some ⟨r,0,none⟩))/\S r/\w.heap[r]? = some (Obj.cells vs T fz)/\vs[0]? = some (MC n)
 |.unit,_,cs=>cs=[]
 |.slice e,xs,cs=>∃A c,cs=[.slice A xs.length c]/\xs.length<=c/\c<BQ /\
   (xs≠[]->∃r o vs T fz,A=some ⟨r,o,none⟩/\S r/\w.heap[r]? = some (.cells vs T fz) /\
    ∀i x,xs[i]? = some x->∃ds,AN w S e x ds/\∀j d,ds[j]? = some d->vs[o+i*e.width+j]? = some d)
 |.pair a b,x,cs=>∃c1 c2,cs=c1++c2/\AN w S a x.1 c1/\AN w S b x.2 c2
 |.box a,x,cs=>∃r o vs T fz ds,cs=[.pointer (some ⟨r,o,none⟩)]/\S r/\w.heap[r]? = some (.cells vs T fz)/\AN w S a x ds/\∀j d,ds[j]? = some d->vs[o+j]? = some d
 |.ifc,d,cs=>match d with
  |none=>cs=[.nilIface]
  |some (T,ns)=>cs=[.iface T (.agg (ns.map (Value.int .i64)).toArray)]/\∀n∈ns,IntKind.i64.min<=n/\n<=IntKind.i64.max
 |.pfn,n,cs=>cs=[.func (.func n) #[] #[]]
theorem AN.len{w:World}{S:Nat->Prop}:∀{τ:Shape} {x:Aa τ} {cs:List Value},AN w S τ x cs->cs.length=τ.width
 |.int _,_,_,h=>by rw[h.1];rfl
 |.flt _,_,_,⟨_,h,_⟩=>by rw[h];rfl
 |.bool,_,_,h=>by rw[show _=_ from h];rfl
 |.str,_,_,h=>by rw[h.1];rfl
 |.fn,none,_,h=>by rw[show _=_ from h];rfl
 |.fn,some _,_,⟨_,h,_⟩=>by rw[h];rfl
 |.unit,_,_,h=>by rw[show _=_ from h];rfl
 |.slice _,_,_,⟨A,c,h,_⟩=>by rw[h];rfl
 |.pair a b,_,_,⟨c1,c2,h,h1,h2⟩=>by rw[h,fh,h1.len,h2.len];rfl
 |.box _,_,_,⟨_,_,_,_,_,_,h,_⟩=>by rw[h];rfl
 |.ifc,none,_,h=>by rw[show _=_ from h];rfl
 |.ifc,some _,_,⟨h,_⟩=>by rw[h];rfl
 |.pfn,_,_,h=>by rw[show _=_ from h];rfl
theorem AN.mono{w w':World}{S S':Nat->Prop}(hS:∀r,S r->S' r)(hH:∀r,S r->w'.heap[r]? = w.heap[r]?):
  ∀{τ:Shape} {x:Aa τ} {cs:List Value},AN w S τ x cs->AN w' S' τ x cs
 |.int _,_,_,h=>h
 |.flt _,_,_,h=>h
 |.bool,_,_,h=>h
 |.str,_,_,h=>h
 |.fn,none,_,h=>h
 |.fn,some _,_,⟨ps,h,h1,h2⟩=>⟨ps,h,h1,fun i n hi=>by
   obtain⟨r,vs,T,fz,e1,e2,e3,e4⟩:=h2 i n hi
   exact⟨r,vs,T,fz,e1,hS r e2,(hH r e2).trans e3,e4⟩⟩
 |.unit,_,_,h=>h
 |.box _,_,_,⟨r,o,vs,T,fz,ds,h,h1,h2,h3,h4⟩=>⟨r,o,vs,T,fz,ds,h,hS r h1,(hH r h1).trans h2,h3.mono hS hH,h4⟩
 |.ifc,none,_,h=>h
 |.ifc,some _,_,h=>h
 |.pfn,_,_,h=>h
 |.slice _,_,_,⟨A,c,h,h1,h2,h3⟩=>⟨A,c,h,h1,h2,fun hx=>by
   obtain⟨r,o,vs,T,fz,e1,e2,e3,e4⟩:=h3 hx
   refine⟨r,o,vs,T,fz,e1,hS r e2,(hH r e2).trans e3,fun i x hi=>?_⟩
   obtain⟨ds,d1,d2⟩:=e4 i x hi
   exact⟨ds,d1.mono hS hH,d2⟩⟩
 |.pair _ _,_,_,⟨c1,c2,h,h1,h2⟩=>⟨c1,c2,h,h1.mono hS hH,h2.mono hS hH⟩
theorem AN.scalar{w:World}{S:Nat->Prop}:∀{τ:Shape} {x:Aa τ} {cs:List Value},AN w S τ x cs->∀v∈cs,scalar v
 |.int _,_,_,h=>by rw[h.1];simp[Vx.scalar]
 |.flt _,_,_,⟨_,h,b,h1,_⟩=>by rw[h,h1];simp[Vx.scalar]
 |.bool,_,_,h=>by rw[show _=_ from h];simp[Vx.scalar]
 |.str,_,_,h=>by rw[h.1];simp[Vx.scalar]
 |.fn,none,_,h=>by rw[show _=_ from h];simp[Vx.scalar]
 |.fn,some _,_,⟨_,h,_⟩=>by rw[h];simp[Vx.scalar]
 |.box _,_,_,⟨_,_,_,_,_,_,h,_⟩=>by rw[h];simp[Vx.scalar]
 |.ifc,none,_,h=>by rw[show _=_ from h];simp[Vx.scalar]
 |.ifc,some _,_,⟨h,_⟩=>by rw[h];simp[Vx.scalar]
 |.pfn,_,_,h=>by rw[show _=_ from h];simp[Vx.scalar]
 |.unit,_,_,h=>by rw[show _=_ from h];simp
 |.slice _,_,_,⟨A,c,h,_⟩=>by rw[h];simp[Vx.scalar]
 |.pair a b,_,_,⟨c1,c2,h,h1,h2⟩=>by
  rw[h];intro v hv
  rcases List.mem_append.1 hv with hv|hv
  ·exact h1.scalar v hv
  ·exact h2.scalar v hv
structure Env where
 β:Nat->Option Nat
 κ:Nat->Nat
structure Sit where
 E:Env
 mem:Ae
 w:World
 S:Nat->Prop
def Wv:Value->Prop
 |.int k n=>k.min<=n/\n<=k.max
 |.string s=>s.size<BQ
 |.bool _=>True
 |.pointer none=>True
 |.slice none 0 0=>True
 |.nilFunc=>True
 |.nilIface=>True
 |_=>False
def vB(y:Value):Prop:=∃a,y=.pointer (some a)
theorem vB.scalar{y:Value}(h:vB y):scalar y:=by obtain⟨a,rfl⟩:=h;trivial
def Aw(σ:Sit):SC->Value->Prop
 |.undef,y=>scalar y
 |.v x,y=>y=x/\Wv x
 |.fl k o,y=>WG k o y
 |.sl τ xs,y=>AN σ.w σ.S (.slice τ) xs [y]
 |.own b,y=>b<σ.mem.length/\scalar y/\match Ac σ.mem b with
   |.arr _ xs=>y=.slice ((σ.E.β b).map fun r=>⟨r,0,none⟩) xs.length (σ.E.κ b)
   |.acc _ xs=>y=.slice ((σ.E.β b).map fun r=>⟨r,0,none⟩) xs.length (σ.E.κ b)
   |.froz τ xs=>AN σ.w σ.S (.slice τ) xs [y]
   |_=>True
 |.ptr b off,y=>b<σ.mem.length/\vB y/\match Ac σ.mem b with
   |.gone=>True
   |.froz _ _=>True
   |.acc _ _=>True
   |_=>∃r,σ.E.β b=some r/\y=.pointer (some ⟨r,off,none⟩)
 |.eptr b i off,y=>b<σ.mem.length/\scalar y/\match Ac σ.mem b with
   |.arr τ xs=>i<xs.length/\∃r,σ.E.β b=some r/\y=.pointer (some ⟨r,i*τ.width+off,none⟩)
   |_=>True
 |.sub b lo n,y=>b<σ.mem.length/\scalar y/\match Ac σ.mem b with
   |.arr τ xs=>lo+n<=xs.length/\∃A c,y=.slice A n c/\n<=c/\c<BQ/\(0<n->∃r,σ.E.β b=some r/\A=some ⟨r,lo*τ.width,none⟩)
   |_=>True
 |.iptr τ x off,y=>∃r o vs T fz ds,y=.pointer (some ⟨r,o+off,none⟩)/\σ.S r/\σ.w.heap[r]? = some (.cells vs T fz) /\
   AN σ.w σ.S τ x ds/\∀j d,ds[j]? = some d->vs[o+j]? = some d
 |.gptr g,y=>y=.pointer (some ⟨g,0,none⟩)
 |.fnv o,y=>AN σ.w σ.S .fn o [y]
 |.ifv d,y=>AN σ.w σ.S .ifc d [y]
 |.fn f caps,y=>(∀p∈caps,p.1<σ.mem.length)/\scalar y/\((∃p∈caps,match Ac σ.mem p.1 with|.raw _=>False|_=>True) ∨
   ∃rs:List Nat,caps.map (fun p=>σ.E.β p.1)=rs.map some/\y=.func (.func f) #[] ((caps.zip rs).map fun q=>jb (some ⟨q.2,q.1.2,none⟩)).toArray)
theorem Aw.scalar{σ:Sit}{c:SC}{y:Value}(h:Aw σ c y):scalar y:=by
 cases c with
 |undef=>exact h
 |v x=>obtain⟨rfl,h⟩:=h;cases y<;>simp_all [Wv,Vx.scalar]
 |fl k o=>obtain⟨b,rfl,_⟩:=h;trivial
 |sl τ xs=>exact AN.scalar h _ (by simp)
 |own b=>exact h.2.1
 |ptr b off=>exact h.2.1.scalar
 |eptr b i off=>exact h.2.1
 |sub b lo n=>exact h.2.1
 |iptr τ x off=>obtain⟨_,_,_,_,_,_,rfl,_⟩:=h;trivial
 |gptr g=>rw[show _=_ from h];trivial
 |fnv o=>exact AN.scalar h _ (by simp)
 |ifv o=>exact AN.scalar h _ (by simp)
 |fn f caps=>exact h.2.1
inductive All2 {α β:Type} (R:α->β->Prop):List α->List β->Prop
 |nil:All2 R [] []
 |cons {a b as bs}:R a b->All2 R as bs->All2 R (a::as) (b::bs)
theorem All2.length{α β:Type}{R:α->β->Prop}:∀{as:List α} {bs:List β},All2 R as bs->as.length=bs.length
 |_,_,.nil=>rfl
 |_,_,.cons _ h=>by simp[h.length]
theorem All2.mono{α β:Type}{R R':α->β->Prop}(hR:∀a b,R a b->R' a b):∀{as:List α} {bs:List β},All2 R as bs->All2 R' as bs
 |_,_,.nil=>.nil
 |_,_,.cons h t=>.cons (hR _ _ h) (t.mono hR)
theorem All2.mapL{α α' β:Type}{R:α->β->Prop}{R':α'->β->Prop}(f:α->α')(hR:∀a b,R a b->R' (f a) b):∀{as:List α} {bs:List β},All2 R as bs->All2 R' (as.map f) bs
 |_,_,.nil=>.nil
 |_,_,.cons h t=>.cons (hR _ _ h) (t.mapL f hR)
theorem All2.append{α β:Type}{R:α->β->Prop}:∀{as:List α} {bs:List β} {as':List α} {bs':List β},All2 R as bs->All2 R as' bs'->All2 R (as++as') (bs++bs')
 |_,_,_,_,.nil,h=>h
 |_,_,_,_,.cons h t,h'=>.cons h (t.append h')
theorem All2.get{α β:Type}{R:α->β->Prop}:∀{as:List α} {bs:List β},All2 R as bs->∀{i:Nat} {a:α},as[i]? = some a->∃b,bs[i]? = some b/\R a b
 |_,_,.nil,i,a,h=>by simp at h
 |_,_,.cons h t,0,a,e=>by simp at e;subst e;exact⟨_,rfl,h⟩
 |_,_,.cons h t,i+1,a,e=>by simp at e;simpa using t.get e
theorem All2.split{α β:Type}{R:α->β->Prop}:∀{as as':List α} {bs:List β},All2 R (as++as') bs->∃b1 b2,bs=b1++b2/\All2 R as b1/\All2 R as' b2
 | [],_,bs,h=>⟨[],bs,rfl,.nil,h⟩
 |_::as,as',_,.cons h t=>by
  obtain⟨b1,b2,rfl,h1,h2⟩:=All2.split (as:=as) t
  exact⟨_::b1,b2,rfl,.cons h h1,h2⟩
theorem All2.of_get{α β:Type}{R:α->β->Prop}:∀{as:List α} {bs:List β},as.length=bs.length->(∀(i:Nat) (a:α),as[i]? = some a->∃b,bs[i]? = some b/\R a b)->All2 R as bs
 | [],[],_,_=>.nil
 | [],_::_,h,_=>by simp at h
 |_::_,[],h,_=>by simp at h
 |a::as,b::bs,h,hg=>by
  obtain⟨b',hb,hr⟩:=hg 0 a rfl
  simp at hb;subst hb
  exact .cons hr (All2.of_get (by simpa using h) fun i x hx=>by simpa using hg (i+1) x (by simpa using hx))
def A8(σ:Sit):SV->Value->Prop
 |.one c,y=>Aw σ c y
 |.agg cs,y=>∃ys:List Value,y=.agg ys.toArray/\All2 (Aw σ) cs ys
def A2(σ:Sit):TV->Value->Prop
 |.un,_=>True
 |.val x,y=>A8 σ x y
 |.tup xs,y=>xs.length≠1/\∃ys:List Value,y=.tuple ys.toArray/\All2 (A8 σ) xs ys
def Bm(σ σ':Sit)(b:Nat):Prop:=
 match Ac σ.mem b with
 |.gone=>Ac σ'.mem b=.gone
 |.raw _=>(σ'.E.β b=σ.E.β b/\∃cs,Ac σ'.mem b=.raw cs)∨Ac σ'.mem b=.gone
 |.arr τ xs=>(σ'.E.β b=σ.E.β b/\σ'.E.κ b=σ.E.κ b/\∃xs':List (Aa τ),Ac σ'.mem b=.arr τ xs'/\xs'.length=xs.length) ∨
   (∃xs':List (Aa τ),Ac σ'.mem b=.froz τ xs'/\AN σ'.w σ'.S (.slice τ) xs' [.slice ((σ.E.β b).map fun r=>⟨r,0,none⟩) xs.length (σ.E.κ b)])∨Ac σ'.mem b=.gone
 |.acc τ xs=>(σ'.E.β b=σ.E.β b/\σ'.E.κ b=σ.E.κ b/\Ac σ'.mem b=.acc τ xs) ∨
   (Ac σ'.mem b=.froz τ xs/\AN σ'.w σ'.S (.slice τ) xs [.slice ((σ.E.β b).map fun r=>⟨r,0,none⟩) xs.length (σ.E.κ b)])∨Ac σ'.mem b=.gone
 |.froz τ xs=>Ac σ'.mem b=.froz τ xs
structure Goes (σ σ':Sit):Prop where
 stab:∀r,σ.S r->σ'.S r
 heap:∀r,σ.S r->σ'.w.heap[r]? = σ.w.heap[r]?
 len:σ.mem.length<=σ'.mem.length
 turns:∀b,b<σ.mem.length->Bm σ σ' b
theorem aHl{σ σ':Sit}(stab:∀r,σ.S r->σ'.S r)(heap:∀r,σ.S r->σ'.w.heap[r]? = σ.w.heap[r]?)(len:σ.mem.length<=σ'.mem.length)(B:Nat->Prop)
  (turns:∀b,b<σ.mem.length->Bm σ σ' b∨(B b/\∃τ xs τ' xs',Ac σ.mem b=.acc τ xs/\Ac σ'.mem b=.acc τ' xs')) {c:SC} {y:Value} (hc:Aw σ c y) (hB:∀b,c=.own b->¬B b):Aw σ' c y:=by
 cases c with
 |undef=>exact hc
 |v x=>exact hc
 |fl k o=>exact hc
 |sl τ xs=>exact AN.mono stab heap hc
 |own b=>
  obtain⟨hb,hs,hm⟩:=hc;refine⟨ah hb len,hs,?_⟩;have ht:=(turns b hb).resolve_right fun h=>hB b rfl h.1;unfold Bm at ht;split at hm
  ·rename_i τ xs e;rw[e]at ht;subst hm;rcases ht with⟨h1,h2,xs',h3,h4⟩|⟨xs',h1,h2⟩|h1
   ·rw[h3];simp only[h1,h2,h4]
   ·rw[h1];exact h2
   ·rw[h1];trivial
  ·rename_i τ xs e;rw[e]at ht;subst hm;rcases ht with⟨h1,h2,h3⟩|⟨h1,h2⟩|h1
   ·rw[h3];simp only[h1,h2]
   ·rw[h1];exact h2
   ·rw[h1];trivial
  ·rename_i τ xs e;rw[e]at ht;simp only at ht;rw[ht];exact AN.mono stab heap hm
  ·rename_i e1 e2 e3;cases e:Ac σ.mem b with
   |gone=>rw[e]at ht;simp only at ht;rw[ht];trivial
   |raw cs=>rw[e]at ht;simp only at ht;rcases ht with⟨_,cs',h2⟩|h2<;>(rw[h2];trivial)
   |arr τ xs=>exact absurd e (e1 τ xs)
   |acc τ xs=>exact absurd e (e2 τ xs)
   |froz τ xs=>exact absurd e (e3 τ xs)
 |ptr b off=>
  obtain⟨hb,hs,hm⟩:=hc;refine⟨ah hb len,hs,?_⟩;rcases turns b hb with ht|⟨_,_,_,_,_,_,e2⟩;case inr=>rw[e2];trivial
  unfold Bm at ht;cases e:Ac σ.mem b with
  |gone=>rw[e]at ht;simp only at ht;rw[ht];trivial
  |raw cs=>
   rw[e]at ht hm;simp only at ht hm;rcases ht with⟨h1,cs',h2⟩|h2
   ·rw[h2];obtain⟨r,hr,e⟩:=hm;exact⟨r,h1.trans hr,e⟩
   ·rw[h2];trivial
  |arr τ xs=>
   rw[e]at ht hm;simp only at ht hm;rcases ht with⟨h1,_,xs',h2,h3⟩|⟨_,h1,h2⟩|h1
   ·rw[h2];obtain⟨r,hr,e⟩:=hm;exact⟨r,h1.trans hr,e⟩
   ·rw[h1];trivial
   ·rw[h1];trivial
  |acc τ xs=>
   rw[e]at ht hm;simp only at ht hm;rcases ht with⟨h1,h2,h3⟩|⟨h1,h2⟩|h1
   ·rw[h3];trivial
   ·rw[h1];trivial
   ·rw[h1];trivial
  |froz τ xs=>rw[e]at ht;simp only at ht;rw[ht];trivial
 |eptr b i off=>
  obtain⟨hb,hs,hm⟩:=hc;refine⟨ah hb len,hs,?_⟩;rcases turns b hb with ht|⟨_,_,_,_,_,_,e2⟩;case inr=>rw[e2];trivial
  unfold Bm at ht;cases e:Ac σ.mem b with
  |gone=>rw[e]at ht;simp only at ht;rw[ht];trivial
  |raw cs=>rw[e]at ht;simp only at ht;rcases ht with⟨_,cs',h2⟩|h2<;>(rw[h2];trivial)
  |arr τ xs=>
   rw[e]at ht hm;simp only at ht hm;rcases ht with⟨h1,_,xs',h2,h3⟩|⟨_,h1,h2⟩|h1
   ·rw[h2];obtain⟨hi,r,hr,e⟩:=hm;exact⟨by omega,r,h1.trans hr,e⟩
   ·rw[h1];trivial
   ·rw[h1];trivial
  |acc τ xs=>
   rw[e]at ht;simp only at ht;rcases ht with⟨h1,h2,h3⟩|⟨h1,h2⟩|h1
   ·rw[h3];trivial
   ·rw[h1];trivial
   ·rw[h1];trivial
  |froz τ xs=>rw[e]at ht;simp only at ht;rw[ht];trivial
 |sub b lo n=>
  obtain⟨hb,hs,hm⟩:=hc;refine⟨ah hb len,hs,?_⟩;rcases turns b hb with ht|⟨_,_,_,_,_,_,e2⟩;case inr=>rw[e2];trivial
  unfold Bm at ht;cases e:Ac σ.mem b with
  |gone=>rw[e]at ht;simp only at ht;rw[ht];trivial
  |raw cs=>rw[e]at ht;simp only at ht;rcases ht with⟨_,cs',h2⟩|h2<;>(rw[h2];trivial)
  |arr τ xs=>
   rw[e]at ht hm;simp only at ht hm;rcases ht with⟨h1,_,xs',h2,h3⟩|⟨_,h1,h2⟩|h1
   ·rw[h2];obtain⟨hi,A,c,g1,g2,g3,g4⟩:=hm;exact⟨by rw[h3];exact hi,A,c,g1,g2,g3,fun hn=>by obtain⟨r,hr,e⟩:=g4 hn;exact⟨r,h1.trans hr,e⟩⟩
   ·rw[h1];trivial
   ·rw[h1];trivial
  |acc τ xs=>
   rw[e]at ht;simp only at ht;rcases ht with⟨h1,h2,h3⟩|⟨h1,h2⟩|h1
   ·rw[h3];trivial
   ·rw[h1];trivial
   ·rw[h1];trivial
  |froz τ xs=>rw[e]at ht;simp only at ht;rw[ht];trivial
 |iptr τ x off=>
  obtain⟨r,o,vs,T,fz,ds,e,hS,hh,hd,hj⟩:=hc;exact⟨r,o,vs,T,fz,ds,e,stab r hS,(heap r hS).trans hh,hd.mono stab heap,hj⟩
 |gptr g=>exact hc
 |fnv o=>exact AN.mono stab heap hc
 |ifv o=>exact AN.mono stab heap hc
 |fn f caps=>
  obtain⟨hb,hs,hm⟩:=hc;refine⟨fun p hp=>ah (hb p hp) len,hs,?_⟩;by_cases hall:∀p∈caps,∃cs,Ac σ'.mem p.1=.raw cs
  ·have hwas:∀p∈caps,(∃cs,Ac σ.mem p.1=.raw cs)/\σ'.E.β p.1=σ.E.β p.1:=fun p hp=>by
    obtain⟨cs',e'⟩:=hall p hp;have ht:=(turns p.1 (hb p hp)).resolve_right fun⟨_,_,_,_,_,_,e2⟩=>by rw[e']at e2;cases e2
    unfold Bm at ht;cases e:Ac σ.mem p.1 with
    |gone=>rw[e]at ht;simp only at ht;rw[e']at ht;cases ht
    |raw cs=>
     rw[e]at ht;simp only at ht;rcases ht with⟨h1,_⟩|h2
     ·exact⟨⟨cs,rfl⟩,h1⟩
     ·rw[e']at h2;cases h2
    |arr τ xs=>
     rw[e]at ht;simp only at ht;rcases ht with⟨_,_,xs',h2,_⟩|⟨_,h1,_⟩|h1
     ·rw[e']at h2;cases h2
     ·rw[e']at h1;cases h1
     ·rw[e']at h1;cases h1
    |acc τ xs=>
     rw[e]at ht;simp only at ht;rcases ht with⟨_,_,h3⟩|⟨h1,_⟩|h1
     ·rw[e']at h3;cases h3
     ·rw[e']at h1;cases h1
     ·rw[e']at h1;cases h1
    |froz τ xs=>rw[e]at ht;simp only at ht;rw[e']at ht;cases ht
   rcases hm with⟨p,hp,hq⟩|⟨rs,h1,h2⟩
   ·obtain⟨⟨cs,e⟩,_⟩:=hwas p hp;rw[e]at hq;exact hq.elim
   ·refine .inr ⟨rs,?_,h2⟩;rw[←h1];exact List.map_congr_left fun p hp=>(hwas p hp).2
  ·refine .inl ?_;obtain⟨p,hp⟩:=Classical.not_forall.1 hall;obtain⟨hp,hn⟩:=Classical.not_imp.1 hp;refine⟨p,hp,?_⟩;cases e:Ac σ'.mem p.1 with
   |raw cs=>exact absurd ⟨cs,e⟩ hn
   |_=>trivial
theorem Goes.repC{σ σ':Sit}(h:Goes σ σ'){c:SC}{y:Value}(hc:Aw σ c y):Aw σ' c y:=
 aHl h.stab h.heap h.len (fun _=>False) (fun b hb=>.inl (h.turns b hb)) hc (fun _ _ h=>h)
theorem Goes.repV{σ σ':Sit}(h:Goes σ σ'){x:SV}{y:Value}(hc:A8 σ x y):A8 σ' x y:=by
 cases x with
 |one c=>exact h.repC hc
 |agg cs=>obtain⟨ys,e,ha⟩:=hc;exact⟨ys,e,ha.mono fun _ _=>h.repC⟩
theorem Goes.repT{σ σ':Sit}(h:Goes σ σ'){x:TV}{y:Value}(hc:A2 σ x y):A2 σ' x y:=by
 cases x with
 |un=>trivial
 |val x=>exact h.repV hc
 |tup xs=>obtain⟨h1,ys,e,ha⟩:=hc;exact⟨h1,ys,e,ha.mono fun _ _=>h.repV⟩
theorem ME{σ:Sit}:∀{τ:Shape} {x:Aa τ} {ys:List Value},AN σ.w σ.S τ x ys->All2 (Aw σ) (cellsOf τ x) ys
 |.int k,n,_,h=>by rw[h.1];exact .cons ⟨rfl,h.2⟩ .nil
 |.flt k,o,_,⟨y,h,h1⟩=>by rw[h];exact .cons h1 .nil
 |.bool,b,_,h=>by rw[show _=_ from h];exact .cons ⟨rfl,trivial⟩ .nil
 |.str,s,_,h=>by rw[h.1];exact .cons ⟨rfl,h.2⟩ .nil
 |.fn,none,_,h=>by rw[show _=_ from h];exact .cons rfl .nil
 |.fn,some _,_,⟨ps,h,h1⟩=>by rw[h];exact .cons ⟨ps,rfl,h1⟩ .nil
 |.box _,x,_,⟨r,o,vs,T,fz,ds,h,h1⟩=>by rw[h];exact .cons ⟨r,o,vs,T,fz,ds,rfl,h1⟩ .nil
 |.ifc,none,_,h=>by rw[show _=_ from h];exact .cons rfl .nil
 |.ifc,some _,_,⟨h,h1⟩=>by rw[h];exact .cons ⟨rfl,h1⟩ .nil
 |.pfn,n,_,h=>by rw[show _=_ from h];exact .cons ⟨[],rfl,rfl,fun i n hi=>by simp at hi⟩ .nil
 |.unit,_,_,h=>by rw[show _=_ from h];exact .nil
 |.slice e,xs,_,h=>by
  obtain⟨A,c,h0,h1⟩:=h
  rw[h0];exact .cons ⟨A,c,rfl,h1⟩ .nil
 |.pair a b,x,_,⟨c1,c2,h0,h1,h2⟩=>by
  rw[h0];exact(ME h1).append (ME h2)
theorem sP{w:World}{S:Nat->Prop}{e' e:Shape}{xs:List (Aa e')}{ys:List (Aa e)}(h:CS e' e xs=some ys){y:Value}
  (hd:AN w S (.slice e') xs [y]):AN w S (.slice e) ys [y]:=by
 unfold CS at h;split at h
 ·rename_i he;subst he;cases h;exact hd
 ·cases h
theorem Ih{e' e:Shape}{xs:List (Aa e')}{ys:List (Aa e)}(h:CS e' e xs=some ys):∃he:e'=e,ys=he▸xs:=by
 unfold CS at h;split at h
 ·rename_i he;cases h;exact⟨he,rfl⟩
 ·cases h
theorem aMf{e' e:Shape}{x:Aa e'}{y:Aa e}(h:sO e' e x=some y):∃he:e'=e,y=he▸x:=by
 unfold sO at h;split at h
 ·rename_i he;cases h;exact⟨he,rfl⟩
 ·cases h
theorem iG{w:World}{S:Nat->Prop}(τ:Shape):AN w S (.slice τ) [] [.slice none 0 0]:=
 ⟨none,0,rfl,cg _,by unfold BQ;omega,fun h=>absurd rfl h⟩
theorem MZ{σ:Sit}:∀{τ:Shape} {cs:List SC} {ys:List Value} {x:Aa τ} {r:List SC},All2 (Aw σ) cs ys->Cs τ cs=some (x,r) ->
  ∃y1 y2,ys=y1++y2/\AN σ.w σ.S τ x y1/\All2 (Aw σ) r y2
 |.int k,[],_,_,_,_,h=>by simp[Cs]at h
 |.int k,c::cs,_,x,r,.cons hc ht,h=>by
  simp only[Cs]at h
  split at h
  ·rename_i k' n
   split at h
   ·rename_i hk
    cases h
    obtain⟨rfl,h1⟩:=hc
    exact⟨[_],_,rfl,⟨by rw[hk],by rw[←hk];exact h1⟩,ht⟩
   ·cases h
  ·cases h
 |.flt k,[],_,_,_,_,h=>by simp[Cs]at h
 |.flt k,c::cs,_,x,r,.cons hc ht,h=>by
  simp only[Cs]at h
  split at h
  ·rename_i k' o
   split at h
   ·rename_i hk
    subst hk
    cases h
    exact⟨[_],_,rfl,⟨_,rfl,hc⟩,ht⟩
   ·cases h
  ·cases h
 |.bool,[],_,_,_,_,h=>by simp[Cs]at h
 |.bool,c::cs,_,x,r,.cons hc ht,h=>by
  simp only[Cs]at h
  split at h
  ·cases h
   obtain⟨rfl,h1⟩:=hc
   exact⟨[_],_,rfl,rfl,ht⟩
  ·cases h
 |.str,[],_,_,_,_,h=>by simp[Cs]at h
 |.str,c::cs,_,x,r,.cons hc ht,h=>by
  simp only[Cs]at h
  split at h
  ·cases h
   obtain⟨rfl,h1⟩:=hc
   exact⟨[_],_,rfl,⟨rfl,h1⟩,ht⟩
  ·cases h
 |.fn,[],_,_,_,_,h=>by simp[Cs]at h
 |.fn,c::cs,_,x,r,.cons hc ht,h=>by
  simp only[Cs]at h
  split at h
  ·cases h
   obtain⟨rfl,h1⟩:=hc
   exact⟨[_],_,rfl,rfl,ht⟩
  ·cases h
   obtain⟨_,_,h1⟩:=hc
   rcases h1 with⟨p,hp,_⟩|⟨rs,h1,rfl⟩
   ·simp at hp
   ·exact⟨[_],_,rfl,⟨[],by simp,rfl,fun i n hi=>by simp at hi⟩,ht⟩
  ·cases h
   exact⟨[_],_,rfl,hc,ht⟩
  ·cases h
 |.box a,[],_,_,_,_,h=>by simp[Cs]at h
 |.box a,c::cs,_,x,r,.cons hc ht,h=>by
  simp only[Cs]at h
  split at h
  ·split at h
   ·rename_i hcast
    cases h
    obtain⟨he,rfl⟩:=aMf hcast
    subst he
    obtain⟨r,o,vs,T,fz,ds,h,h1⟩:=hc
    exact⟨[_],_,rfl,⟨r,o,vs,T,fz,ds,by rw[h];rfl,h1⟩,ht⟩
   ·cases h
  ·cases h
 |.pfn,[],_,_,_,_,h=>by simp[Cs]at h
 |.pfn,c::cs,_,x,r,.cons hc ht,h=>by
  simp only[Cs]at h
  split at h
  ·cases h
   obtain⟨_,_,h1⟩:=hc
   rcases h1 with⟨p,hp,_⟩|⟨rs,h1,rfl⟩
   ·simp at hp
   ·exact⟨[_],_,rfl,by simp[AN],ht⟩
  ·cases h
   obtain⟨ps,e,h1,_⟩:=hc
   have:ps=[]:=cq h1
   subst this
   exact⟨[_],_,rfl,e,ht⟩
  ·cases h
 |.ifc,[],_,_,_,_,h=>by simp[Cs]at h
 |.ifc,c::cs,_,x,r,.cons hc ht,h=>by
  simp only[Cs]at h
  split at h
  ·cases h
   obtain⟨rfl,h1⟩:=hc
   exact⟨[_],_,rfl,rfl,ht⟩
  ·cases h
   exact⟨[_],_,rfl,hc,ht⟩
  ·cases h
 |.unit,cs,ys,x,r,ha,h=>by
  simp only[Cs]at h
  cases h
  exact⟨[],ys,rfl,rfl,ha⟩
 |.slice e,[],_,_,_,_,h=>by simp[Cs]at h
 |.slice e,c::cs,_,x,r,.cons hc ht,h=>by
  simp only[Cs]at h
  split at h
  ·split at h
   ·rename_i hcast
    cases h
    exact⟨[_],_,rfl,sP hcast hc,ht⟩
   ·cases h
  ·cases h
   obtain⟨rfl,h1⟩:=hc
   exact⟨[_],_,rfl,iG e,ht⟩
  ·cases h
 |.pair a b,cs,ys,x,r,ha,h=>by
  simp only[Cs]at h
  split at h
  ·cases h
  ·rename_i x1 r1 h1
   split at h
   ·cases h
   ·rename_i x2 r2 h2
    cases h
    obtain⟨y1,y2,rfl,d1,a1⟩:=MZ ha h1
    obtain⟨y3,y4,rfl,d2,a2⟩:=MZ a1 h2
    exact⟨y1++y3,y4,by simp,⟨y1,y3,rfl,d1,d2⟩,a2⟩
def Rows(w:World)(S:Nat->Prop)(e:Shape)(vs:Array Value)(o:Nat)(xs:List (Aa e)):Prop:=∀i x,xs[i]? = some x->∃ds,AN w S e x ds/\∀j d,ds[j]? = some d->vs[o+i*e.width+j]? = some d
theorem vL{σ:Sit}{τ:Shape}:∀{n:Nat} {cs:List SC} {ys:List Value} {xs:List (Aa τ)},All2 (Aw σ) cs ys->Te τ n cs=some xs ->
  xs.length=n/\ys.length=n*τ.width/\∀i x,xs[i]? = some x->∃ds,AN σ.w σ.S τ x ds/\∀j d,ds[j]? = some d->ys[i*τ.width+j]? = some d
 |0,[],_,xs,.nil,h=>by simp[Te]at h;subst h;simp
 |0,_::_,_,xs,_,h=>by simp[Te]at h
 |n+1,cs,ys,xs,ha,h=>by
  simp only[Te]at h
  split at h
  ·cases h
  ·rename_i x r h1
   split at h
   ·cases h
   ·rename_i xs' h2
    cases h
    obtain⟨y1,y2,rfl,d1,a1⟩:=MZ ha h1
    obtain⟨l1,l2,l3⟩:=vL a1 h2
    have hw:=d1.len
    refine⟨by simp[l1],by rw[fh,l2,hw,jv];omega,fun i z hi=>?_⟩
    cases i with
    |zero=>
     simp at hi;subst hi
     refine⟨y1,d1,fun j d hj=>?_⟩
     rw[Nat.zero_mul,dw,co (aw.1 hj).1]
     exact hj
    |succ i=>
     obtain⟨ds,e1,e2⟩:=l3 i z (by simpa using hi)
     refine⟨ds,e1,fun j d hj=>?_⟩
     rw[cj (by rw[hw,jv];omega)]
     rw[show(i+1)*τ.width+j-y1.length=i*τ.width+j by rw[hw,jv];omega]
     exact e2 j d hj
end Vx
namespace Vx
open Go Go.RowKit
def Ka:Blk->Prop
 |.raw _=>True
 |.arr _ _=>True
 |.acc _ _=>True
 |_=>False
def Sit.owned(σ:Sit)(b r:Nat):Prop:=Ka (Ac σ.mem b)/\σ.E.β b=some r
def AF(σ:Sit)(b:Nat):Prop:=
 match Ac σ.mem b with
 |.gone=>True
 |.froz _ _=>True
 |.raw cs=>∃r vs T,σ.E.β b=some r/\σ.w.heap[r]? = some (.cells vs T (0,0))/\All2 (Aw σ) cs vs.toList
 |.arr τ xs=>xs.length<=σ.E.κ b/\σ.E.κ b<BQ/\((σ.E.β b=none/\σ.E.κ b=0) ∨
   ∃r vs T,σ.E.β b=some r/\σ.w.heap[r]? = some (.cells vs T (0,0))/\vs.size=σ.E.κ b*τ.width/\Rows σ.w σ.S τ vs 0 xs)
 |.acc τ xs=>xs.length<=σ.E.κ b/\σ.E.κ b<BQ/\((σ.E.β b=none/\σ.E.κ b=0) ∨
   ∃r vs T,σ.E.β b=some r/\σ.w.heap[r]? = some (.cells vs T (0,0))/\vs.size=σ.E.κ b*τ.width/\Rows σ.w σ.S τ vs 0 xs)
theorem f0{σ:Sit}{b r:Nat}{τ:Shape}{xs:List (Aa τ)}(he:AF σ b)(e:Ac σ.mem b=.arr τ xs)(hr:σ.E.β b=some r):
  xs.length<=σ.E.κ b/\σ.E.κ b<BQ/\∃vs T,σ.w.heap[r]? = some (.cells vs T (0,0))/\vs.size=σ.E.κ b*τ.width/\Rows σ.w σ.S τ vs 0 xs:=by
 unfold AF at he;rw[e]at he;obtain⟨h1,h2,h3⟩:=he;rcases h3 with⟨h4,_⟩|⟨r',vs,T,h4,h5,h6,h7⟩
 ·rw[hr]at h4;cases h4
 ·rw[hr]at h4;cases h4;exact⟨h1,h2,vs,T,h5,h6,h7⟩
theorem r8{σ:Sit}{b:Nat}{τ:Shape}{xs:List (Aa τ)}(he:AF σ b)(e:Ac σ.mem b=.arr τ xs)(hn:0<xs.length):∃r,σ.E.β b=some r:=by
 unfold AF at he;rw[e]at he;obtain⟨h1,h2,h3⟩:=he;rcases h3 with⟨_,h4⟩|⟨r,vs,T,h4,_⟩
 ·omega
 ·exact⟨r,h4⟩
structure Base where
 w:World
 M:Nat->Prop
def Base.new(B:Base)(r:Nat):Prop:=B.w.heap.size<=r∨B.M r
structure Low (B:Base) (w':World):Prop where
 os:w'.os=B.w.os
 tape:w'.tape=B.w.tape
 output:w'.output=B.w.output
 size:B.w.heap.size<=w'.heap.size
 block:∀k,k<B.w.heap.size->¬B.M k->w'.heap[k]? = B.w.heap[k]?
theorem Low.step{B:Base}{w w':World}(h:Low B w)(hos:w'.os=w.os)(htape:w'.tape=w.tape)(hout:w'.output=w.output)(hsize:w.heap.size<=w'.heap.size)(hb:∀k,k<w.heap.size->¬B.new k->w'.heap[k]? = w.heap[k]?):Low B w' :=
 ⟨hos.trans h.os,htape.trans h.tape,hout.trans h.output,fk h.size hsize,fun k hk hM=>(hb k (ah hk h.size) (fun hn=>hn.elim (fun h=>by omega) hM)).trans (h.block k hk hM)⟩
theorem Low.alloc{B:Base}{w:World}(h:Low B w)(o:Obj):Low B (w.alloc o):=
 h.step rfl rfl rfl (by simp) fun k hk _=>Below.heap_alloc w o k hk
theorem Low.drew{B:Base}{w:World}(h:Low B w):Low B w.drew:=⟨h.os,h.tape,h.output,h.size,h.block⟩
structure Ok (base:Base) (S0:Nat->Prop) (σ:Sit):Prop where
 below:Low base σ.w
 stab0:∀r,S0 r->σ.S r
 stab:∀r,σ.S r->r<σ.w.heap.size/\(S0 r∨base.new r)
 ent:∀b,AF σ b
 own:∀b r,σ.owned b r->base.new r/\r<σ.w.heap.size/\¬σ.S r
 inj:∀b b' r,σ.owned b r->σ.owned b' r->b=b'
theorem Rows.mono{w w':World}{S S':Nat->Prop}(hS:∀r,S r->S' r)(hH:∀r,S r->w'.heap[r]? = w.heap[r]?){e:Shape}{vs:Array Value}{o:Nat}{xs:List (Aa e)}
  (h:Rows w S e vs o xs):Rows w' S' e vs o xs:=fun i x hi=>by
 obtain⟨ds,h1,h2⟩:=h i x hi
 exact⟨ds,h1.mono hS hH,h2⟩
theorem DH{mem:Ae}{b:Nat}(h:Ac mem b≠.gone):b<mem.length:=by
 unfold Ac at h;rcases au b mem.length with h' | h'
 ·exact h'
 ·rw[ff h']at h;exact absurd rfl h
theorem G9{mem l:Ae}{b:Nat}(h:b<mem.length):Ac (mem++l) b=Ac mem b:=by
 unfold Ac;rw[co h]
theorem Mz{mem:Ae}{e:Blk}:Ac (mem++[e]) mem.length=e:=by
 unfold Ac;simp
theorem Ro{mem:Ae}{e:Blk}{b:Nat}(h:mem.length<b):Ac (mem++[e]) b=.gone:=by
 unfold Ac;rw[ff (by simp;omega)];rfl
theorem Ci{mem:Ae}{e:Blk}{b b':Nat}(hb:b<mem.length):Ac (mem.set b e) b'=if b'=b then e else Ac mem b':=by
 unfold Ac;by_cases h:b'=b
 ·subst h;rw[if_pos rfl,List.getElem?_set_self hb];rfl
 ·rw[if_neg h,List.getElem?_set_ne (fun e=>h e.symm)]
theorem aL7{mem:Ae}{b:Nat}(h:mem.length<=b):Ac mem b=.gone:=by
 unfold Ac;rw[ff h];rfl
theorem wR{mem:Ae}{b:Nat}{e:Blk}(h:Ac mem b=e)(hn:e≠.gone):mem.set b e=mem:=by
 have hlt:b<mem.length:=DH (by rw[h];exact hn);apply List.ext_getElem?;intro i;rw[nc];split
 ·rename_i hbi;subst hbi;unfold Ac at h;rw[bc hlt]at h⊢;rw[←h];simp[hlt]
 ·rfl
theorem Bm.refl{σ σ':Sit}{b:Nat}(hm:Ac σ'.mem b=Ac σ.mem b)(hb:σ'.E.β b=σ.E.β b)(hk:σ'.E.κ b=σ.E.κ b):Bm σ σ' b:=by
 unfold Bm;cases e:Ac σ.mem b with
 |gone=>simp only;rw[hm,e]
 |raw cs=>exact .inl ⟨hb,cs,hm.trans e⟩
 |arr τ xs=>exact .inl ⟨hb,hk,xs,hm.trans e,rfl⟩
 |acc τ xs=>exact .inl ⟨hb,hk,hm.trans e⟩
 |froz τ xs=>exact hm.trans e
theorem Goes.refl(σ:Sit):Goes σ σ:=⟨fun _ h=>h,fun _ _=>rfl,cg _,fun _ _=>Bm.refl rfl rfl rfl⟩
theorem AF.keep{σ σ':Sit}(hg:Goes σ σ'){b:Nat}(hm:Ac σ'.mem b=Ac σ.mem b)(hb:σ'.E.β b=σ.E.β b)(hk:σ'.E.κ b=σ.E.κ b)
  (hh:∀r,σ.owned b r->σ'.w.heap[r]? = σ.w.heap[r]?) (h:AF σ b):AF σ' b:=by
 unfold AF at h⊢;rw[hm];cases e:Ac σ.mem b with
 |gone=>trivial
 |froz τ xs=>trivial
 |raw cs=>
  rw[e]at h;obtain⟨r,vs,T,h1,h2,h3⟩:=h;exact⟨r,vs,T,hb.trans h1,(hh r ⟨by rw[e];trivial,h1⟩).trans h2,h3.mono fun _ _=>hg.repC⟩
 |arr τ xs=>
  rw[e]at h;obtain⟨h0,h00,h⟩:=h;refine⟨by rw[hk];exact h0,by rw[hk];exact h00,?_⟩;rcases h with⟨h1,h2⟩|⟨r,vs,T,h1,h2,h3,h4⟩
  ·exact .inl ⟨hb.trans h1,hk.trans h2⟩
  ·exact .inr ⟨r,vs,T,hb.trans h1,(hh r ⟨by rw[e];trivial,h1⟩).trans h2,by rw[hk];exact h3,h4.mono hg.stab hg.heap⟩
 |acc τ xs=>
  rw[e]at h;obtain⟨h0,h00,h⟩:=h;refine⟨by rw[hk];exact h0,by rw[hk];exact h00,?_⟩;rcases h with⟨h1,h2⟩|⟨r,vs,T,h1,h2,h3,h4⟩
  ·exact .inl ⟨hb.trans h1,hk.trans h2⟩
  ·exact .inr ⟨r,vs,T,hb.trans h1,(hh r ⟨by rw[e];trivial,h1⟩).trans h2,by rw[hk];exact h3,h4.mono hg.stab hg.heap⟩
theorem aLW{w:World}{S:Nat->Prop}{τ:Shape}{xs:List (Aa τ)}{r:Nat}{vs:Array Value}{T:TypeId}{fz:Nat×Nat}{c:Nat}(hS:S r)(hh:w.heap[r]? = some (.cells vs T fz))
  (hr:Rows w S τ vs 0 xs) (hc:xs.length<=c) (hl:c<BQ):AN w S (.slice τ) xs [.slice (some ⟨r,0,none⟩) xs.length c]:=
 ⟨_,c,rfl,hc,hl,fun _=>⟨r,0,vs,T,fz,rfl,hS,hh,hr⟩⟩
theorem gV{base:Base}{S0:Nat->Prop}{σ:Sit}(ho:Ok base S0 σ){b:Nat}{τ:Shape}{xs:List (Aa τ)}(he:Ac σ.mem b=.arr τ xs∨Ac σ.mem b=.acc τ xs):
  ∃σ':Sit,σ'.mem=σ.mem.set b (.froz τ xs)/\σ'.w=σ.w/\σ'.E=σ.E/\Ok base S0 σ'/\Goes σ σ':=by
 have hlt:b<σ.mem.length:=DH (by rcases he with h|h<;>rw[h]<;>simp);refine⟨⟨σ.E,σ.mem.set b (.froz τ xs),σ.w,fun r=>σ.S r∨σ.E.β b=some r⟩,rfl,rfl,rfl,?_⟩;have howned:∀r,σ.E.β b=some r->σ.owned b r:=fun r hr=>⟨by rcases he with h|h<;>rw[h]<;>trivial,hr⟩
 have hent:=ho.ent b;have hread:AN σ.w (fun r=>σ.S r∨σ.E.β b=some r) (.slice τ) xs [.slice ((σ.E.β b).map fun r=>⟨r,0,none⟩) xs.length (σ.E.κ b)]:=by
  have hent':xs.length<=σ.E.κ b/\σ.E.κ b<BQ/\((σ.E.β b=none/\σ.E.κ b=0) ∨
   ∃r vs T,σ.E.β b=some r/\σ.w.heap[r]? = some (.cells vs T (0,0))/\vs.size=σ.E.κ b*τ.width/\Rows σ.w σ.S τ vs 0 xs):=by
   unfold AF at hent
   rcases he with h|h
   ·rw[h]at hent;exact hent
   ·rw[h]at hent;exact hent
  obtain⟨h0,h00,h5⟩:=hent';rcases h5 with⟨h1,h2⟩|⟨r',vs,T,h1,h2,h3,h4⟩
  ·have:xs=[]:=cq (by omega);subst this;rw[h1,h2];exact iG τ
  ·rw[h1];exact aLW (.inr rfl) h2 (h4.mono (fun _ h=>.inl h) fun _ _=>rfl) h0 h00
 have hg:Goes σ ⟨σ.E,σ.mem.set b (.froz τ xs),σ.w,fun r=>σ.S r∨σ.E.β b=some r⟩:=by
  refine⟨fun r h=>.inl h,fun _ _=>rfl,by simp,fun b' hb'=>?_⟩;by_cases hbb:b'=b
  ·subst hbb;have hset:Ac (σ.mem.set b' (.froz τ xs)) b'=.froz τ xs:=by rw[Ci hlt,if_pos rfl]
   unfold Bm;rcases he with h|h
   ·rw[h];exact .inr (.inl ⟨xs,hset,hread⟩)
   ·rw[h];exact .inr (.inl ⟨hset,hread⟩)
  ·exact Bm.refl (by simp only;rw[Ci hlt,if_neg hbb]) rfl rfl
 refine⟨⟨ho.below,fun r h=>.inl (ho.stab0 r h),fun r h=>?_,fun b'=>?_,fun b' r h=>?_,fun b1 b2 r h1 h2=>?_⟩,hg⟩
 ·rcases h with h|h
  ·exact ho.stab r h
  ·have:=ho.own b r (howned r h);exact⟨this.2.1,.inr this.1⟩
 ·by_cases hbb:b'=b
  ·subst hbb;unfold AF;simp only;rw[Ci hlt,if_pos rfl];trivial
  ·exact AF.keep hg (by simp only;rw[Ci hlt,if_neg hbb]) rfl rfl (fun _ _=>rfl) (ho.ent b')
 ·obtain⟨h1,h2⟩:=h;simp only at h1 h2;rw[Ci hlt]at h1;split at h1
  ·exact h1.elim
  ·rename_i hne;have hh:=ho.own b' r ⟨h1,h2⟩;refine⟨hh.1,hh.2.1,fun hs=>?_⟩;rcases hs with hs|hs
   ·exact hh.2.2 hs
   ·exact hne (ho.inj b' b r ⟨h1,h2⟩ (howned r hs))
 ·obtain⟨h3,h4⟩:=h1;obtain⟨h5,h6⟩:=h2;simp only at h3 h4 h5 h6;rw[Ci hlt]at h3 h5;split at h3
  ·exact h3.elim
  ·split at h5
   ·exact h5.elim
   ·exact ho.inj b1 b2 r ⟨h3,h4⟩ ⟨h5,h6⟩
theorem Goes.trans{σ σ' σ'':Sit}(h:Goes σ σ')(h':Goes σ' σ''):Goes σ σ'':=by
 refine⟨fun r hr=>h'.stab r (h.stab r hr),fun r hr=>(h'.heap r (h.stab r hr)).trans (h.heap r hr),fk h.len h'.len,fun b hb=>?_⟩;have t1:=h.turns b hb;have t2:=h'.turns b (ah hb h.len);unfold Bm at t1 t2⊢;cases e:Ac σ.mem b with
 |gone=>rw[e]at t1;simp only at t1;rw[t1]at t2;exact t2
 |raw cs=>
  rw[e]at t1;simp only at t1;rcases t1 with⟨h1,cs',h2⟩|h2
  ·rw[h2]at t2;rcases t2 with⟨g1,g2⟩|g2
   ·exact .inl ⟨g1.trans h1,g2⟩
   ·exact .inr g2
  ·rw[h2]at t2;exact .inr t2
 |arr τ xs=>
  rw[e]at t1;simp only at t1;rcases t1 with⟨h1,h1',xs',h2,h3⟩|⟨xs',h1,h2⟩|h1
  ·rw[h2]at t2;rcases t2 with⟨g1,g1',xs'',g2,g3⟩|⟨xs'',g1,g2⟩|g1
   ·exact .inl ⟨g1.trans h1,g1'.trans h1',xs'',g2,g3.trans h3⟩
   ·refine .inr (.inl ⟨xs'',g1,?_⟩);rw[h1,h1',h3]at g2;exact g2
   ·exact .inr (.inr g1)
  ·rw[h1]at t2;exact .inr (.inl ⟨xs',t2,h2.mono h'.stab h'.heap⟩)
  ·rw[h1]at t2;exact .inr (.inr t2)
 |acc τ xs=>
  rw[e]at t1;simp only at t1;rcases t1 with⟨h1,h2,h3⟩|⟨h1,h2⟩|h1
  ·rw[h3]at t2;rcases t2 with⟨g1,g2,g3⟩|⟨g1,g2⟩|g1
   ·exact .inl ⟨g1.trans h1,g2.trans h2,g3⟩
   ·refine .inr (.inl ⟨g1,?_⟩);rw[h1,h2]at g2;exact g2
   ·exact .inr (.inr g1)
  ·rw[h1]at t2;exact .inr (.inl ⟨t2,h2.mono h'.stab h'.heap⟩)
  ·rw[h1]at t2;exact .inr (.inr t2)
 |froz τ xs=>rw[e]at t1;simp only at t1;rw[t1]at t2;exact t2
end Vx
namespace Vx
open Go Go.RowKit
theorem aNf{base:Base}{S0:Nat->Prop}{σ:Sit}(ho:Ok base S0 σ){b:Nat}{cs:List SC}(he:Ac σ.mem b=.raw cs):
  ∃(σ':Sit) (r:Nat) (vs:Array Value) (T:TypeId),σ'.mem=σ.mem.set b .gone/\σ'.w=σ.w/\σ'.E=σ.E/\Ok base S0 σ'/\Goes σ σ'/\σ.E.β b=some r/\σ'.S r/\σ.w.heap[r]? = some (.cells vs T (0,0))/\All2 (Aw σ) cs vs.toList:=by
 have hlt:b<σ.mem.length:=DH (by rw[he];simp);have hent:=ho.ent b;unfold AF at hent;rw[he]at hent;obtain⟨r,vs,T,h1,h2,h3⟩:=hent;have howned:σ.owned b r:=⟨by rw[he];trivial,h1⟩
 have hset:Ac (σ.mem.set b .gone) b=.gone:=by rw[Ci hlt,if_pos rfl]
 have hold:∀b' q,Ka (Ac (σ.mem.set b .gone) b')->σ.E.β b'=some q->σ.owned b' q/\b'≠b:=fun b' q g1 g2=>by
  rw[Ci hlt]at g1;split at g1
  ·exact g1.elim
  ·rename_i hne;exact⟨⟨g1,g2⟩,hne⟩
 have hg:Goes σ ⟨σ.E,σ.mem.set b .gone,σ.w,fun q=>σ.S q∨q=r⟩:=by
  refine⟨fun r h=>.inl h,fun _ _=>rfl,by simp,fun b' hb'=>?_⟩;by_cases hbb:b'=b
  ·subst hbb;unfold Bm;rw[he];exact .inr hset
  ·exact Bm.refl (by simp only;rw[Ci hlt,if_neg hbb]) rfl rfl
 refine⟨⟨σ.E,σ.mem.set b .gone,σ.w,fun q=>σ.S q∨q=r⟩,r,vs,T,rfl,rfl,rfl,⟨ho.below,fun r h=>.inl (ho.stab0 r h),fun q h=>?_,fun b'=>?_,fun b' q h=>?_,fun b1 b2 q g1 g2=>?_⟩,hg,h1,.inr rfl,h2,h3⟩
 ·rcases h with h|rfl
  ·exact ho.stab q h
  ·have:=ho.own b q howned;exact⟨this.2.1,.inr this.1⟩
 ·by_cases hbb:b'=b
  ·subst hbb;unfold AF;simp only;rw[hset];trivial
  ·exact AF.keep hg (by simp only;rw[Ci hlt,if_neg hbb]) rfl rfl (fun _ _=>rfl) (ho.ent b')
 ·obtain⟨k1,k2⟩:=hold b' q h.1 h.2;have:=ho.own b' q k1;refine⟨this.1,this.2.1,fun hs=>?_⟩;rcases hs with hs|rfl
  ·exact this.2.2 hs
  ·exact k2 (ho.inj b' b q k1 howned)
 ·exact ho.inj b1 b2 q (hold b1 q g1.1 g1.2).1 (hold b2 q g2.1 g2.2).1
theorem aMe{σ:Sit}{cs:List SC}{n:Nat}(h:sN cs=some n){vs:Array Value}(ha:All2 (Aw σ) cs vs.toList):vs[0]? = some (MC n):=by
 have key:∀{c y},cs=[c]->Aw σ c y->vs.toList=[y]->y=MC n->vs[0]? = some (MC n):=fun {c y} _ _ hv hy=>by
  rw[←kj,hv,hy];rfl
 unfold sN at h;split at h
 ·rename_i c;generalize hvs:vs.toList=l at ha;cases ha with
  |cons hc ht=>
   rename_i y l';cases ht;split at h
   ·cases h;refine key rfl hc hvs ?_;rename_i b;obtain⟨rfl,_⟩:=hc;cases b<;>rfl
   ·cases h;refine key rfl hc hvs ?_;obtain⟨_,_,h1⟩:=hc;rcases h1 with⟨p,hp,_⟩|⟨rs,h1,rfl⟩
    ·simp at hp
    ·simp[MC]
   ·cases h;refine key rfl hc hvs ?_;obtain⟨ps,e,h1,_⟩:=hc;have:ps=[]:=cq h1;subst this;simpa[MC]using e
   ·cases h
 ·cases h
theorem aDy{base:Base}{S0:Nat->Prop}:∀{l:List (Nat×Nat)} {σ:Sit},Ok base S0 σ->∀{ns:List Nat} {m:Ae},Ig σ.mem l=some (ns,m) ->
  (∀p∈l,∃cs,Ac σ.mem p.1=.raw cs)/\∃(σ':Sit) (rs:List Nat),σ'.mem=m/\σ'.w=σ.w/\σ'.E=σ.E/\Ok base S0 σ'/\Goes σ σ'/\l.map (fun p=>σ.E.β p.1)=rs.map some/\(l.zip rs).length=ns.length /\
   ∀(i n:Nat),ns[i]? = some n->∃(r:Nat) (vs:Array Value) (T:TypeId) (fz:Nat×Nat),((l.zip rs).map fun q=>jb (some ⟨q.2,q.1.2,none⟩))[i]? = some (jb (some ⟨r,0,none⟩))/\σ'.S r/\σ'.w.heap[r]? = some (Obj.cells vs T fz)/\vs[0]? = some (MC n)
 | [],σ,ho,ns,m,h=>by
  simp only[Ig]at h
  cases h
  exact⟨fun p hp=>by simp at hp,σ,[],rfl,rfl,rfl,ho,Goes.refl σ,rfl,rfl,fun i n hi=>by simp at hi⟩
 |(b,off+1)::l,σ,ho,ns,m,h=>by simp[Ig]at h
 |(b,0)::l,σ,ho,ns,m,h=>by
  simp only[Ig]at h
  split at h
  ·rename_i cs e
   split at h
   ·rename_i n ns' m' e1 e2
    cases h
    obtain⟨σ1,r,vs,T,a1,a2,a3,a4,a5,a6,a7,a8,a9⟩:=aNf ho e
    rw[←a1]at e2
    obtain⟨b1,σ2,rs,c1,c2,c3,c4,c5,c6,c7,c8⟩:=aDy a4 e2
    have hlt:b<σ.mem.length:=DH (by rw[e];simp)
    refine⟨fun p hp=>?_,σ2,r::rs,c1,c2.trans a2,c3.trans a3,c4,a5.trans c5,?_,?_,fun i n' hi=>?_⟩
    ·rcases cx.1 hp with rfl|hp
     ·exact⟨cs,e⟩
     ·obtain⟨cs',e'⟩:=b1 p hp
      rw[a1,Ci hlt]at e'
      split at e'
      ·cases e'
      ·exact⟨cs',e'⟩
    ·rw[a3]at c6
     simp only[List.map_cons,a6,c6]
    ·simp only[List.zip_cons_cons,gk,c7]
    ·cases i with
     |zero=>
      simp at hi
      subst hi
      exact⟨r,vs,T,(0,0),by simp,c5.stab r a7,by rw[c2,a2];exact a8,aMe e1 a9⟩
     |succ i=>
      obtain⟨r',vs',T',fz,k1,k2,k3,k4⟩:=c8 i n' (by simpa using hi)
      exact⟨r',vs',T',fz,by simpa using k1,k2,k3,k4⟩
   ·cases h
  ·cases h
theorem RC{base:Base}{S0:Nat->Prop}{σ:Sit}(ho:Ok base S0 σ){c c':SC}{mem':Ae}(h:C8 σ.mem c=(c',mem')):
  ∃σ':Sit,σ'.mem=mem'/\σ'.w=σ.w/\σ'.E=σ.E/\Ok base S0 σ'/\Goes σ σ'/\∀y,Aw σ c y->Aw σ' c' y:=by
 have triv:∀{d:SC},(∀y,Aw σ c y->Aw σ d y)->(d,σ.mem)=(c',mem')->∃σ':Sit,σ'.mem=mem'/\σ'.w=σ.w/\σ'.E=σ.E/\Ok base S0 σ'/\Goes σ σ'/\∀y,Aw σ c y->Aw σ' c' y:=
  fun hd e=>by cases e;exact⟨σ,rfl,rfl,rfl,ho,Goes.refl σ,hd⟩
 cases c with
 |own b=>
  simp only[C8]at h;cases e:Ac σ.mem b with
  |gone=>rw[e]at h;exact triv (d:=.undef) (fun y hy=>hy.2.1) h
  |raw cs=>rw[e]at h;exact triv (d:=.undef) (fun y hy=>hy.2.1) h
  |arr τ xs=>
   rw[e]at h;simp only at h;cases h;obtain⟨σ',h1,h2,h3,h4,h5⟩:=gV ho (.inl e);refine⟨σ',h1,h2,h3,h4,h5,fun y hy=>?_⟩;have:=h5.repC hy;obtain⟨_,_,h6⟩:=this;rw[h1,Ci (DH (by rw[e];simp)),if_pos rfl]at h6;exact h6
  |acc τ xs=>
   rw[e]at h;simp only at h;cases h;obtain⟨σ',h1,h2,h3,h4,h5⟩:=gV ho (.inr e);refine⟨σ',h1,h2,h3,h4,h5,fun y hy=>?_⟩;have:=h5.repC hy;obtain⟨_,_,h6⟩:=this;rw[h1,Ci (DH (by rw[e];simp)),if_pos rfl]at h6;exact h6
  |froz τ xs=>
   rw[e]at h;refine triv (fun y hy=>?_) h;obtain⟨_,_,h6⟩:=hy;rw[e]at h6;exact h6
 |undef=>exact triv (fun _ h=>h) h
 |v x=>exact triv (fun _ h=>h) h
 |fl k o=>exact triv (fun _ h=>h) h
 |sl τ xs=>exact triv (fun _ h=>h) h
 |ptr b off=>exact triv (fun _ h=>h) h
 |eptr b i off=>exact triv (fun _ h=>h) h
 |sub b lo n=>exact triv (fun _ h=>h) h
 |iptr τ x off=>exact triv (fun _ h=>h) h
 |gptr g=>exact triv (fun _ h=>h) h
 |fnv o=>exact triv (fun _ h=>h) h
 |ifv o=>exact triv (fun _ h=>h) h
 |fn f caps=>
  cases caps with
  |nil=>exact triv (fun _ h=>h) h
  |cons p caps=>
   simp only[C8]at h;cases e:Ig σ.mem (p::caps)with
   |none=>rw[e]at h;exact triv (d:=.fn f (p::caps)) (fun _ h=>h) h
   |some q=>
    obtain⟨ns,m⟩:=q;rw[e]at h;cases h;obtain⟨b1,σ',rs,c1,c2,c3,c4,c5,c6,c7,c8⟩:=aDy ho e;refine⟨σ',c1,c2,c3,c4,c5,fun y hy=>?_⟩;obtain⟨_,_,hy⟩:=hy;rcases hy with⟨p',hp',hq⟩|⟨rs',g1,rfl⟩
    ·obtain⟨cs,e'⟩:=b1 p' hp';rw[e']at hq;exact hq.elim
    ·have:rs'=rs:=by
      have h1:=g1.symm.trans c6;exact(List.map_inj_right fun _ _ h=>kl h).1 h1
     subst this;exact⟨_,rfl,by rw[List.length_map];exact c7,c8⟩
theorem Zv{base:Base}{S0:Nat->Prop}:∀{cs:List SC} {σ:Sit},Ok base S0 σ->∀{cs':List SC} {mem':Ae},EY σ.mem cs=(cs',mem') ->
  ∃σ':Sit,σ'.mem=mem'/\σ'.w=σ.w/\σ'.E=σ.E/\Ok base S0 σ'/\Goes σ σ'/\∀ys,All2 (Aw σ) cs ys->All2 (Aw σ') cs' ys
 | [],σ,ho,cs',mem',h=>by
  simp only[EY]at h;cases h
  exact⟨σ,rfl,rfl,rfl,ho,Goes.refl σ,fun ys h=>by cases h;exact .nil⟩
 |c::cs,σ,ho,cs',mem',h=>by
  simp only[EY]at h
  cases e1:C8 σ.mem c with
  |mk c1 m1=>
   rw[e1]at h;simp only at h
   obtain⟨σ1,a1,a2,a3,a4,a5,a6⟩:=RC ho e1
   cases e2:EY m1 cs with
   |mk c2 m2=>
    rw[e2]at h;simp only at h;cases h
    rw[←a1]at e2
    obtain⟨σ2,b1,b2,b3,b4,b5,b6⟩:=Zv a4 e2
    refine⟨σ2,b1,b2.trans a2,b3.trans a3,b4,a5.trans b5,fun ys hy=>?_⟩
    cases hy with
    |cons h1 h2=>exact .cons (b5.repC (a6 _ h1)) (b6 _ (h2.mono fun _ _=>a5.repC))
theorem aEu{base:Base}{S0:Nat->Prop}{σ:Sit}(ho:Ok base S0 σ){x x':SV}{mem':Ae}(h:FH σ.mem x=(x',mem')):
  ∃σ':Sit,σ'.mem=mem'/\σ'.w=σ.w/\σ'.E=σ.E/\Ok base S0 σ'/\Goes σ σ'/\∀y,A8 σ x y->A8 σ' x' y:=by
 cases x with
 |one c=>
  simp only[FH]at h;cases e1:C8 σ.mem c with
  |mk c1 m1=>
   rw[e1]at h;simp only at h;cases h;obtain⟨σ1,a1,a2,a3,a4,a5,a6⟩:=RC ho e1;exact⟨σ1,a1,a2,a3,a4,a5,a6⟩
 |agg cs=>
  simp only[FH]at h;cases e1:EY σ.mem cs with
  |mk c1 m1=>
   rw[e1]at h;simp only at h;cases h;obtain⟨σ1,a1,a2,a3,a4,a5,a6⟩:=Zv ho e1;exact⟨σ1,a1,a2,a3,a4,a5,fun y ⟨ys,e,hy⟩=>⟨ys,e,a6 ys hy⟩⟩
def AC{α:Type}(f:Nat->α)(b:Nat)(x:α):Nat->α:=fun i=>if i=b then x else f i
def Sit.push(σ:Sit)(e:Blk)(o:Obj)(k:Nat):Sit:={E:={β:=AC σ.E.β σ.mem.length (some σ.w.heap.size),κ:=AC σ.E.κ σ.mem.length k},mem:=σ.mem++[e],w:=σ.w.alloc o,S:=σ.S}
def Sit.name(σ:Sit)(e:Blk):Sit:={E:={β:=AC σ.E.β σ.mem.length none,κ:=AC σ.E.κ σ.mem.length 0},mem:=σ.mem++[e],w:=σ.w,S:=σ.S}
theorem MQ{w:World}{o:Obj}{r:Nat}(h:r<w.heap.size):(w.alloc o).heap[r]? = w.heap[r]?:=Below.heap_alloc w o r h
theorem iW{base:Base}{S0:Nat->Prop}{σ:Sit}(ho:Ok base S0 σ)(e:Blk)(o:Obj)(k:Nat):Goes σ (σ.push e o k):=by
 refine⟨fun _ h=>h,fun r hr=>MQ (ho.stab r hr).1,by simp[Sit.push],fun b hb=>?_⟩;exact Bm.refl (G9 hb) (by simp[Sit.push,AC];omega) (by simp[Sit.push,AC];omega)
theorem u7(σ:Sit)(e:Blk):Goes σ (σ.name e):=by
 refine⟨fun _ h=>h,fun r hr=>rfl,by simp[Sit.name],fun b hb=>?_⟩;exact Bm.refl (G9 hb) (by simp[Sit.name,AC];omega) (by simp[Sit.name,AC];omega)
theorem wD{base:Base}{S0:Nat->Prop}{σ:Sit}(ho:Ok base S0 σ)(e:Blk)(o:Obj)(k:Nat)(hat:AF (σ.push e o k) σ.mem.length):Ok base S0 (σ.push e o k):=by
 have hg:=iW ho e o k;have hlt:∀b,Ka (Ac (σ.push e o k).mem b)->b≠σ.mem.length->Ka (Ac σ.mem b)/\b<σ.mem.length:=fun b h hne=>by
  rcases au b σ.mem.length with h' | h'
  ·simp only[Sit.push]at h;rw[G9 h']at h;exact⟨h,h'⟩
  ·simp only[Sit.push]at h;rw[Ro (by omega)]at h;exact h.elim
 have hold:∀b r,(σ.push e o k).owned b r->b≠σ.mem.length->σ.owned b r:=fun b r h hne=>by
  obtain⟨h1,h2⟩:=h;obtain⟨h3,h4⟩:=hlt b h1 hne;exact⟨h3,by simpa[Sit.push,AC,hne]using h2⟩
 have hnew:∀r,(σ.push e o k).owned σ.mem.length r->r=σ.w.heap.size:=fun r h=>by
  have:=h.2;simp[Sit.push,AC]at this;omega
 refine⟨ho.below.alloc o,ho.stab0,fun r h=>?_,fun b=>?_,fun b r h=>?_,fun b b' r h h'=>?_⟩
 ·have:=ho.stab r h;exact⟨by simp only[Sit.push,gl];omega,this.2⟩
 ·by_cases hb:b=σ.mem.length
  ·rw[hb];exact hat
  ·rcases au b σ.mem.length with h' | h'
   ·refine AF.keep hg (G9 h') (by simp[Sit.push,AC,hb]) (by simp[Sit.push,AC,hb]) (fun r hr=>MQ (ho.own b r hr).2.1) (ho.ent b)
   ·unfold AF;simp only[Sit.push];rw[Ro (by omega)];trivial
 ·by_cases hb:b=σ.mem.length
  ·subst hb;rw[hnew r h];exact⟨.inl ho.below.size,by simp[Sit.push],fun hs=>absurd (ho.stab _ hs).1 (by omega)⟩
  ·have:=ho.own b r (hold b r h hb);exact⟨this.1,by simp only[Sit.push,gl];omega,this.2.2⟩
 ·by_cases hb:b=σ.mem.length<;>by_cases hb':b'=σ.mem.length
  ·rw[hb,hb']
  ·subst hb;have h1:=hnew r h;have:=(ho.own b' r (hold b' r h' hb')).2.1;omega
  ·subst hb';have h1:=hnew r h';have:=(ho.own b r (hold b r h hb)).2.1;omega
  ·exact ho.inj b b' r (hold b r h hb) (hold b' r h' hb')
theorem aGe{base:Base}{S0:Nat->Prop}{σ:Sit}(ho:Ok base S0 σ)(τ:Shape):Ok base S0 (σ.name (.acc τ [])):=by
 have hg:=u7 σ (.acc τ []);have hold:∀b r,(σ.name (.acc τ [])).owned b r->σ.owned b r:=fun b r h=>by
  obtain⟨h1,h2⟩:=h;by_cases hb:b=σ.mem.length
  ·subst hb;simp[Sit.name,AC]at h2
  ·rcases au b σ.mem.length with h' | h'
   ·simp only[Sit.name]at h1;rw[G9 h']at h1;exact⟨h1,by simpa[Sit.name,AC,hb]using h2⟩
   ·simp only[Sit.name]at h1;rw[Ro (by omega)]at h1;exact h1.elim
 refine⟨ho.below,ho.stab0,ho.stab,fun b=>?_,fun b r h=>ho.own b r (hold b r h),fun b b' r h h'=>ho.inj b b' r (hold b r h) (hold b' r h')⟩;by_cases hb:b=σ.mem.length
 ·subst hb;unfold AF;simp only[Sit.name];rw[Mz];simp[AC,BQ]
 ·rcases au b σ.mem.length with h' | h'
  ·exact AF.keep hg (G9 h') (by simp[Sit.name,AC,hb]) (by simp[Sit.name,AC,hb]) (fun r hr=>rfl) (ho.ent b)
  ·unfold AF;simp only[Sit.name];rw[Ro (by omega)];trivial
def Dh(w:World)(r:Nat)(o:Obj):World:={w with heap:=w.heap.setIfInBounds r o}
theorem VC{w:World}{r r':Nat}{o:Obj}(h:r'≠r):(Dh w r o).heap[r']? = w.heap[r']?:=by
 simp only[Dh];rw[Array.getElem?_setIfInBounds_ne (fun e=>h e.symm)]
theorem VB{w:World}{r:Nat}{o:Obj}(h:r<w.heap.size):(Dh w r o).heap[r]? = some o:=by
 simp only[Dh];rw[Array.getElem?_setIfInBounds_self_of_lt h]
theorem wS{w:World}{r:Nat}{o:Obj}:(Dh w r o).heap.size=w.heap.size:=by simp[Dh]
theorem aVQ{w:World}{r:Nat}{o o':Obj}:Dh (Dh w r o) r o'=Dh w r o':=by
 simp only[Dh];congr 1;exact Array.setIfInBounds_setIfInBounds ..
theorem aUL{w:World}{r i:Nat}{vs:Array Value}{T:TypeId}{fz:Nat×Nat}{v:Value}(h:w.heap[r]? = some (.cells vs T fz)):
  w.setCell ⟨r,i,none⟩ v=Dh w r (.cells (vs.setIfInBounds i v) T fz):=by
 have hlt:=(dc.1 h).1;have he:=(dc.1 h).2;simp only[World.setCell,Dh];congr 1;apply qw
 ·simp
 ·intro j h1 h2;rw[Array.getElem_modify,mo (by simpa using h1)];by_cases hj:r=j
  ·subst hj;rw[if_pos rfl,if_pos rfl,he];rfl
  ·rw[if_neg hj,if_neg hj]
theorem gC{w:World}{r i:Nat}{vs:Array Value}{T:TypeId}{fz:Nat×Nat}(h:w.heap[r]? = some (.cells vs T fz)):w.cell? ⟨r,i,none⟩=vs[i]?:=by
 simp[World.cell?,h]
theorem aNg{w:World}{r i:Nat}{vs:Array Value}{T:TypeId}(h:w.heap[r]? = some (.cells vs T (0,0))):w.frozen? ⟨r,i,none⟩=false:=by
 simp[World.frozen?,h]
def CE(vs:Array Value):Nat->List Value->Array Value
 |_,[]=>vs
 |o,v::l=>CE (vs.setIfInBounds o v) (o+1) l
theorem aC:∀(l:List Value) (vs:Array Value) (o:Nat),(CE vs o l).size=vs.size
 | [],_,_=>rfl
 |_::l,vs,o=>by rw[CE,aC l];simp
theorem JU(r o n:Nat):(⟨r,o,none⟩:Addr).add n=⟨r,o+n,none⟩:=by
 unfold Addr.add;split
 ·rename_i h;subst h;rfl
 ·rfl
theorem aT7{P:Program}{w:World}{r i:Nat}{vs:Array Value}{T:TypeId}{v:Value}(h:w.heap[r]? = some (.cells vs T (0,0)))(hi:i<vs.size)(hv:scalar v):
  (store ⟨r,i,none⟩ v).run P w=.ok () (Dh w r (.cells (vs.setIfInBounds i v) T (0,0))):=by
 have hc:w.cell? ⟨r,i,none⟩=some vs[i]:=by rw[gC h];simp[hi]
 have hf:=aNg (i:=i) h;unfold store;cases v<;>first|exact hv.elim|(rw[←aUL h];simp[Sem.run,hc,hf])
theorem aK{P:Program}{r o:Nat}{T:TypeId}:∀(l:List Value) (i:Nat) (w:World) (vs:Array Value),w.heap[r]? = some (.cells vs T (0,0)) ->
  o+i+l.length<=vs.size->(∀v∈l,scalar v)->(storeCells ⟨r,o,none⟩ l i).run P w=.ok () (Dh w r (.cells (CE vs (o+i) l) T (0,0)))
 | [],i,w,vs,h,_,_=>by
  have hlt:=(dc.1 h).1
  have he:=(dc.1 h).2
  have:Dh w r (.cells vs T (0,0))=w:=by
   unfold Dh
   have:w.heap.setIfInBounds r (.cells vs T (0,0))=w.heap:=by
    apply qw
    ·simp
    ·intro j h1 h2
     rw[mo (by simpa using h1)]
     split
     ·rename_i hj;subst hj;exact he.symm
     ·rfl
   rw[this]
  simp[storeCells,CE,this]
 |v::l,i,w,vs,h,hsz,hv=>by
  have hlt:=(dc.1 h).1
  simp only[gk]at hsz
  simp only[storeCells,cy,JU]
  rw[aT7 h (by omega) (hv v (by simp))]
  simp only[bl]
  rw[aK l (i+1) _ (vs.setIfInBounds (o+i) v) (VB hlt) (by simp;omega) (fun x hx=>hv x (by simp[hx])),aVQ]
  rw[CE,gu]
theorem aT5{P:Program}{w:World}{r o n:Nat}{vs:Array Value}{T:TypeId}{fz:Nat×Nat}(h:w.heap[r]? = some (.cells vs T fz))(hn:o+n<=vs.size):
  (loadCells ⟨r,o,none⟩ n).run P w=.ok ((vs.toList.drop o).take n).toArray w:=by
 have hl:((vs.toList.drop o).take n).length=n:=by simp;omega
 have:=run_loadCells_list (P:=P) (w:=w) ⟨r,o,none⟩ ((vs.toList.drop o).take n) (fun j v hj=>by
  rw[JU,gC h];have hj':=(aw.1 hj).1;rw[cr (by omega),dr]at hj;simpa using hj)
 rw[hl]at this;exact this
def Sit.store(σ:Sit)(b r:Nat)(e:Blk)(vs:Array Value)(T:TypeId):Sit:={E:=σ.E,mem:=σ.mem.set b e,w:=Dh σ.w r (.cells vs T (0,0)),S:=σ.S}
theorem jG{base:Base}{S0:Nat->Prop}{σ:Sit}(ho:Ok base S0 σ){b r:Nat}(hb:σ.owned b r){e:Blk}{vs:Array Value}{T:TypeId}
  (hk:match Ac σ.mem b with
   |.raw _=>∃cs,e=.raw cs
   |.arr τ xs=>∃xs':List (Aa τ),e=.arr τ xs'/\xs'.length=xs.length
   |_=>False)
  (hat:Goes σ (σ.store b r e vs T)->AF (σ.store b r e vs T) b):Ok base S0 (σ.store b r e vs T)/\Goes σ (σ.store b r e vs T):=by
 have hlt:b<σ.mem.length:=DH (by intro h;have:=hb.1;rw[h]at this;exact this)
 have hrs:=ho.own b r hb
 have hoe:Ka e:=by
  split at hk
  ·obtain⟨cs,rfl⟩:=hk;trivial
  ·obtain⟨xs,rfl,_⟩:=hk;trivial
  ·exact hk.elim
 have hg:Goes σ (σ.store b r e vs T):=by
  refine⟨fun _ h=>h,fun r' hr'=>VC (fun e=>hrs.2.2 (e▸hr')),by simp[Sit.store],fun b' hb'=>?_⟩
  by_cases hbb:b'=b
  ·subst hbb
   have hset:Ac (σ.store b' r e vs T).mem b'=e:=by simp only[Sit.store];rw[Ci hlt,if_pos rfl]
   unfold Bm
   split at hk
   ·rename_i e1;rw[e1];obtain⟨cs,rfl⟩:=hk;exact .inl ⟨rfl,cs,hset⟩
   ·rename_i e1;rw[e1];obtain⟨xs,rfl,hl⟩:=hk;exact .inl ⟨rfl,rfl,xs,hset,hl⟩
   ·exact hk.elim
  ·exact Bm.refl (by simp only[Sit.store];rw[Ci hlt,if_neg hbb]) rfl rfl
 have hold:∀b' r',(σ.store b r e vs T).owned b' r'->σ.owned b' r':=fun b' r' h=>by
  obtain⟨h1,h2⟩:=h
  simp only[Sit.store]at h1 h2
  rw[Ci hlt]at h1
  split at h1
  ·rename_i hbb;subst hbb;exact⟨hb.1,h2⟩
  ·exact⟨h1,h2⟩
 refine⟨⟨ho.below.step rfl rfl rfl (by simp[Sit.store,Dh]) (fun k _ hn=>VC (fun e=>hn (e▸hrs.1))),ho.stab0,fun r' h=>?_,fun b'=>?_,fun b' r' h=>?_,fun b1 b2 r' h1 h2=>ho.inj b1 b2 r' (hold _ _ h1) (hold _ _ h2)⟩,hg⟩
 ·have:=ho.stab r' h;exact⟨by simp only[Sit.store,wS];exact this.1,this.2⟩
 ·by_cases hbb:b'=b
  ·subst hbb;exact hat hg
  ·refine AF.keep hg (by simp only[Sit.store];rw[Ci hlt,if_neg hbb]) rfl rfl (fun r' hr'=>VC (fun e=>hbb (ho.inj b' b r (e▸hr') hb))) (ho.ent b')
 ·have:=ho.own b' r' (hold _ _ h);exact⟨this.1,by simp only[Sit.store,wS];exact this.2.1,this.2.2⟩
end Vx
namespace Vx
open Go Go.RowKit
theorem aF9(k:IntKind):k.min<=0/\0<=k.max:=by cases k<;>decide
theorem aPf{k:IntKind}{n:Int}(h:iJ k n=true):k.min<=n/\n<=k.max:=by
 cases k<;>simp[iJ]at h<;>simp[ol,IntKind.max,IntKind.signed,IntKind.bits]<;>omega
def TC(σ:Sit)(a:Act)(cs:List (Nat×Nat×Bool×TV)):Prop:=∀d g p x,(d,g,p,x)∈cs->(a.tmps.getD g undef=.bool p->A2 σ x (a.tmps.getD d undef))/\(a.tmps.getD g undef≠.bool p->a.tmps.getD d undef=undef)
structure RelT (σ:Sit) (s:St) (a:Act):Prop where
 size:a.tmps.size=s.n
 defers:a.defers=[]
 mem:σ.mem=s.mem
 tm:∀t,A2 σ (AU s.tm t) (a.tmps.getD t undef)
 cs:TC σ a s.cs
def Bj(a:Act)(ctx:List (Nat×Bool)):Prop:=∀t p,(t,p)∈ctx->a.tmps.getD t undef=.bool p
theorem TC.tail{σ:Sit}{a:Act}{e:Nat×Nat×Bool×TV}{cs:List (Nat×Nat×Bool×TV)}(h:TC σ a (e::cs)):TC σ a cs:=
 fun d g p x hm=>h d g p x (ig _ hm)
theorem aFc:∀{l:List (Nat×Bool)} {g:Nat} {q:Bool},Vz l g q=true->(g,q)∈l
 | [],_,_,h=>by simp[Vz]at h
 |(t,p)::r,g,q,h=>by
  simp only[Vz,Bool.or_eq_true,ai]at h
  rcases h with⟨h1,h2⟩|h
  ·have:t=g:=ak h1
   subst this
   have:p=q:=by cases p<;>cases q<;>simp_all [pb]
   subst this
   exact kg
  ·exact ig _ (aFc h)
theorem aE2:∀{cs:List (Nat×Nat×Bool×TV)} {t g:Nat} {p:Bool} {x:TV},ZH cs t=some ((g,p),x)->(t,g,p,x)∈cs
 | [],_,_,_,_,h=>by simp[ZH]at h
 |(d,g',p',x')::r,t,g,p,x,h=>by
  simp only[ZH]at h
  cases hb:Nat.beq d t with
  |true=>
   rw[hb]at h;simp at h
   have:d=t:=ak hb
   obtain⟨⟨rfl,rfl⟩,rfl⟩:=h
   subst this
   exact kg
  |false=>rw[hb]at h;exact ig _ (aE2 h)
theorem aIx(b:Bool):undef≠.bool b:=by unfold undef;intro h;cases h
theorem Zi{σ:Sit}{s:St}{a:Act}(ht:∀t,A2 σ (AU s.tm t) (a.tmps.getD t undef)):∀{cs:List (Nat×Nat×Bool×TV)},TC σ a cs->∀{t:Nat} {p c:Bool},Rq s.tm cs t p=some c ->
  (c=true↔a.tmps.getD t undef=.bool p)
 | [],_,t,p,c,h=>by
  simp only[Rq]at h
  have:=ht t
  split at h
  ·rename_i b e
   cases h
   rw[e]at this
   obtain⟨h1,_⟩:=this
   rw[h1]
   cases p<;>cases b<;>simp[pb]
  ·cases h
 |(d,g,q,x)::r,hc,t,p,c,h=>by
  simp only[Rq]at h
  cases hb:Nat.beq d t with
  |false=>rw[hb]at h;exact Zi ht hc.tail h
  |true=>
   rw[hb]at h
   have:d=t:=ak hb
   subst this
   simp only[cond_true]at h
   split at h
   ·rename_i b
    split at h
    ·rename_i c' hc'
     cases h
     have ih:=Zi ht hc.tail hc'
     have hd:=hc d g q _ kg
     by_cases hg:a.tmps.getD g undef=.bool q
     ·have hc'':c'=true:=ih.2 hg
      obtain⟨h1,_⟩:=hd.1 hg
      rw[h1,hc'']
      cases p<;>cases b<;>simp[pb]
     ·have:c'=false:=by cases c' with|false=>rfl|true=>exact absurd (ih.1 rfl) hg
      rw[hd.2 hg,this]
      simp[aIx]
    ·cases h
   ·cases h
theorem Zg{σ:Sit}{a:Act}:∀{cs:List (Nat×Nat×Bool×TV)},TC σ a cs->∀{t:Nat} {p:Bool},a.tmps.getD t undef=.bool p->Bj a (J1 cs t p)
 | [],_,t,p,h=>by
  intro t' p' hm
  simp only[J1,List.mem_singleton,dh]at hm
  obtain⟨rfl,rfl⟩:=hm
  exact h
 |(d,g,q,x)::r,hc,t,p,h=>by
  simp only[J1]
  cases hb:Nat.beq d t with
  |false=>exact Zg hc.tail h
  |true=>
   have:d=t:=ak hb
   subst this
   have hd:=hc d g q _ kg
   have hg:a.tmps.getD g undef=.bool q:=by
    refine Classical.byContradiction fun hn=>?_
    rw[hd.2 hn]at h
    exact aIx p h
   intro t' p' hm
   simp only[cond_true,cx,dh]at hm
   rcases hm with⟨rfl,rfl⟩|hm
   ·exact h
   ·exact Zg hc.tail hg t' p' hm
theorem aHE{σ:Sit}{v:Value}{c:SC}(h:V4 v=some c):Aw σ c v:=by
 unfold V4 at h;split at h
 ·cases h;exact⟨rfl,trivial⟩
 ·rename_i k n;cases hb:iJ k n with
  |false=>rw[hb]at h;cases h
  |true=>rw[hb]at h;cases h;exact⟨rfl,aPf hb⟩
 ·rename_i b;cases hb:Nat.blt b 4294967296 with
  |false=>rw[hb]at h;cases h
  |true=>rw[hb]at h;cases h;exact⟨b,rfl,by simpa[MJ]using hb,rfl⟩
 ·rename_i b;cases hb:Nat.blt b 18446744073709551616 with
  |false=>rw[hb]at h;cases h
  |true=>rw[hb]at h;cases h;exact⟨b,rfl,by simpa[MJ]using hb,rfl⟩
 ·rename_i s;cases hb:Nat.blt s.size 9223372036854775808 with
  |false=>rw[hb]at h;cases h
  |true=>rw[hb]at h;cases h;exact⟨rfl,by simpa[BQ,Wv]using hb⟩
 ·cases h;exact⟨rfl,trivial⟩
 ·cases h;exact⟨rfl,trivial⟩
 ·cases h;exact⟨rfl,trivial⟩
 ·cases h;exact⟨rfl,trivial⟩
 ·rename_i f first captured
  split at h
  ·rename_i h1 h2;cases h;refine⟨by simp,trivial,.inr ⟨[],rfl,?_⟩⟩;have e1:first=#[]:=gb.1 (h1.trans rfl)
   have e2:captured=#[]:=gb.1 (h2.trans rfl);rw[e1,e2];rfl
  ·cases h
 ·cases h
theorem aHG{σ:Sit}:∀{l:List Value} {cs:List SC},RS l=some cs->All2 (Aw σ) cs l
 | [],_,h=>by simp[RS]at h;subst h;exact .nil
 |v::r,_,h=>by
  simp only[RS]at h
  split at h
  ·rename_i c cs h1 h2
   cases h
   exact .cons (aHE h1) (aHG h2)
  ·cases h
theorem xA{σ:Sit}{v:Value}{x:SV}(h:aT v=some x):A8 σ x v:=by
 unfold aT at h;split at h
 ·rename_i cs;split at h
  ·rename_i l h1;cases h;exact⟨cs.toList,by simp,aHG h1⟩
  ·cases h
 ·split at h
  ·rename_i c h1;cases h;exact aHE h1
  ·cases h
theorem Zo{σ:Sit}{s:St}{a:Act}{ctx:List (Nat×Bool)}(hr:RelT σ s a)(hx:Bj a ctx){x:Operand}{v:TV}(h:ev s ctx x=some v):A2 σ v (a.eval x):=by
 cases x with
 |tmp t=>
  simp only[ev]at h;split at h
  ·rename_i g p y e;cases hb:Vz ctx g p with
   |false=>rw[hb]at h;cases h
   |true=>
    rw[hb]at h;cases h;exact(hr.cs _ _ _ _ (aE2 e)).1 (hx _ _ (aFc hb))
  ·cases h;exact hr.tm t
 |const v=>
  simp only[ev]at h;split at h
  ·rename_i y e;cases h;exact xA e
  ·cases h
 |global g=>simp only[ev]at h;cases h;rfl
 |func f=>
  simp only[ev]at h;cases h;exact⟨by simp,trivial,.inr ⟨[],rfl,rfl⟩⟩
theorem Bs{σ:Sit}{s:St}{a:Act}{ctx:List (Nat×Bool)}(hr:RelT σ s a)(hx:Bj a ctx){x:Operand}{c:SC}(h:AZ s ctx x=some c):Aw σ c (a.eval x):=by
 unfold AZ at h;split at h
 ·rename_i c' e;cases h;exact Zo hr hx e
 ·cases h
theorem Hd{σ:Sit}{s:St}{a:Act}{ctx:List (Nat×Bool)}(hr:RelT σ s a)(hx:Bj a ctx){x:Operand}{c:SV}(h:EW s ctx x=some c):A8 σ c (a.eval x):=by
 unfold EW at h;split at h
 ·rename_i c' e;cases h;exact Zo hr hx e
 ·cases h
theorem SR{σ:Sit}{s:St}{a:Act}{ctx:List (Nat×Bool)}(hr:RelT σ s a)(hx:Bj a ctx):∀{l:List Operand} {cs:List SV},Et s ctx l=some cs->All2 (A8 σ) cs (l.map a.eval)
 | [],_,h=>by simp[Et]at h;subst h;exact .nil
 |x::r,_,h=>by
  simp only[Et]at h
  split at h
  ·rename_i v vs h1 h2
   cases h
   exact .cons (Hd hr hx h1) (SR hr hx h2)
  ·cases h
theorem gP{σ:Sit}{s:St}{a:Act}{ctx:List (Nat×Bool)}(hr:RelT σ s a)(hx:Bj a ctx):∀{l:List (Nat×Operand)} {cs:List (Nat×SV)},Hc s ctx l=some cs ->
  All2 (fun p q=>p.1=q.1/\A8 σ p.2 q.2) cs (l.map fun p=>(p.1,a.eval p.2))
 | [],_,h=>by simp[Hc]at h;subst h;exact .nil
 |(i,x)::r,_,h=>by
  simp only[Hc]at h
  split at h
  ·rename_i v vs h1 h2
   cases h
   exact .cons ⟨rfl,Hd hr hx h1⟩ (gP hr hx h2)
  ·cases h
theorem RH{σ:Sit}{s:St}{a:Act}{ctx:List (Nat×Bool)}(hr:RelT σ s a)(hx:Bj a ctx){x:Operand}{n:Int}(h:E0 s ctx x=some n):
  ∃k,a.eval x=.int k n/\k.min<=n/\n<=k.max:=by
 unfold E0 at h;split at h
 ·rename_i k m e;cases h;obtain⟨h1,h2⟩:=Bs hr hx e;exact⟨k,h1,h2⟩
 ·cases h
theorem A8.cells{σ:Sit}{x:SV}{y:Value}(h:A8 σ x y):All2 (Aw σ) x.cells y.cells.toList:=by
 cases x with
 |one c=>
  have hs:=Aw.scalar h;have:y.cells=#[y]:=by cases y<;>first|rfl|exact hs.elim
  rw[this];exact .cons h .nil
 |agg cs=>
  obtain⟨ys,rfl,ha⟩:=h;simpa[Value.cells,SV.cells]using ha
theorem Hk{σ:Sit}(k:IntKind)(n:Int):Aw σ (.v (.int k (k.wrap n))) (.int k (k.wrap n)):=⟨rfl,wrap_within k n⟩
theorem aUO{k:IntKind}{x:Int}(h:k.min<=x/\x<=k.max)(n:Nat):k.min<=x.fdiv (2^n)/\x.fdiv (2^n)<=k.max:=by
 have hp:(0:Int)<2^n:=Int.pow_pos (by omega);have hm:=aF9 k;rw[Int.fdiv_eq_ediv_of_nonneg _ (Int.le_of_lt hp)];refine⟨?_,?_⟩
 ·refine(Int.le_ediv_iff_mul_le hp).2 ?_;refine ly ?_ h.1;have:=Int.mul_le_mul_of_nonpos_left (a:=k.min) (b:=2^n) (c:=1) hm.1 (by omega);omega
 ·rcases pn 0 x with hx|hx
  ·exact ly (Int.ediv_le_self _ hx) h.2
  ·have:x/2^n<=0:=Int.ediv_nonpos_of_nonpos_of_neg hx hp;omega
theorem aIp{x:Int}(y:Int)(h:0<=x):x.tmod y<=x:=by
 have h1:=Int.natAbs_tmod x y;have h2:=Nat.mod_le x.natAbs y.natAbs;omega
theorem aVi{k:IntKind}{x y:Int}(h:k.min<=x/\x<=k.max):k.min<=x.tmod y/\x.tmod y<=k.max:=by
 have hm:=aF9 k;rcases pn 0 x with hx|hx
 ·have h1:=qb y hx;have h2:x.tmod y<=x:=aIp _ hx;omega
 ·have h1:x.tmod y<=0:=by
   have:=qb y (a:=-x) (by omega);rw[qo]at this;omega
  have h2:x<=x.tmod y:=by
   have:=aIp (x:=-x) y (by omega);rw[qo]at this;omega
  omega
end Vx
namespace Vx
open Go Go.RowKit
theorem aT4{P:Program}{w:World}{op:BinOp}{T:TypeId}{X Y:Operand}{k k':IntKind}{a b:Int}{f:Unit->Sem Value}:
  (eqGuard op T X Y (.int k a) (.int k' b) >>= f).run P w=(f ()).run P w:=by
 cases op<;>rfl
theorem aHA{P:Program}{w:World}{op:BinOp}{T:TypeId}{X Y:Operand}{a b:Bool}{f:Unit->Sem Value}:
  (eqGuard op T X Y (.bool a) (.bool b) >>= f).run P w=(f ()).run P w:=by
 cases op<;>rfl
theorem aHB{P:Program}{w:World}{op:BinOp}{T:TypeId}{X Y:Operand}{a b:ByteArray}{f:Unit->Sem Value}:
  (eqGuard op T X Y (.string a) (.string b) >>= f).run P w=(f ()).run P w:=by
 cases op<;>rfl
theorem aJ{P:Program}{w:World}{op:BinOp}{T:TypeId}{X Y:Operand}{k k':FloatKind}{a b:Nat}{f:Unit->Sem Value}:
  (eqGuard op T X Y (.float k a) (.float k' b) >>= f).run P w=(f ()).run P w:=by
 cases op<;>rfl
theorem aHz{P:Program}{w:World}{T:TypeId}{a b:Bool}(h:P.underlying T=some .bool):(Op.equal T (.bool a) (.bool b)).run P w=.ok (a==b) w:=by
 unfold Op.equal Op.maxDepth Op.equalIn;simp[underlying,h]
theorem aL4{P:Program}{σ:Sit}{op:BinOp}{T:TypeId}{k k':IntKind}{x y:Int}{r:SC}{w:World}
  (hx:k.min<=x/\x<=k.max) (hy:k'.min<=y/\y<=k'.max) (h:Rn op (.v (.int k x)) (.v (.int k' y))=some (true,r)) :
  ∃v,(binOp op T (.int k x) (.int k' y)).run P w=.ok v w/\Aw σ r v:=by
 have hneg:(match k'.signed with|true=>decide (0<=y)|false=>true)=true->¬y<0:=fun hg=>by
  cases hs:k'.signed with
  |true=>rw[hs]at hg;simp at hg;omega
  |false=>
   have:k'.min=0:=by simp[ol,hs]
   omega
 by_cases hop:op=.shl
 ·subst hop;simp only[Rn,af,dh]at h;obtain⟨h1,rfl⟩:=h;exact⟨_,by simp[binOp,Op.shift,hneg h1],Hk k _⟩
 by_cases hop':op=.shr
 ·subst hop';simp only[Rn,af,dh]at h;obtain⟨h1,rfl⟩:=h;exact⟨_,by simp[binOp,Op.shift,hneg h1];rfl,rfl,aUO hx _⟩
 by_cases hk:k'=k
 ·subst hk;cases op<;>simp only[Rn,if_pos,af,dh,bne_iff_ne]at h;case shl=>exact absurd rfl hop
  case shr=>exact absurd rfl hop'
  case quo=>
   obtain⟨h1,rfl⟩:=h;exact⟨_,by simp[binOp,Op.intDiv,h1],Hk k' _⟩
  case rem=>
   obtain⟨h1,rfl⟩:=h;exact⟨_,by simp[binOp,Op.intDiv,h1],rfl,aVi hx⟩
  case add=>obtain⟨_,rfl⟩:=h;exact⟨_,by simp[binOp,Op.intArith],Hk k' _⟩
  case sub=>obtain⟨_,rfl⟩:=h;exact⟨_,by simp[binOp,Op.intArith],Hk k' _⟩
  case mul=>obtain⟨_,rfl⟩:=h;exact⟨_,by simp[binOp,Op.intArith],Hk k' _⟩
  case and=>obtain⟨_,rfl⟩:=h;exact⟨_,by simp[binOp,Op.intBits],Hk k' _⟩
  case or=>obtain⟨_,rfl⟩:=h;exact⟨_,by simp[binOp,Op.intBits],Hk k' _⟩
  case xor=>obtain⟨_,rfl⟩:=h;exact⟨_,by simp[binOp,Op.intBits],Hk k' _⟩
  case andNot=>obtain⟨_,rfl⟩:=h;exact⟨_,by simp[binOp,Op.intBits],Hk k' _⟩
  case eql=>obtain⟨_,rfl⟩:=h;exact⟨_,by simp[binOp,Op.intCmp],rfl,trivial⟩
  case neq=>obtain⟨_,rfl⟩:=h;exact⟨_,by simp[binOp,Op.intCmp],rfl,trivial⟩
  case lss=>obtain⟨_,rfl⟩:=h;exact⟨_,by simp[binOp,Op.intCmp],rfl,trivial⟩
  case leq=>obtain⟨_,rfl⟩:=h;exact⟨_,by simp[binOp,Op.intCmp],rfl,trivial⟩
  case gtr=>obtain⟨_,rfl⟩:=h;exact⟨_,by simp[binOp,Op.intCmp],rfl,trivial⟩
  case geq=>obtain⟨_,rfl⟩:=h;exact⟨_,by simp[binOp,Op.intCmp],rfl,trivial⟩
 ·cases op<;>simp[Rn,hk]at h<;>simp_all
theorem nX(k:FloatKind)(neg:Bool){r:Nat}(h:r<k.format.signWeight):k.format.word neg r<2^MJ k:=by
 cases k
 ·have h:r<2147483648:=h;show(if neg=true then 2147483648+r else r)<4294967296;split<;>omega
 ·have h:r<9223372036854775808:=h;show(if neg=true then 9223372036854775808+r else r)<18446744073709551616;split<;>omega
theorem aFf(k:FloatKind)(n:Nat):k.format.infRung+n%k.format.binade<k.format.signWeight:=by
 cases k
 ·show 2139095040+n%8388608<2147483648;omega
 ·show 9218868437227405312+n%4503599627370496<9223372036854775808;omega
theorem aVP(k:FloatKind)(d:Ieee.Datum):k.format.write d<2^MJ k:=by
 have h0:=aFf k 0;rw[Nat.zero_mod,Nat.add_zero]at h0;cases d with
 |infinity s=>exact nX k s h0
 |nan s t=>exact nX k s (aFf k t)
 |number s m e=>
  show k.format.nearest s m e<_;unfold Ieee.Format.nearest;split
  ·exact nX k s (by omega)
  ·exact nX k s (av (Nat.min_le_right _ _) h0)
theorem aO5(k:FloatKind)(x y t:Nat):WG k none (.float k ((Question.nanBits k x y).cut t)):=by
 refine⟨_,rfl,?_,?_⟩
 ·cases k
  ·show t%2*2147483648+2139095040+1+t/2%8388607<4294967296;omega
  ·show t%2*9223372036854775808+9218868437227405312+1+t/2%4503599627370495<18446744073709551616;omega
 ·cases k
  ·show(Ieee.single.read (t%2*2147483648+2139095040+1+t/2%8388607)).isNaN=true;unfold Ieee.Format.read;have e:(t%2*2147483648+2139095040+1+t/2%8388607)%Ieee.single.signWeight=2139095040+1+t/2%8388607:=by
    show(t%2*2147483648+2139095040+1+t/2%8388607)%2147483648=_;omega
   have h1:¬(2139095040+1+t/2%8388607<Ieee.single.binade):=by
    show ¬(2139095040+1+t/2%8388607<8388608);omega
   have h2:¬(2139095040+1+t/2%8388607<Ieee.single.infRung):=by
    show ¬(2139095040+1+t/2%8388607<2139095040);omega
   have h3:¬(2139095040+1+t/2%8388607=Ieee.single.infRung):=by
    show ¬(2139095040+1+t/2%8388607=2139095040);omega
   dsimp only;rw[e,if_neg h1,if_neg h2,if_neg h3];rfl
  ·show(Ieee.double.read (t%2*9223372036854775808+9218868437227405312+1+t/2%4503599627370495)).isNaN=true;unfold Ieee.Format.read;have e:(t%2*9223372036854775808+9218868437227405312+1+t/2%4503599627370495)%Ieee.double.signWeight=9218868437227405312+1+t/2%4503599627370495:=by
    show(t%2*9223372036854775808+9218868437227405312+1+t/2%4503599627370495)%9223372036854775808=_;omega
   have h1:¬(9218868437227405312+1+t/2%4503599627370495<Ieee.double.binade):=by
    show ¬(9218868437227405312+1+t/2%4503599627370495<4503599627370496);omega
   have h2:¬(9218868437227405312+1+t/2%4503599627370495<Ieee.double.infRung):=by
    show ¬(9218868437227405312+1+t/2%4503599627370495<9218868437227405312);omega
   have h3:¬(9218868437227405312+1+t/2%4503599627370495=Ieee.double.infRung):=by
    show ¬(9218868437227405312+1+t/2%4503599627370495=9218868437227405312);omega
   dsimp only;rw[e,if_neg h1,if_neg h2,if_neg h3];rfl
theorem aGf{d:Ieee.Datum}(h:d.isNaN=true):∃s t,d=.nan s t:=by
 cases d with
 |nan s t=>exact⟨s,t,rfl⟩
 |_=>cases h
def aOx:BinOp->Bool
 |.add|.sub|.mul|.quo=>true
 |_=>false
theorem aEr{op:BinOp}{k:FloatKind}{a b:Nat}(h:(k.format.read a).isNaN=true∨(k.format.read b).isNaN=true):RB op k a b=none:=by
 have key:k.format.add a b=none/\k.format.sub a b=none/\k.format.mul a b=none/\k.format.div a b=none:=by
  unfold Ieee.Format.add Ieee.Format.sub Ieee.Format.mul Ieee.Format.div;rcases h with h|h
  ·obtain⟨s,t,e⟩:=aGf h;rw[e];exact⟨rfl,rfl,rfl,rfl⟩
  ·obtain⟨s,t,e⟩:=aGf h;rw[e];cases k.format.read a<;>exact⟨rfl,rfl,rfl,rfl⟩
 unfold RB;split
 ·exact key.1
 ·exact key.2.1
 ·exact key.2.2.1
 ·exact key.2.2.2
theorem aNa{op:BinOp}{k:FloatKind}{a b r:Nat}(h:RB op k a b=some r):r<2^MJ k:=by
 have key:∀{o:Option Ieee.Datum},o.map k.format.write=some r->r<2^MJ k:=fun {o} h=>by
  cases o with
  |none=>cases h
  |some d=>cases h;exact aVP k d
 unfold RB at h;split at h
 ·exact key h
 ·exact key h
 ·exact key h
 ·exact key h
theorem gS{op:BinOp}{k:FloatKind}{x y:Option Nat}{a b:Nat}(h1:match x with|some b'=>a=b' | none=>(k.format.read a).isNaN=true)(h2:match y with|some b'=>b=b' | none=>(k.format.read b).isNaN=true):
  Zs op k x y=RB op k a b:=by
 cases x with
 |none=>rw[aEr (.inl h1)];rfl
 |some x=>
  cases y with
  |none=>rw[aEr (.inr h2)];rfl
  |some y=>simp only at h1 h2;subst h1;subst h2;rfl
theorem fZ{P:Program}{op:BinOp}{k:FloatKind}{a b:Nat}{w:World}(hop:aOx op=true):
  ∃v n,(Op.floatArith op k a b).run P w=.ok v {w with drawn:=n}/\WG k (RB op k a b) v:=by
 have key:∀o:Option Nat,(∀r,o=some r->r<2^MJ k)->∃v n,(match o with|some r=>pure (.float k r)|none=>(do pure (.float k (←choose (.nanBits k a b)))):Sem Value).run P w=.ok v {w with drawn:=n}/\WG k o v:=by
  intro o ho;cases o with
  |some r=>exact⟨_,w.drawn,rfl,_,rfl,ho r rfl,rfl⟩
  |none=>exact⟨_,w.drawn+1,rfl,aO5 k a b _⟩
 have hlt:∀r,RB op k a b=some r->r<2^MJ k:=fun r h=>aNa h;cases op<;>first|(cases hop;done)|exact key _ hlt
theorem aL3{P:Program}{σ:Sit}{op:BinOp}{T:TypeId}{X Y:Operand}{c d r:SC}{y z:Value}{w:World}(hT:uO P T=true∨∀b,c≠.v (.bool b))
  (hc:Aw σ c y) (hd:Aw σ d z) (h:Rn op c d=some (true,r)) :
  ∃v n,(do eqGuard op T X Y y z;binOp op T y z:Sem Value).run P w=.ok v {w with drawn:=n}/\Aw σ r v:=by
 have plain:(∃v,(do eqGuard op T X Y y z;binOp op T y z:Sem Value).run P w=.ok v w/\Aw σ r v)->∃v n,(do eqGuard op T X Y y z;binOp op T y z:Sem Value).run P w=.ok v {w with drawn:=n}/\Aw σ r v:=
  fun⟨v,h1,h2⟩=>⟨v,w.drawn,h1,h2⟩
 unfold Rn at h;split at h
 ·rename_i k x k' y';obtain⟨rfl,hx⟩:=hc;obtain⟨rfl,hy⟩:=hd;obtain⟨v,h1,h2⟩:=aL4 (P:=P) (σ:=σ) (T:=T) (w:=w) hx hy h;exact plain ⟨v,by rw[aT4];exact h1,h2⟩
 ·rename_i x y';obtain⟨rfl,_⟩:=hc;obtain⟨rfl,_⟩:=hd;have hT':P.underlying T=some .bool:=by
   rcases hT with h1|h1
   ·unfold uO at h1;split at h1
    ·assumption
    ·cases h1
   ·exact absurd rfl (h1 x)
  cases op<;>simp only[af,dh,reduceCtorEq]at h;case eql=>obtain⟨_,rfl⟩:=h;exact plain ⟨_,by rw[aHA];simp only[binOp,cy,aHz hT',bl,ee],rfl,trivial⟩
  case neq=>obtain⟨_,rfl⟩:=h;exact plain ⟨_,by rw[aHA];simp only[binOp,cy,aHz hT',bl,ee],rfl,trivial⟩
 ·rename_i x y';obtain⟨rfl,_⟩:=hc;obtain⟨rfl,_⟩:=hd;cases op<;>simp only[af,dh,reduceCtorEq]at h;case eql=>obtain⟨_,rfl⟩:=h;exact plain ⟨_,by rw[aHB];rfl,rfl,trivial⟩
  case neq=>obtain⟨_,rfl⟩:=h;exact plain ⟨_,by rw[aHB];rfl,rfl,trivial⟩
 ·rename_i k x k' y';obtain⟨b1,rfl,_,h1⟩:=hc;obtain⟨b2,rfl,_,h2⟩:=hd;by_cases hk:k'=k
  ·subst hk;have ho:k'.format.order b1 b2=Im k' x y':=by
    cases x with
    |none=>
     simp only[Im];unfold Ieee.Format.order;cases hq:k'.format.read b1<;>rw[hq]at h1<;>first|(simp[Ieee.Datum.isNaN]at h1;done)|rfl
    |some x=>
     simp only at h1;subst h1;cases y' with
     |none=>
      simp only[Im];unfold Ieee.Format.order;cases hq:k'.format.read b2<;>rw[hq]at h2<;>first|(simp[Ieee.Datum.isNaN]at h2;done)|(cases k'.format.read b1<;>rfl)
     |some y'=>simp only at h2;subst h2;rfl
   have hr:∀op',op'=op->(binOp op T (.float k' b1) (.float k' b2))=(match op' with|.add|.sub|.mul|.quo=>Op.floatArith op' k' b1 b2|_=>Op.floatCmp op' k' b1 b2):=fun op' e=>by
    subst e;cases op'<;>simp[binOp]
   cases op<;>simp only[if_pos,af,dh,reduceCtorEq]at h;all_goals obtain⟨_,rfl⟩:=h
   case add=>obtain⟨v,n,g1,g2⟩:=fZ (P:=P) (op:=.add) (k:=k') (a:=b1) (b:=b2) (w:=w) rfl;exact⟨v,n,by rw[aJ,hr _ rfl];exact g1,by rw[gS h1 h2];exact g2⟩
   case sub=>obtain⟨v,n,g1,g2⟩:=fZ (P:=P) (op:=.sub) (k:=k') (a:=b1) (b:=b2) (w:=w) rfl;exact⟨v,n,by rw[aJ,hr _ rfl];exact g1,by rw[gS h1 h2];exact g2⟩
   case mul=>obtain⟨v,n,g1,g2⟩:=fZ (P:=P) (op:=.mul) (k:=k') (a:=b1) (b:=b2) (w:=w) rfl;exact⟨v,n,by rw[aJ,hr _ rfl];exact g1,by rw[gS h1 h2];exact g2⟩
   case quo=>obtain⟨v,n,g1,g2⟩:=fZ (P:=P) (op:=.quo) (k:=k') (a:=b1) (b:=b2) (w:=w) rfl;exact⟨v,n,by rw[aJ,hr _ rfl];exact g1,by rw[gS h1 h2];exact g2⟩
   all_goals refine plain ⟨_,by rw[aJ,hr _ rfl];simp only[Op.floatCmp,ho];rfl,rfl,trivial⟩
  ·rw[if_neg hk]at h;cases h
 ·cases h
theorem aVn{P:Program}{σ:Sit}{op:UnOp}{c r:SC}{y:Value}{w:World}(hc:Aw σ c y)(h:xI op c=some r):
  ∃v,(Op.unary op y).run P w=.ok v w/\Aw σ r v:=by
 unfold xI at h;split at h
 ·obtain⟨rfl,hx⟩:=hc;split at h
  ·cases h;exact⟨_,by simp[Op.unary,Op.intArith],Hk _ _⟩
  ·cases h;exact⟨_,by simp[Op.unary,Op.intBits],Hk _ _⟩
  ·cases h
 ·obtain⟨rfl,hx⟩:=hc;split at h
  ·cases h;exact⟨_,by simp[Op.unary],rfl,trivial⟩
  ·cases h
 ·cases h
theorem aQZ{op:BinOp}{a b:SC}{r:Bool}(h:wC op a b=some r):b=.v (.pointer none)/\((∃p o,a=.ptr p o)/\(op=.eql/\r=false∨op=.neq/\r=true)∨a=.v (.pointer none)/\(op=.eql/\r=true∨op=.neq/\r=false)):=by
 cases b with
 |v x=>
  cases x with
  |pointer q=>
   cases q with
   |none=>
    cases a with
    |ptr p o=>cases op<;>first|(cases h;done)|(cases h;exact⟨rfl,.inl ⟨⟨_,_,rfl⟩,by simp⟩⟩)
    |v u=>
     cases u with
     |pointer v=>
      cases v with
      |none=>cases op<;>first|(cases h;done)|(cases h;exact⟨rfl,.inr ⟨rfl,by simp⟩⟩)
      |some _=>cases h
     |_=>cases h
    |_=>cases h
   |some _=>cases h
  |_=>cases h
 |_=>cases h
theorem aT3{P:Program}{w:World}{T e:TypeId}(d:Nat)(p:Option Addr)(hT:P.underlying T=some (.pointer e)):(Op.equalIn (d+1) T (.pointer p) (.pointer none)).run P w=.ok p.isNone w:=by
 cases p with
 |none=>simp[Op.equalIn,underlying,hT]
 |some p=>simp[Op.equalIn,underlying,hT]
theorem aQ0{P:Program}{σ:Sit}{w:World}{op:BinOp}{T e:TypeId}{X Y:Operand}{a b:SC}{y z:Value}{r:Bool}(hT:P.underlying T=some (.pointer e))(ha:Aw σ a y)(hb:Aw σ b z)(h:wC op a b=some r):
  (do eqGuard op T X Y y z;binOp op T y z:Sem Value).run P w=.ok (.bool r) w:=by
 have key:∀(p:Option Addr),(Op.equal T (.pointer p) (.pointer none)).run P w=.ok p.isNone w:=fun p=>by
  unfold Op.equal Op.maxDepth;exact aT3 9999 p hT
 have h0:=aQZ h;clear h;obtain⟨rfl,h⟩:=h0;have hz:z=.pointer none:=hb.1;subst hz;rcases h with⟨⟨p,o,rfl⟩,h⟩|⟨rfl,h⟩
 ·obtain⟨_,⟨q,rfl⟩,_⟩:=ha;have:=key (some q);rcases h with⟨rfl,rfl⟩|⟨rfl,rfl⟩
  ·simp[eqGuard,binOp,this]
  ·simp[eqGuard,binOp,this]
 ·have hy:y=.pointer none:=ha.1;subst hy;have:=key none;rcases h with⟨rfl,rfl⟩|⟨rfl,rfl⟩
  ·simp[eqGuard,binOp,this]
  ·simp[eqGuard,binOp,this]
end Vx
namespace Vx
open Go Go.RowKit
theorem xD:∀{n:Nat} {l r:List SC},Hi n l=some r->r=l.take n/\n<=l.length
 |0,l,r,h=>by simp[Hi]at h;subst h;simp
 |n+1,[],r,h=>by simp[Hi]at h
 |n+1,c::l,r,h=>by
  simp only[Hi]at h
  split at h
  ·rename_i l' e
   cases h
   obtain⟨h1,h2⟩:=xD e
   exact⟨by simp[h1],by simp;omega⟩
  ·cases h
theorem Zk:∀{n:Nat} {l:List SC},DT n l=l.drop n
 |0,l=>by simp[DT]
 |n+1,[]=>by simp[DT]
 |n+1,c::l=>by simp[DT,Zk]
theorem VD:∀{n:Nat} {l:List SC},FK n l=true->l.length=n
 |0,[],_=>rfl
 |0,_::_,h=>by simp[FK]at h
 |n+1,[],h=>by simp[FK]at h
 |n+1,c::l,h=>by simp only[FK]at h;simp[VD h]
theorem All2.take{α β:Type}{R:α->β->Prop}:∀{as:List α} {bs:List β} (n:Nat),All2 R as bs->All2 R (as.take n) (bs.take n)
 |_,_,0,_=>by simp;exact .nil
 |_,_,n+1,.nil=>by simp;exact .nil
 |_,_,n+1,.cons h t=>by simpa using .cons h (t.take n)
theorem All2.drop{α β:Type}{R:α->β->Prop}:∀{as:List α} {bs:List β} (n:Nat),All2 R as bs->All2 R (as.drop n) (bs.drop n)
 |_,_,0,h=>by simpa using h
 |_,_,n+1,.nil=>by simp;exact .nil
 |_,_,n+1,.cons h t=>by simpa using t.drop n
theorem jD:∀{n:Nat} {new old r:List SC},splice n new old=some r->r=old.take n++new++old.drop (n+new.length)/\n+new.length<=old.length
 |0,[],old,r,h=>by simp[splice]at h;subst h;simp
 |0,_::_,[],r,h=>by simp[splice]at h
 |0,c::new,_::old,r,h=>by
  simp only[splice]at h
  split at h
  ·rename_i l e
   cases h
   obtain⟨h1,h2⟩:=jD e
   refine⟨?_,by simp;omega⟩
   simp at h1
   simp[h1]
  ·cases h
 |n+1,[],[],r,h=>by simp[splice]at h
 |n+1,_::_,[],r,h=>by simp[splice]at h
 |n+1,new,c::old,r,h=>by
  simp only[splice]at h
  split at h
  ·rename_i l e
   cases h
   obtain⟨h1,h2⟩:=jD e
   refine⟨?_,by simp;omega⟩
   rw[h1]
   simp[show n+1+new.length=(n+new.length)+1 by omega]
  ·cases h
theorem V1:∀(l:List Value) (vs:Array Value) (o:Nat),o+l.length<=vs.size->(CE vs o l).toList=vs.toList.take o++l++vs.toList.drop (o+l.length)
 | [],vs,o,_=>by simp[CE]
 |v::l,vs,o,h=>by
  simp only[gk]at h
  rw[CE,V1 l _ (o+1) (by simp;omega)]
  simp only[Array.toList_setIfInBounds]
  have h1:(vs.toList.set o v).take (o+1)=vs.toList.take o++[v]:=by
   rw[List.take_set,List.take_succ_eq_append_getElem (by simp;omega)]
   rw[List.set_append_right _ _ (by simp;omega)]
   simp[Nat.min_eq_left (show o<=vs.size by omega)]
  have h2:(vs.toList.set o v).drop (o+1+l.length)=vs.toList.drop (o+(v::l).length):=by
   rw[List.drop_set_of_lt (by omega)]
   simp[show o+1+l.length=o+(l.length+1) by omega]
  rw[h1,h2]
  simp
theorem All2.splice{R:SC->Value->Prop}{n:Nat}{new old r:List SC}{vs:Array Value}{ys:List Value}(h:Vx.splice n new old=some r)(ho:All2 R old vs.toList)(hn:All2 R new ys):
  All2 R r (CE vs n ys).toList/\n+ys.length<=vs.size:=by
 obtain⟨h1,h2⟩:=jD h;have l1:=hn.length;have l2:=ho.length;have hle:n+ys.length<=vs.size:=by simp at l2;omega
 refine⟨?_,hle⟩;rw[V1 _ _ _ hle,h1,←l1];exact((ho.take n).append hn).append (ho.drop _)
theorem aEq:∀(l:List Value) (k:Nat) (cs:Array Value) (off:Nat),(l.zipIdx k).foldl (fun cs p=>cs.setIfInBounds (off+p.2) p.1) cs=CE cs (off+k) l
 | [],_,_,_=>rfl
 |v::l,k,cs,off=>by
  simp only[List.zipIdx_cons,List.foldl_cons,CE]
  rw[aEq l (k+1) _ off]
  rfl
theorem tG{R:SC->Value->Prop}(At:Nat->Option (Nat×Nat)):∀{ps:List (Nat×SV)} {qs:List (Nat×Value)} {old r:List SC} {vs:Array Value},IA At ps old=some r->All2 R old vs.toList ->
  All2 (fun p q=>p.1=q.1/\All2 R p.2.cells q.2.cells.toList) ps qs->∃vs',Instr.fill At vs qs=some vs'/\All2 R r vs'.toList
 | [],_,old,r,vs,h,ho,.nil=>by
  simp only[IA]at h;cases h
  exact⟨vs,rfl,ho⟩
 |(i,x)::ps,_,old,r,vs,h,ho,.cons (b:=(i',y)) hp ht=>by
  obtain⟨rfl,hp⟩:=hp
  simp only[IA]at h
  cases hpl:At i with
  |none=>rw[hpl]at h;cases h
  |some q=>
   obtain⟨off,size⟩:=q
   rw[hpl]at h
   simp only at h
   cases hl:FK size x.cells with
   |false=>rw[hl]at h;cases h
   |true=>
    rw[hl]at h
    simp only[cond_true]at h
    split at h
    ·rename_i old' e
     have hx:=VD hl
     have hle:=All2.length hp
     obtain⟨h1,h2⟩:=All2.splice e ho hp
     have hsz:y.cells.size=size:=by simp at hle;omega
     have hfold:y.cells.zipIdx.foldl (fun cs (c,j)=>cs.setIfInBounds (off+j) c) vs=CE vs off y.cells.toList:=by
      rw[←Array.foldl_toList,Array.toList_zipIdx]
      exact aEq y.cells.toList 0 vs off
     obtain⟨vs',h3,h4⟩:=tG At h h1 ht
     refine⟨vs',?_,h4⟩
     simp only[Instr.fill,hpl]
     rw[if_neg (by simp at h2;simp[hsz];omega)]
     rw[hfold]
     exact h3
    ·cases h
theorem aZ{P:Program}{σ:Sit}{T:TypeId}{x:SV}(h:FY P T=some x):∃z,A8 σ x z/\∀w,(zeroValue T).run P w=.ok z w:=by
 unfold FY at h;split at h
 ·rename_i i e;split at h
  ·rename_i z e2;exact⟨z,xA h,fun w=>by simp[zeroValue,typeInfo,e,e2]⟩
  ·cases h
 ·cases h
theorem CG{P:Program}{T:TypeId}{d:TypeDesc}(h:P.underlying T=some d)(w:World):(underlying T).run P w=.ok d w:=by
 simp[underlying,h]
theorem fS{P:Program}{T:TypeId}{b:Bool}(h:G7 P T=some b)(w:World):(isAgg T).run P w=.ok b w:=by
 unfold G7 at h;unfold isAgg;split at h
 ·rename_i e;cases h;simp[underlying,e]
 ·rename_i e;cases h;simp[underlying,e]
 ·rename_i d e1 e2 e3;cases h;simp only[cy,CG e3,bl];cases d<;>first|rfl|exact absurd e3 (e1 _)|exact absurd e3 (e2 _ _)
 ·cases h
theorem FV{P:Program}{T:TypeId}{w:World}(h:∃i,P.info? T=some i):(qc T).run P w=.ok (P.cellsOf T) w:=by
 obtain⟨i,h⟩:=h;simp[qc,typeInfo,h,ko]
theorem ZN{P:Program}{T:TypeId}{d:TypeDesc}(h:P.underlying T=some d):∃i,P.info? T=some i:=by
 unfold Program.underlying at h;cases e:P.info? T with
 |some i=>exact⟨i,rfl⟩
 |none=>rw[e]at h;cases h
theorem aC8{P:Program}{T:TypeId}{b:Bool}(h:G7 P T=some b):∃d,P.underlying T=some d:=by
 unfold G7 at h;split at h
 ·exact⟨_,by assumption⟩
 ·exact⟨_,by assumption⟩
 ·exact⟨_,by assumption⟩
 ·cases h
def oB(σ:Sit)(cs:List SC)(off:Nat)(y:Value):Prop:=∃r o vs T fz ds,y=.pointer (some ⟨r,o+off,none⟩)/\σ.w.heap[r]? = some (.cells vs T fz)/\All2 (Aw σ) cs ds/\∀(j:Nat) (d:Value),ds[j]? = some d->vs[o+j]? = some d
theorem Zd{base:Base}{S0:Nat->Prop}{σ:Sit}(ho:Ok base S0 σ){c:SC}{y:Value}{cs:List SC}{off:Nat}(hc:Aw σ c y)(h:MD σ.mem c=some (cs,off)):oB σ cs off y:=by
 unfold MD at h;split at h
 ·rename_i b off';split at h
  ·rename_i cs' e;cases h;obtain⟨_,_,hm⟩:=hc;rw[e]at hm;obtain⟨r,hr,rfl⟩:=hm;have he:=ho.ent b;unfold AF at he;rw[e]at he;obtain⟨r',vs,T,h1,h2,h3⟩:=he;rw[hr]at h1;cases h1;exact⟨r,0,vs,T,(0,0),vs.toList,by simp,h2,h3,fun j d hj=>by simpa using hj⟩
  ·cases h
 ·rename_i b i off';split at h
  ·rename_i τ xs e;cases h;obtain⟨_,_,hm⟩:=hc;rw[e]at hm;obtain⟨hi,r,hr,rfl⟩:=hm;obtain⟨_,_,vs,T,h2,h3,h4⟩:=f0 (ho.ent b) e hr;have hx:xs[i]? = some (xs.getD i τ.dflt):=by
    rw[al,bc hi];rfl
   obtain⟨ds,d1,d2⟩:=h4 i _ hx;exact⟨r,i*τ.width,vs,T,(0,0),ds,rfl,h2,ME d1,fun j d hj=>by simpa using d2 j d hj⟩
  ·cases h
 ·rename_i τ x off';cases h;obtain⟨r,o,vs,T,fz,ds,rfl,_,h2,h3,h4⟩:=hc;exact⟨r,o,vs,T,fz,ds,rfl,h2,ME h3,h4⟩
 ·cases h
theorem aFv{P:Program}{σ:Sit}{T:TypeId}{cs l:List SC}{off:Nat}{y:Value}(hl:oB σ cs off y)(hT:G7 P T=some true)(h:Hi (P.cellsOf T) (DT off cs)=some l):
  ∃v,(Instr.loadAt T y).run P σ.w=.ok v σ.w/\A8 σ (.agg l) v:=by
 obtain⟨r,o,vs,T',fz,ds,rfl,h2,h3,h4⟩:=hl;obtain⟨h5,h6⟩:=xD h;rw[Zk]at h5 h6;have hlen:=h3.length;have hn:P.cellsOf T<=(ds.drop off).length:=by simp at h6⊢;omega
 have hcells:=run_loadCells_list (P:=P) (w:=σ.w) ⟨r,o+off,none⟩ ((ds.drop off).take (P.cellsOf T)) (fun j v hj=>by
  rw[JU,gC h2];have hj':=(aw.1 hj).1;rw[cr (by simp at hj';omega),dr]at hj;rw[gu];exact h4 _ _ hj)
 rw[show((ds.drop off).take (P.cellsOf T)).length=P.cellsOf T by rw[List.length_take];omega]at hcells;refine⟨.agg ((ds.drop off).take (P.cellsOf T)).toArray,?_,⟨_,rfl,?_⟩⟩
 ·unfold Instr.loadAt loadVar Instr.sureAddr;obtain⟨d,hd⟩:=aC8 hT;simp[fS hT,FV (ZN hd),hcells]
 ·rw[h5];exact(h3.drop off).take _
theorem aFw{P:Program}{σ:Sit}{T:TypeId}{cs l:List SC}{c:SC}{off:Nat}{y:Value}(hl:oB σ cs off y)(hT:G7 P T=some false)(h:DT off cs=c::l):
  ∃v,(Instr.loadAt T y).run P σ.w=.ok v σ.w/\Aw σ c v:=by
 obtain⟨r,o,vs,T',fz,ds,rfl,h2,h3,h4⟩:=hl;rw[Zk]at h;have hc:cs[off]? = some c:=by
  have:=congrArg (fun l=>l[0]?) h;simpa using this
 obtain⟨v,hv,hR⟩:=h3.get hc;refine⟨v,?_,hR⟩;unfold Instr.loadAt loadVar Instr.sureAddr;have:σ.w.cell? ⟨r,o+off,none⟩=some v:=by rw[gC h2];exact h4 off v hv
 simp[fS hT,this]
theorem vM{P:Program}{T:TypeId}{cs l:List SC}{σ:Sit}{ys:List Value}{d:Nat}(ha:All2 (Aw σ) cs ys)(hT:G7 P T=some true)(h:Hi (P.cellsOf T) (DT d cs)=some l)(w:World):
  ∃v,(part T ys.toArray d).run P w=.ok v w/\A8 σ (.agg l) v:=by
 obtain⟨h5,h6⟩:=xD h;rw[Zk]at h5 h6;obtain⟨dd,hd⟩:=aC8 hT;refine⟨.agg (ys.toArray.extract d (d+P.cellsOf T)),?_,⟨(ys.drop d).take (P.cellsOf T),?_,?_⟩⟩
 ·unfold part;simp[fS hT,FV (ZN hd)]
 ·simp
 ·rw[h5];exact(ha.drop d).take _
theorem vN{P:Program}{T:TypeId}{cs l:List SC}{c:SC}{σ:Sit}{ys:List Value}{d:Nat}(ha:All2 (Aw σ) cs ys)(hT:G7 P T=some false)(h:DT d cs=c::l)(w:World):
  ∃v,(part T ys.toArray d).run P w=.ok v w/\Aw σ c v:=by
 rw[Zk]at h;have hc:cs[d]? = some c:=by
  have:=congrArg (fun l=>l[0]?) h;simpa using this
 obtain⟨v,hv,hR⟩:=ha.get hc;refine⟨v,?_,hR⟩;unfold part;simp[fS hT,hv]
theorem aMT{P:Program}{σ:Sit}{w:World}{d:Nat}{T:TypeId}{a b:SC}{u v:Value}{x:Bool}(ha:Aw σ a u)(hb:Aw σ b v)(e1:tA P T a b=some x):(Op.equalIn (d+1) T u v).run P w=.ok x w:=by
 unfold tA at e1;split at e1
 ·split at e1
  ·rename_i e;split at e1
   ·rename_i hk;subst hk;cases e1;obtain⟨rfl,_⟩:=ha;obtain⟨rfl,_⟩:=hb;exact run_equalIn_int w d _ _ _ _ _ e
   ·cases e1
  ·cases e1
 ·split at e1
  ·rename_i e;cases e1;obtain⟨rfl,_⟩:=ha;obtain⟨rfl,_⟩:=hb;exact run_equalIn_bool' w d _ _ _ e
  ·cases e1
 ·cases e1
theorem tB{P:Program}{σ:Sit}{w:World}:∀(k d:Nat) (fs:List Field) {as bs:List SC} {xs ys:List Value} {r:Bool},
  All2 (Aw σ) as xs->All2 (Aw σ) bs ys->MH P k fs as bs=some r->(Op.eqFields (d+k) xs.toArray ys.toArray fs).run P w=.ok r w
 |0,_,_,_,_,_,_,_,_,_,h=>by simp[MH]at h
 |k+1,d,[],_,_,_,_,_,_,_,h=>by simp only[MH]at h;cases h;simp[Op.eqFields]
 |k+1,d,f::fs,as,bs,xs,ys,r,ha,hb,h=>by
  simp only[MH]at h
  obtain⟨h2,h⟩:=AI h
  simp only[bne_iff_ne]at h2
  split at h
  ·rename_i x r' e1 e2
   have ih:=tB (w:=w) k (d+1) fs ha hb e2
   rw[show d+1+k=d+(k+1) by omega]at ih
   have key:∃u v,(part f.type xs.toArray f.offset).run P w=.ok u w/\(part f.type ys.toArray f.offset).run P w=.ok v w/\(Op.equalIn (d+(k+1)) f.type u v).run P w=.ok x w:=by
    split at e1
    ·rename_i hT
     split at e1
     ·rename_i gs hu
      cases hs:P.stoodInHeld f.type with
      |true=>rw[hs]at e1;cases e1
      |false=>
       rw[hs]at e1
       simp only[cond_false]at e1
       split at e1
       ·rename_i a b ea eb
        obtain⟨u,p1,q1⟩:=vM ha hT ea w
        obtain⟨v,p2,q2⟩:=vM hb hT eb w
        refine⟨u,v,p1,p2,?_⟩
        obtain⟨us,rfl,q1⟩:=q1
        obtain⟨vs,rfl,q2⟩:=q2
        have hf:P.fieldsOf f.type=gs:=by simp[nk,hu]
        rw[show d+(k+1)=d+k+1 by omega,run_equalIn_struct w (d+k) _ _ _ (by rw[hf];exact hu) hs,hf]
        exact tB k d gs.toList q1 q2 e1
       ·cases e1
     ·cases e1
    ·rename_i hT
     split at e1
     ·rename_i a _ b _ ea eb
      obtain⟨u,p1,q1⟩:=vN ha hT ea w
      obtain⟨v,p2,q2⟩:=vN hb hT eb w
      exact⟨u,v,p1,p2,aMT (d:=d+k) q1 q2 e1⟩
     ·cases e1
    ·cases e1
   obtain⟨u,v,p1,p2,p3⟩:=key
   have hr:r=(x&&r'):=by
    cases fs with
    |nil=>
     simp only at h;cases h
     cases k<;>simp[MH]at e2
     subst e2;simp
    |cons _ _=>simp only at h;cases h;rfl
   simp only[Op.eqFields,if_pos h2,cy,p1,p2,bl,p3]
   rw[hr]
   cases x
   ·simp
   ·simpa using ih
  ·cases h
theorem aD5{P:Program}{σ:Sit}{w:World}{T:TypeId}{X Y:Operand}{fs:Array Field}{a b:List SC}{y z:Value}{r:Bool}(hT:P.underlying T=some (.struct fs))
  (h1:P.eqGuardType P.depth T=false) (h2:P.stoodInHeld T=false) (ha:A8 σ (.agg a) y) (hb:A8 σ (.agg b) z) (h:MH P 40 fs.toList a b=some r) :
  (do eqGuard .eql T X Y y z;binOp .eql T y z:Sem Value).run P w=.ok (.bool r) w/\(do eqGuard .neq T X Y y z;binOp .neq T y z:Sem Value).run P w=.ok (.bool !r) w:=by
 obtain⟨xs,rfl,ha⟩:=ha;obtain⟨ys,rfl,hb⟩:=hb;have he:(Op.equal T (.agg xs.toArray) (.agg ys.toArray)).run P w=.ok r w:=by
  unfold Op.equal Op.maxDepth;rw[run_equalIn_struct w 9999 T _ _ (by simp[nk,hT]) h2];have hf:P.fieldsOf T=fs:=by simp[nk,hT]
  rw[hf];exact tB 40 9959 fs.toList ha hb h
 constructor
 ·simp[eqGuard,binOp,h1,he]
 ·simp[eqGuard,binOp,h1,he]
end Vx
namespace Vx
open Go Go.RowKit
def G6:Blk->Prop
 |.acc _ _=>True
 |_=>False
structure Moves (f:SC->SC) (σ σ':Sit):Prop where
 stab:∀r,σ.S r->σ'.S r
 heap:∀r,σ.S r->σ'.w.heap[r]? = σ.w.heap[r]?
 rep:∀c y,Aw σ c y->Aw σ' (f c) y
 len:σ.mem.length<=σ'.mem.length
 noacc:∀b,b<σ.mem.length->G6 (Ac σ'.mem b)->G6 (Ac σ.mem b)
theorem Goes.noacc{σ σ':Sit}(h:Goes σ σ')(b:Nat)(hb:b<σ.mem.length)(ha:G6 (Ac σ'.mem b)):G6 (Ac σ.mem b):=by
 have ht:=h.turns b hb;unfold Bm at ht;cases e:Ac σ.mem b with
 |gone=>rw[e]at ht;simp only at ht;rw[ht]at ha;exact ha
 |raw cs=>rw[e]at ht;rcases ht with⟨_,cs',h2⟩|h2<;>(rw[h2]at ha;exact ha)
 |arr τ xs=>
  rw[e]at ht;rcases ht with⟨_,_,xs',h2,_⟩|⟨xs',h2,_⟩|h2
  ·rw[h2]at ha;exact ha
  ·rw[h2]at ha;exact ha
  ·rw[h2]at ha;exact ha
 |acc τ xs=>trivial
 |froz τ xs=>rw[e]at ht;simp only at ht;rw[ht]at ha;exact ha
theorem Goes.moves{σ σ':Sit}(h:Goes σ σ'):Moves id σ σ':=⟨h.stab,h.heap,fun _ _=>h.repC,h.len,h.noacc⟩
def BE(C:Cfg)(base:Base)(S0:Nat->Prop)(f:SC->SC)(σ:Sit)(a:Act)(o:Oper)(x:TV)(mem':Ae):Prop:=∀(K:Act->World->Prop) (Q:Exit->Act->World->Prop),(∀(v:Value) (σ':Sit),Ok base S0 σ'->Moves f σ σ'->σ'.mem=mem'->A2 σ' x v->K (a.put o.dst v) σ'.w)->o.wp C.P a σ.w K Q
theorem AX{C:Cfg}{base:Base}{S0:Nat->Prop}{f:SC->SC}{σ σ':Sit}{a:Act}{o:Oper}{x:TV}{mem':Ae}{v:Value}
  (hex:(execOp a.eval o).run C.P σ.w=.ok (.value v) σ'.w) (ho:Ok base S0 σ') (hm:Moves f σ σ') (hmem:σ'.mem=mem') (hr:A2 σ' x v):BE C base S0 f σ a o x mem':=by
 intro K Q hK;unfold Oper.wp;rw[hex];exact hK v σ' ho hm hmem hr
theorem aE9{C:Cfg}{base:Base}{S0:Nat->Prop}{f:SC->SC}{σ σ':Sit}{a:Act}{o:Oper}{x:TV}{mem':Ae}
  (hex:(execOp a.eval o).run C.P σ.w=.ok .skip σ'.w) (ho:Ok base S0 σ') (hm:Moves f σ σ') (hmem:σ'.mem=mem') (hr:A2 σ' x undef):BE C base S0 f σ a o x mem':=by
 intro K Q hK;unfold Oper.wp;rw[hex];exact hK undef σ' ho hm hmem hr
theorem Cj{P:Program}{s:Sem Value}{w w':World}{v:Value}(h:s.run P w=.ok v w'):(do pure (Next.value (←s)):Sem Next).run P w=.ok (.value v) w':=by
 simp[h]
variable {C:Cfg}{base:Base}{S0:Nat->Prop}{σ:Sit}{s:St}{a:Act}{ctx:List (Nat×Bool)}{o:Oper}
theorem aPR(hr:RelT σ s a)(hx:Bj a ctx){t:Nat}{A B:Operand}{cb x y:Bool}(hc:AZ s ctx (.tmp t)=some (.v (.bool cb)))(hA:AZ s ((t,true)::ctx) A=some (.v (.bool x)))
  (hB:AZ s ((t,false)::ctx) B=some (.v (.bool y))):a.eval (.tmp t)=.bool cb/\(if cb then a.eval A else a.eval B)=.bool (bif cb then x else y):=by
 have h1:a.eval (.tmp t)=.bool cb:=(Bs hr hx hc).1;refine⟨h1,?_⟩;have hctx:∀b,cb=b->Bj a ((t,b)::ctx):=fun b hb t' p hm=>by
  rcases cx.1 hm with h|h
  ·cases h;rw[←hb];exact h1
  ·exact hx t' p h
 cases cb with
 |true=>exact(Bs hr (hctx true rfl) hA).1
 |false=>exact(Bs hr (hctx false rfl) hB).1
theorem VA{w:World}{o:Obj}:(w.alloc o).heap[w.heap.size]? = some o:=by
 show(w.heap.push o)[w.heap.size]? = _;simp
theorem aHg(ho:Ok base S0 σ){T:TypeId}{x:SV}{z:Value}(hz:A8 σ x z):Ok base S0 (σ.push (.raw x.cells) (.cells z.cells T) 0)/\Goes σ (σ.push (.raw x.cells) (.cells z.cells T) 0) /\
  Aw (σ.push (.raw x.cells) (.cells z.cells T) 0) (.ptr σ.mem.length 0) (.pointer (some ⟨σ.w.heap.size,0,none⟩)):=by
 have hg:=iW ho (.raw x.cells) (.cells z.cells T) 0;have hblk:Ac (σ.push (.raw x.cells) (.cells z.cells T) 0).mem σ.mem.length=.raw x.cells:=Mz;have hheap:(σ.push (.raw x.cells) (.cells z.cells T) 0).w.heap[σ.w.heap.size]? = some (.cells z.cells T (0,0)):=VA;refine⟨wD ho _ _ _ ?_,hg,?_⟩
 ·unfold AF;rw[hblk];exact⟨σ.w.heap.size,z.cells,T,by simp[Sit.push,AC],hheap,hz.cells.mono fun _ _=>hg.repC⟩
 ·refine⟨by simp[Sit.push],⟨_,rfl⟩,?_⟩;rw[hblk];exact⟨σ.w.heap.size,by simp[Sit.push,AC],rfl⟩
theorem r7(ho:Ok base S0 σ){T:TypeId}{τ:Shape}{xs:List (Aa τ)}{vs:Array Value}{k:Nat}(hk:xs.length<=k)(hl:k<BQ)(hsz:vs.size=k*τ.width)(hrow:Rows σ.w σ.S τ vs 0 xs):
  Ok base S0 (σ.push (.arr τ xs) (.cells vs T) k)/\Goes σ (σ.push (.arr τ xs) (.cells vs T) k)/\Ac (σ.push (.arr τ xs) (.cells vs T) k).mem σ.mem.length=.arr τ xs /\
  (σ.push (.arr τ xs) (.cells vs T) k).E.β σ.mem.length=some σ.w.heap.size/\(σ.push (.arr τ xs) (.cells vs T) k).E.κ σ.mem.length=k:=by
 have hg:=iW ho (.arr τ xs) (.cells vs T) k;have hblk:Ac (σ.push (.arr τ xs) (.cells vs T) k).mem σ.mem.length=.arr τ xs:=Mz;have hheap:(σ.push (.arr τ xs) (.cells vs T) k).w.heap[σ.w.heap.size]? = some (.cells vs T (0,0)):=VA;have hκ:(σ.push (.arr τ xs) (.cells vs T) k).E.κ σ.mem.length=k:=by simp[Sit.push,AC]
 refine⟨wD ho _ _ _ ?_,hg,hblk,by simp[Sit.push,AC],hκ⟩;unfold AF;rw[hblk];exact⟨by rw[hκ];exact hk,by rw[hκ];exact hl,.inr ⟨σ.w.heap.size,vs,T,by simp[Sit.push,AC],hheap,by rw[hκ];exact hsz,hrow.mono hg.stab hg.heap⟩⟩
theorem wO{P:Program}{T:TypeId}{z:Value}{w:World}:(newVar T z).run P w=.ok ⟨w.heap.size,0,none⟩ (w.alloc (.cells z.cells T)):=by
 simp[newVar,newRow]
theorem aDl:(1048576:Nat)<BQ:=by unfold BQ;omega
theorem aF6{τ:Shape}{n:Nat}{cs:List SC}{xs:List (Aa τ)}(h:RJ τ n cs=some xs):Te τ n cs=some xs/\n<=1048576:=by
 unfold RJ at h;cases hb:Nat.ble n 1048576 with
 |false=>rw[hb]at h;cases h
 |true=>rw[hb]at h;exact⟨h,jl hb⟩
theorem aHx{τ:Shape}{n:Nat}{cs:List SC}{z:Value}{xs:List (Aa τ)}(hz:All2 (Aw σ) cs z.cells.toList)(h:RJ τ n cs=some xs):
  xs.length=n/\z.cells.size=xs.length*τ.width/\Rows σ.w σ.S τ z.cells 0 xs/\xs.length<BQ:=by
 obtain⟨h,hn⟩:=aF6 h;obtain⟨h1,h2,h3⟩:=vL hz h;refine⟨h1,by rw[h1];simpa using h2,fun i x hi=>?_,by have:=aDl;omega⟩;obtain⟨ds,d1,d2⟩:=h3 i x hi;exact⟨ds,d1,fun j d hj=>by simpa using d2 j d hj⟩
theorem J2{P:Program}{e:TypeId}{τ:Shape}(h:CU P e=some τ):P.cellsOf e=τ.width:=by
 unfold CU at h;split at h
 ·rename_i τ' e';cases hb:Nat.beq (P.cellsOf e) τ'.width with
  |false=>rw[hb]at h;cases h
  |true=>rw[hb]at h;cases h;exact ak hb
 ·cases h
theorem aHb{σ':Sit}{b r n:Nat}{τ:Shape}{xs:List (Aa τ)}(hb:b<σ'.mem.length)(h:Ac σ'.mem b=.arr τ xs)(hr:σ'.E.β b=some r):Aw σ' (.ptr b n) (.pointer (some ⟨r,n,none⟩)):=by
 refine⟨hb,⟨_,rfl⟩,?_⟩;rw[h];exact⟨r,hr,rfl⟩
theorem tF{P:Program}{T:TypeId}{i:Nat}{d:Nat}{ft:TypeId}(h:Zp P T i=some (d,ft))(w:World)(r o:Nat):
  (Instr.fieldAt T (.pointer (some ⟨r,o,none⟩)) i).run P w=.ok (.pointer (some ⟨r,o+d,none⟩)) w:=by
 unfold Zp at h;split at h
 ·rename_i fs e;split at h
  ·rename_i f ef;cases hb:Nat.beq (P.cellsOf f.type) 0 with
   |true=>rw[hb]at h;cases h
   |false=>
    rw[hb]at h;cases h;have hne:P.cellsOf f.type≠0:=fun e=>by rw[e]at hb;cases hb
    have hi:∃i,P.info? f.type=some i:=by
     unfold ko at hne;cases hq:P.info? f.type with
     |none=>rw[hq]at hne;exact absurd rfl hne
     |some i=>exact⟨i,rfl⟩
    have ef':fs[i]? = some f:=by simpa using ef
    unfold Instr.fieldAt;simp only[cy,CG e,bl,ef',Instr.sureAddr,ee,fieldPlace,FV hi];rw[if_neg hne];simp[JU]
  ·cases h
 ·cases h
def Sit.fresh(σ:Sit)(o:Obj):Sit:={E:=σ.E,mem:=σ.mem,w:=σ.w.alloc o,S:=fun r=>σ.S r∨r=σ.w.heap.size}
theorem aEv(ho:Ok base S0 σ)(o:Obj):Goes σ (σ.fresh o):=
 ⟨fun _ h=>.inl h,fun r hr=>MQ (ho.stab r hr).1,cg _,fun _ _=>Bm.refl rfl rfl rfl⟩
theorem aNd(ho:Ok base S0 σ)(o:Obj):Ok base S0 (σ.fresh o):=by
 refine⟨ho.below.alloc o,fun r h=>.inl (ho.stab0 r h),fun r h=>?_,fun b=>?_,fun b r h=>?_,fun b b' r h h'=>ho.inj b b' r h h'⟩
 ·rcases h with h|h
  ·have:=ho.stab r h;exact⟨by simp only[Sit.fresh,gl];omega,this.2⟩
  ·subst h;exact⟨by simp[Sit.fresh],.inr (.inl ho.below.size)⟩
 ·exact AF.keep (aEv ho o) rfl rfl rfl (fun r hr=>MQ (ho.own b r hr).2.1) (ho.ent b)
 ·have:=ho.own b r h;refine⟨this.1,by simp only[Sit.fresh,gl];omega,fun hs=>?_⟩;rcases hs with hs|hs
  ·exact this.2.2 hs
  ·omega
theorem aGF{P:Program}:∀{l:List Field},l.all (fun f=>(P.info? f.type).isSome)=true ->
  l.mapM (fun f=>(P.info? f.type).map fun i=>(f.offset,i.size))=some (l.map fun f=>(f.offset,P.cellsOf f.type))
 | [],_=>rfl
 |f::l,h=>by
  simp only[List.all_cons,ai]at h
  obtain⟨i,hi⟩:=nd.1 h.1
  simp[List.mapM_cons,hi,aGF h.2,ko]
theorem xO{P:Program}{T:TypeId}{x:SV}(h:FY P T=some x):∃i z,P.info? T=some i/\i.zero=some z/\∀σ:Sit,A8 σ x z:=by
 unfold FY at h;split at h
 ·rename_i i e;split at h
  ·rename_i z e2;exact⟨i,z,e,e2,fun σ=>xA h⟩
  ·cases h
 ·cases h
theorem aOn{v:Value}{l:Array Value}{i:Nat}(h:l[i]? = some v):l[i]! = v:=by
 rw[getElem!_def,h]
theorem aF4{z:Array Value}{n j:Nat}{v:Value}(hj:j<n)(h:z[j%z.size]? = some v):(madeCells z n)[j]? = some v:=by
 unfold madeCells;simp[hj,aOn h]
theorem aM5{R:SC->Value->Prop}{zc:List SC}{zv:Array Value}(h:All2 R zc zv.toList)(hw:0<zv.size):∀n,All2 R (ax n zc).flatten (madeCells zv (n*zv.size)).toList:=by
 intro n;have hl:=h.length;simp at hl;refine All2.of_get (by simp[hl,size_madeCells]) fun i c hi=>?_;have hlt:=(aw.1 hi).1;simp[hl]at hlt;have hm:i%zv.size<zc.length:=by rw[hl];exact Nat.mod_lt _ hw
 have hc:zc[i%zv.size]? = some c:=by
  clear hm;have key:∀(n i:Nat) (c:SC),(ax n zc).flatten[i]? = some c->zc[i%zv.size]? = some c:=by
   intro n;induction n with
   |zero=>intro i c h;simp at h
   |succ n ih=>
    intro i c h;rw[List.replicate_succ,List.flatten_cons]at h;rcases au i zc.length with hlt|hge
    ·rw[co hlt]at h;rw[Nat.mod_eq_of_lt (by omega)];exact h
    ·rw[cj hge]at h;have:=ih _ _ h;rw[hl]at this hge;rw[Nat.mod_eq_sub_mod hge];exact this
  exact key n i c hi
 obtain⟨v,hv,hR⟩:=h.get hc;refine⟨v,?_,hR⟩;have:=aF4 (z:=zv) (n:=n*zv.size) hlt (by simpa using hv);simpa using this
end Vx
namespace Vx
open Go Go.RowKit
def xR(C:Cfg)(w:World)(S:Nat->Prop):Prop:=∀g τ xs,C.glob g=some ⟨τ,xs⟩->S g/\∃vs T fz,w.heap[g]? = some (.cells vs T fz)/\Rows w S τ vs 0 xs
variable {C:Cfg}{base:Base}{S0:Nat->Prop}{σ:Sit}{s:St}{a:Act}{ctx:List (Nat×Bool)}{o:Oper}{x:TV}{mem':Ae}
theorem aGu(ho:Ok base S0 σ)(hr:RelT σ s a)(hx:Bj a ctx){y:Operand}(hop:o.op=.move y∨o.op=.assign y)(h:Ax C s ctx o=some (.ok true x mem')):BE C base S0 id σ a o x mem':=by
 have h':ev s ctx y=some x/\mem'=s.mem:=by
  unfold Ax at h;rcases hop with hop|hop<;>(rw[hop]at h;simp only at h;split at h)<;>first|(rename_i e;cases h;exact⟨e,rfl⟩)|cases h
 refine AX (σ':=σ) (v:=a.eval y) ?_ ho (Goes.refl σ).moves (hr.mem.trans h'.2.symm) (Zo hr hx h'.1);rcases hop with hop|hop<;>simp[execOp,hop]
theorem aPF(ho:Ok base S0 σ)(hr:RelT σ s a)(hx:Bj a ctx){c A B:Operand}(hop:o.op=.pick c A B)(h:Ax C s ctx o=some (.ok true x mem')):BE C base S0 id σ a o x mem':=by
 unfold Ax at h;rw[hop]at h;simp only at h;cases c with
 |tmp t=>
  simp only at h;split at h
  ·rename_i cb bx bz e1 e2 e3;obtain⟨h1,h2⟩:=aPR hr hx e1 e2 e3;have hm:mem'=s.mem/\x=.val (.one (.v (.bool (bif cb then bx else bz)))):=by
    split at h
    ·cases bx with
     |true=>simp only[af,Res.ok.injEq,true_and]at h;obtain⟨rfl,rfl⟩:=h;exact⟨rfl,by cases cb<;>rfl⟩
     |false=>simp only[af,Res.ok.injEq,true_and]at h;obtain⟨rfl,rfl⟩:=h;exact⟨rfl,rfl⟩
    ·cases bz with
     |true=>simp only[af,Res.ok.injEq,true_and]at h;obtain⟨rfl,rfl⟩:=h;exact⟨rfl,rfl⟩
     |false=>simp only[af,Res.ok.injEq,true_and]at h;obtain⟨rfl,rfl⟩:=h;exact⟨rfl,by cases cb<;>cases bx<;>rfl⟩
    ·simp only[af,Res.ok.injEq,true_and]at h;obtain⟨rfl,rfl⟩:=h;exact⟨rfl,rfl⟩
   refine AX (σ':=σ) (v:=.bool (bif cb then bx else bz)) ?_ ho (Goes.refl σ).moves (hr.mem.trans hm.1.symm) (by rw[hm.2];exact⟨rfl,trivial⟩);simp only[execOp,hop];rw[h1];simp only[asBool];simp;exact h2
  ·cases h
 |const _=>cases h
 |global _=>cases h
 |func _=>cases h
theorem aPg(ho:Ok base S0 σ)(hr:RelT σ s a){T:TypeId}(hop:o.op=.alloc T)(h:Ax C s ctx o=some (.ok true x mem')):BE C base S0 id σ a o x mem':=by
 unfold Ax at h;rw[hop]at h;simp only at h;have hex:∀z,(zeroValue T).run C.P σ.w=.ok z σ.w->(execOp a.eval o).run C.P σ.w=.ok (.value (.pointer (some ⟨σ.w.heap.size,0,none⟩))) (σ.w.alloc (.cells z.cells T)):=fun z hz=>by
  simp only[execOp,hop,Instr.alloc];simp[hz,wO]
 split at h
 ·rename_i z n e hz hT;obtain⟨zv,h1,h2⟩:=aZ (σ:=σ) hz;split at h
  ·rename_i τ eτ;split at h
   ·rename_i xs exs;simp only[af,Res.ok.injEq,true_and]at h;obtain⟨rfl,rfl⟩:=h;obtain⟨g1,g2,g3,hlim⟩:=aHx h1.cells exs
    ·obtain⟨k1,k2,k3,k4,_⟩:=r7 ho (T:=T) (cg _) hlim g2 g3;refine AX (σ':=σ.push (.arr τ xs) (.cells zv.cells T) xs.length) (hex zv (h2 _)) k1 k2.moves (by simp[Sit.push,hr.mem]) ?_;rw[←hr.mem];exact aHb (by simp[Sit.push]) k3 k4
   ·cases h
  ·cases h
 ·rename_i z _ _ hz hT;obtain⟨zv,h1,h2⟩:=aZ (σ:=σ) hz;simp only[af,Res.ok.injEq,true_and]at h;obtain⟨rfl,rfl⟩:=h;obtain⟨k1,k2,k3⟩:=aHg ho (T:=T) h1;refine AX (σ':=σ.push (.raw z.cells) (.cells zv.cells T) 0) (hex zv (h2 _)) k1 k2.moves (by simp[Sit.push,hr.mem]) ?_;rw[←hr.mem];exact k3
 ·cases h
theorem aPj(ho:Ok base S0 σ)(hr:RelT σ s a)(hx:Bj a ctx){T:TypeId}{y:Operand}(hop:o.op=.box T y)(h:Ax C s ctx o=some (.ok true x mem')):BE C base S0 id σ a o x mem':=by
 unfold Ax at h;rw[hop]at h;simp only at h;have hex:(execOp a.eval o).run C.P σ.w=.ok (.value (.pointer (some ⟨σ.w.heap.size,0,none⟩))) (σ.w.alloc (.cells (a.eval y).cells T)):=by
  simp only[execOp,hop,Instr.box];simp[wO]
 split at h
 ·rename_i z n e hz hT;have h1:=Hd hr hx hz;split at h
  ·rename_i τ eτ;split at h
   ·rename_i xs exs;simp only[af,Res.ok.injEq,true_and]at h;obtain⟨rfl,rfl⟩:=h;obtain⟨g1,g2,g3,hlim⟩:=aHx h1.cells exs
    ·obtain⟨k1,k2,k3,k4,_⟩:=r7 ho (T:=T) (cg _) hlim g2 g3;refine AX (σ':=σ.push (.arr τ xs) (.cells (a.eval y).cells T) xs.length) hex k1 k2.moves (by simp[Sit.push,hr.mem]) ?_;rw[←hr.mem];exact aHb (by simp[Sit.push]) k3 k4
   ·cases h
  ·cases h
 ·rename_i z _ _ hz hT;have h1:=Hd hr hx hz;simp only[af,Res.ok.injEq,true_and]at h;obtain⟨rfl,rfl⟩:=h;obtain⟨k1,k2,k3⟩:=aHg ho (T:=T) h1;refine AX (σ':=σ.push (.raw z.cells) (.cells (a.eval y).cells T) 0) hex k1 k2.moves (by simp[Sit.push,hr.mem]) ?_;rw[←hr.mem];exact k3
 ·cases h
theorem aDu{P:Program}{σ:Sit}{T:TypeId}{parts:List (Nat×SV)}{qs:List (Nat×Value)}{z:SV}{cs:List SC}{At:Nat->Option (Nat×Nat)}(hz:FY P T=some z)
  (hps:All2 (fun p q=>p.1=q.1/\A8 σ p.2 q.2) parts qs) (h:IA At parts z.cells=some cs) (hb:∀zv i,P.info? T=some i->i.zero=some zv->P.built T qs=Instr.fill At zv.cells qs) (w:World) :
  ∃v,(Instr.build T qs.toArray).run P w=.ok v w/\A8 σ (.agg cs) v:=by
 obtain⟨i,zv,h1,h2,h3⟩:=xO hz
 obtain⟨vs',h4,h5⟩:=tG At h (h3 σ).cells (hps.mono fun p q hpq=>⟨hpq.1,hpq.2.cells⟩)
 exact⟨.agg vs',run_build w T qs.toArray vs' (by simpa using(hb zv i h1 h2).trans h4),vs'.toList,by simp,h5⟩
theorem aPk(ho:Ok base S0 σ)(hr:RelT σ s a)(hx:Bj a ctx){T:TypeId}{parts:Array (Nat×Operand)}(hop:o.op=.build T parts)(h:Ax C s ctx o=some (.ok true x mem')):BE C base S0 id σ a o x mem':=by
 unfold Ax at h;rw[hop]at h;simp only at h;have hparts:(parts.map fun(i,x)=>(i,a.eval x))=(parts.toList.map fun p=>(p.1,a.eval p.2)).toArray:=by
  apply gb.1;simp
 split at h
 ·rename_i z ps fs hz hps hT;cases hb:fs.toList.all (fun f=>(C.P.info? f.type).isSome)with
  |false=>rw[hb]at h;cases h
  |true=>
   rw[hb]at h;simp only[cond_true]at h;split at h
   ·rename_i cs ecs;simp only[af,Res.ok.injEq,true_and]at h;obtain⟨rfl,rfl⟩:=h;obtain⟨v,h1,h2⟩:=aDu (P:=C.P) (σ:=σ) hz (gP hr hx hps) ecs (fun zv i hi hzv=>by
     unfold qn;simp only[hi,hT,hzv,aGF hb];congr 1;funext i;simp only[List.getElem?_toArray,List.getElem?_map];cases fs.toList[i]?<;>rfl) σ.w
    exact AX (σ':=σ) (v:=v) (by simp only[execOp,hop];rw[hparts];exact Cj h1) ho (Goes.refl σ).moves hr.mem h2
   ·cases h
 ·rename_i z ps n e hz hps hT;cases hb:(C.P.info? e).isSome with
  |false=>rw[hb]at h;cases h
  |true=>
   rw[hb]at h;simp only[cond_true]at h;split at h
   ·rename_i cs ecs;simp only[af,Res.ok.injEq,true_and]at h;obtain⟨rfl,rfl⟩:=h;obtain⟨ie,hie⟩:=nd.1 hb;obtain⟨v,h1,h2⟩:=aDu (P:=C.P) (σ:=σ) hz (gP hr hx hps) ecs (fun zv i hi hzv=>by
     unfold qn;simp only[hi,hT,hzv,hie];simp[ko,hie]) σ.w
    exact AX (σ':=σ) (v:=v) (by simp only[execOp,hop];rw[hparts];exact Cj h1) ho (Goes.refl σ).moves hr.mem h2
   ·cases h
 ·cases h
theorem aPl(ho:Ok base S0 σ)(hr:RelT σ s a)(hx:Bj a ctx){T:TypeId}{n:Nat}{parts:Array (Nat×Operand)}(hop:o.op=.buildSlice T n parts)(h:Ax C s ctx o=some (.ok true x mem')):BE C base S0 id σ a o x mem':=by
 unfold Ax at h;rw[hop]at h;simp only at h;have hparts:(parts.map fun(i,x)=>(i,a.eval x)).toList=(parts.toList.map fun p=>(p.1,a.eval p.2)):=by simp
 split at h
 ·rename_i e hT;split at h
  ·rename_i τ z ps eτ hz hps;split at h
   ·rename_i cs ecs;cases hf:EY s.mem cs with
    |mk cs' m1=>
     rw[hf]at h;simp only at h;split at h
     ·rename_i xs exs;cases hb:(Nat.ble (n*C.P.cellsOf e) 16777216&&Nat.blt 0 (C.P.cellsOf e)&&FK (C.P.cellsOf e) z.cells&&Nat.blt 0 n)with
      |false=>rw[hb]at h;cases h
      |true=>
       rw[hb]at h;simp only[ai]at hb;simp only[cond_true,af,Res.ok.injEq,true_and]at h;obtain⟨rfl,rfl⟩:=h;have hle:=jl hb.1.1.1;have hpos:0<C.P.cellsOf e:=by simpa using hb.1.1.2
       obtain⟨i,zv,hi,hzv,hzr⟩:=xO hz;obtain⟨hmany,hn⟩:=aF6 exs;have hw:=J2 eτ;have hzsz:zv.cells.size=C.P.cellsOf e:=by
        have:=(hzr σ).cells.length;rw[VD hb.1.2]at this;simpa using this.symm
       have hmade:=aM5 (hzr σ).cells (by omega) n;rw[hzsz]at hmade;obtain⟨vs',f1,f2⟩:=tG _ ecs hmade ((gP hr hx hps).mono fun p q hpq=>⟨hpq.1,hpq.2.cells⟩);rw[←hr.mem]at hf;obtain⟨σ1,a1,a2,a3,a4,a5,a6⟩:=Zv ho hf;have hcells:=a6 _ f2;obtain⟨g1,g2,g3⟩:=vL hcells hmany;have hsize:(qc e).run C.P σ.w=.ok (C.P.cellsOf e) σ.w:=FV ⟨i,hi⟩;have hrun:(Instr.buildSlice T n (parts.map fun(i,x)=>(i,a.eval x))).run C.P σ.w=.ok (.slice (some ⟨σ.w.heap.size,0,none⟩) n n) (σ.w.alloc (.cells vs' e)):=by
        have hz0:(zeroValue e).run C.P σ.w=.ok zv σ.w:=by simp[zeroValue,typeInfo,hi,hzv]
        have h24:¬n*C.P.cellsOf e>2^24:=by omega
        unfold Instr.buildSlice;simp only[cy,CG hT,bl,hsize];rw[if_neg h24];have hn0:0<n:=by simpa using hb.2
        have hz1:¬n*C.P.cellsOf e=0:=lz (Nat.mul_pos hn0 hpos);have hm0:(Array.range (n*C.P.cellsOf e)).map (zv.cells[·%zv.cells.size]!)=madeCells zv.cells (n*C.P.cellsOf e):=rfl;simp only[if_neg hz1,cy,hz0,ee,bl,hm0,hparts,f1];simp[newRow]
       have hfg:=aEv a4 (.cells vs' e);refine AX (σ':=σ1.fresh (.cells vs' e)) (v:=.slice (some ⟨σ.w.heap.size,0,none⟩) n n) ?_ (aNd a4 _) (a5.trans hfg).moves a1 ?_
       ·simp only[execOp,hop];have:(σ1.fresh (.cells vs' e)).w=σ.w.alloc (.cells vs' e):=by simp[Sit.fresh,a2]
        rw[this];exact Cj hrun
       ·refine⟨_,n,by rw[g1],by omega,by have:=aDl;omega,fun _=>⟨σ.w.heap.size,0,vs',e,(0,0),rfl,.inr (by rw[a2]),?_,?_⟩⟩
        ·simp only[Sit.fresh,a2];exact VA
        ·intro i x hix;obtain⟨ds,d1,d2⟩:=g3 i x hix;exact⟨ds,d1.mono hfg.stab hfg.heap,fun j d hj=>by simpa using d2 j d hj⟩
     ·cases h
   ·cases h
  ·cases h
 ·cases h
theorem aPy(ho:Ok base S0 σ)(hr:RelT σ s a)(hx:Bj a ctx){T:TypeId}{y:Operand}(hop:o.op=.load T y)(h:Ax C s ctx o=some (.ok true x mem')):BE C base S0 id σ a o x mem':=by
 unfold Ax at h;rw[hop]at h;simp only at h;split at h
 ·rename_i c ec;have hc:=Bs hr hx ec;split at h
  ·rename_i cs off e1 e2;have hl:=Zd ho hc (by rw[hr.mem];exact e1);split at h
   ·rename_i l e3;simp only[af,Res.ok.injEq,true_and]at h;obtain⟨rfl,rfl⟩:=h;obtain⟨v,h1,h2⟩:=aFv hl e2 e3;exact AX (σ':=σ) (v:=v) (by simp only[execOp,hop];exact Cj h1) ho (Goes.refl σ).moves hr.mem h2
   ·cases h
  ·rename_i cs off e1 e2;have hl:=Zd ho hc (by rw[hr.mem];exact e1);split at h
   ·rename_i c' l e3;simp only[af,Res.ok.injEq,true_and]at h;obtain⟨rfl,rfl⟩:=h;obtain⟨v,h1,h2⟩:=aFw hl e2 e3;exact AX (σ':=σ) (v:=v) (by simp only[execOp,hop];exact Cj h1) ho (Goes.refl σ).moves hr.mem h2
   ·cases h
  ·cases h
 ·cases h
theorem vK{σ:Sit}{n:Nat}(ho:Ok base S0 σ):Ok base S0 {σ with w:={σ.w with drawn:=n} }/\Goes σ {σ with w:={σ.w with drawn:=n} }:=by
 have hg:Goes σ {σ with w:={σ.w with drawn:=n} }:=⟨fun _ h=>h,fun _ _=>rfl,cg _,fun _ _=>Bm.refl rfl rfl rfl⟩
 exact⟨⟨⟨ho.below.os,ho.below.tape,ho.below.output,ho.below.size,ho.below.block⟩,ho.stab0,ho.stab,fun b=>AF.keep hg rfl rfl rfl (fun _ _=>rfl) (ho.ent b),ho.own,ho.inj⟩,hg⟩
theorem aPi(ho:Ok base S0 σ)(hr:RelT σ s a)(hx:Bj a ctx){op:BinOp}{T T':TypeId}{y z:Operand}(hop:o.op=.binOp op T y z T')(h:Ax C s ctx o=some (.ok true x mem')):BE C base S0 id σ a o x mem':=by
 unfold Ax at h;rw[hop]at h;simp only at h;split at h
 ·rename_i c d e1 e2;have h1:=Hd hr hx e1;have h2:=Hd hr hx e2;cases hb:aGp C.P T c with
  |false=>rw[hb]at h;cases h
  |true=>
   rw[hb]at h;simp only[cond_true]at h;split at h
   ·rename_i g r e3;simp only[af,Res.ok.injEq]at h;obtain⟨rfl,rfl,rfl⟩:=h;obtain⟨v,n,h3,h4⟩:=aL3 (P:=C.P) (X:=y) (Y:=z) (T:=T) (w:=σ.w) (by
     cases c with
     |v q=>cases q with
      |bool b=>exact .inl hb
      |_=>exact .inr (by simp)
     |_=>exact .inr (by simp)) h1 h2 e3
    obtain⟨k1,k2⟩:=vK (n:=n) ho;exact AX (σ':={σ with w:={σ.w with drawn:=n} }) (v:=v) (by simp only[execOp,hop];exact Cj h3) k1 k2.moves hr.mem (k2.repC h4)
   ·split at h
    ·rename_i r e' en hT;simp only[af,Res.ok.injEq,true_and]at h;obtain⟨rfl,rfl⟩:=h;have:=aQ0 (X:=y) (Y:=z) (w:=σ.w) hT h1 h2 en;exact AX (σ':=σ) (v:=.bool r) (by simp only[execOp,hop];exact Cj this) ho (Goes.refl σ).moves hr.mem ⟨rfl,trivial⟩
    ·cases h
 ·rename_i c d e1 e2;have h1:=Hd hr hx e1;have h2:=Hd hr hx e2;split at h
  ·rename_i fs hT;cases hb:(!(C.P.eqGuardType C.P.depth T)&&!(C.P.stoodInHeld T))with
   |false=>rw[hb]at h;cases h
   |true=>
    rw[hb]at h;simp only[ai,Bool.not_eq_true']at hb;simp only[cond_true]at h;split at h
    ·rename_i r e3;simp only[af,Res.ok.injEq,true_and]at h;obtain⟨rfl,rfl⟩:=h;have:=(aD5 (X:=y) (Y:=z) (w:=σ.w) hT hb.1 hb.2 h1 h2 e3).1;exact AX (σ':=σ) (v:=.bool r) (by simp only[execOp,hop];exact Cj this) ho (Goes.refl σ).moves hr.mem ⟨rfl,trivial⟩
    ·rename_i r e3;simp only[af,Res.ok.injEq,true_and]at h;obtain⟨rfl,rfl⟩:=h;have:=(aD5 (X:=y) (Y:=z) (w:=σ.w) hT hb.1 hb.2 h1 h2 e3).2;exact AX (σ':=σ) (v:=.bool !r) (by simp only[execOp,hop];exact Cj this) ho (Goes.refl σ).moves hr.mem ⟨rfl,trivial⟩
    ·cases h
  ·cases h
 ·cases h
end Vx
namespace Vx
open Go Go.RowKit
variable {C:Cfg}{base:Base}{S0:Nat->Prop}{σ:Sit}{s:St}{a:Act}{ctx:List (Nat×Bool)}{o:Oper}{x:TV}{mem':Ae}
theorem aHC{P:Program}{T:TypeId}{r off:Nat}{v:Value}{w:World}{vs:Array Value}{T':TypeId}(hh:w.heap[r]? = some (.cells vs T' (0,0)))(hi:∃i,P.info? T=some i)(hsz:v.cells.size=P.cellsOf T)
  (hv:∀u∈v.cells.toList,scalar u) (hle:off+v.cells.size<=vs.size) :
  (Instr.storeAt T (.pointer (some ⟨r,off,none⟩)) v).run P w=.ok () (Dh w r (.cells (CE vs off v.cells.toList) T' (0,0))):=by
 unfold Instr.storeAt storeVar Instr.sureAddr;have h1:=aK (P:=P) (r:=r) (o:=off) (T:=T') v.cells.toList 0 w vs hh (by simpa using hle) hv;simp[FV hi,hsz];simpa using h1
theorem All2.allScalar{cs:List SC}{ys:List Value}(h:All2 (Aw σ) cs ys):∀u∈ys,scalar u:=by
 induction h with
 |nil=>simp
 |cons h _ ih=>
  intro u hu;rcases cx.1 hu with rfl|hu
  ·exact h.scalar
  ·exact ih u hu
theorem Aw.ptr_raw{b off:Nat}{y:Value}{cs:List SC}(h:Aw σ (.ptr b off) y)(e:Ac σ.mem b=.raw cs):∃r,σ.E.β b=some r/\y=.pointer (some ⟨r,off,none⟩):=by
 obtain⟨_,_,hm⟩:=h;rw[e]at hm;exact hm
theorem aFg{P:Program}{T:TypeId}(h:P.cellsOf T≠0):∃i,P.info? T=some i:=by
 unfold ko at h;cases hq:P.info? T with
 |none=>rw[hq]at h;exact absurd rfl h
 |some i=>exact⟨i,rfl⟩
theorem aPH(ho:Ok base S0 σ)(hr:RelT σ s a)(hx:Bj a ctx){T:TypeId}{y z:Operand}(hop:o.op=.store T y z)(h:Ax C s ctx o=some (.ok true x mem')):BE C base S0 id σ a o x mem':=by
 unfold Ax at h;rw[hop]at h;simp only at h;split at h
 ·rename_i b off v e1 e2;have hp:=Bs hr hx e1;have hv:=Hd hr hx e2;split at h
  ·rename_i cs eb;rw[←hr.mem]at eb;cases hb:(FK (C.P.cellsOf T) v.cells&&Y5 v.cells&&Nat.blt 0 (C.P.cellsOf T))with
   |false=>rw[hb]at h;cases h
   |true=>
    rw[hb]at h;simp only[ai]at hb;simp only[cond_true]at h;split at h
    ·rename_i cs' es;simp only[af,Res.ok.injEq,true_and]at h;obtain⟨rfl,rfl⟩:=h;obtain⟨r,hβ,hy⟩:=hp.ptr_raw eb;have he:=ho.ent b;unfold AF at he;rw[eb]at he;obtain⟨r',vs,T',h1,h2,h3⟩:=he;rw[hβ]at h1;cases h1;have hown:σ.owned b r:=⟨by rw[eb];trivial,hβ⟩
     obtain⟨k1,k2⟩:=All2.splice es h3 hv.cells;have hlt:b<σ.mem.length:=DH (by rw[eb];simp);have hrl:=(ho.own b r hown).2.1;obtain⟨g1,g2⟩:=jG ho hown (e:=.raw cs') (vs:=CE vs off (a.eval z).cells.toList) (T:=T') (by rw[eb];exact⟨cs',rfl⟩) (fun hg=>by
      unfold AF;simp only[Sit.store];rw[Ci hlt,if_pos rfl];exact⟨r,_,T',hβ,VB hrl,k1.mono fun _ _=>hg.repC⟩)
     have hl:=VD hb.1.1;have hcl:=hv.cells.length;have hsz:(a.eval z).cells.size=C.P.cellsOf T:=by simp at hcl;omega
     have hpos:C.P.cellsOf T≠0:=lz (by simpa using hb.2);have hrun:=aHC (P:=C.P) (T:=T) (off:=off) h2 (aFg hpos) hsz hv.cells.allScalar (by simpa using k2);refine aE9 (σ':=σ.store b r (.raw cs') (CE vs off (a.eval z).cells.toList) T') ?_ g1 g2.moves (by simp[Sit.store,hr.mem]) trivial;simp only[execOp,hop,hy];simp only[cy,hrun,bl,ee];rfl
    ·cases h
  ·cases h
 ·rename_i b i off v e1 e2;have hp:=Bs hr hx e1;have hv:=Hd hr hx e2;cases hf:FH s.mem v with
  |mk v' m1=>
   rw[hf]at h;simp only at h;rw[←hr.mem]at hf;obtain⟨σ1,a1,a2,a3,a4,a5,a6⟩:=aEu ho hf;have hp1:=a5.repC hp;have hv1:=a6 _ hv;split at h
   ·rename_i τ xs eb;rw[←a1]at eb;cases hb:(FK (C.P.cellsOf T) v'.cells&&Y5 v'.cells&&Nat.blt 0 (C.P.cellsOf T))with
    |false=>rw[hb]at h;cases h
    |true=>
     rw[hb]at h;simp only[ai]at hb;simp only[cond_true]at h;split at h
     ·rename_i cs' es;split at h
      ·rename_i x' ep;simp only[af,Res.ok.injEq,true_and]at h;obtain⟨rfl,rfl⟩:=h;obtain⟨_,_,hm⟩:=hp1;rw[eb]at hm;obtain⟨hi,r,hβ,hy⟩:=hm;obtain⟨hl0,hl1,vs,T',h2,h3,h4⟩:=f0 (a4.ent b) eb hβ;have hown:σ1.owned b r:=⟨by rw[eb];trivial,hβ⟩
       have hlt:b<σ1.mem.length:=DH (by rw[eb];simp);have hrl:=(a4.own b r hown).2.1;have hxi:xs[i]? = some (xs.getD i τ.dflt):=by
        rw[al,bc hi];rfl
       obtain⟨ds,d1,d2⟩:=h4 i _ hxi;have hdl:=d1.len;obtain⟨k1,k2⟩:=All2.splice es (vs:=ds.toArray) (by simpa using ME d1) hv1.cells;obtain⟨y1,y2,hyy,p1,p2⟩:=MZ k1 ep;cases p2;rw[List.append_nil]at hyy;have hle:off+(a.eval z).cells.size<=τ.width:=by simp at k2;omega
       have hfit:i*τ.width+off+(a.eval z).cells.size<=vs.size:=by
        rw[h3];have:=ay τ.width (show i+1<=σ1.E.κ b by omega);rw[jv]at this;omega
       have hnew:∀j d,y1[j]? = some d->(CE vs (i*τ.width+off) (a.eval z).cells.toList)[i*τ.width+j]? = some d:=fun j d hj=>by
        have hpl:=V1 (a.eval z).cells.toList vs (i*τ.width+off) (by simpa using hfit);have hpd:=V1 (a.eval z).cells.toList ds.toArray off (by simpa using k2);rw[←hyy,hpd]at hj;have hjw:j<τ.width:=by
         have:=(aw.1 hj).1;simp at this;simp at k2;omega
        rw[←kj,hpl];simp only[fj]at hj⊢;rcases au j off with hjo|hjo
        ·rw[co (by simp;omega),cr (by omega)]at *
         simpa using d2 j d (by simpa using hj)
        ·rw[cj (by simp;omega)]at hj⊢;have e1:i*τ.width+j-(kp (i*τ.width+off) vs.toList).length=j-(kp off ds.toArray.toList).length:=by
          simp at k2⊢;omega
         rw[e1];rcases au (j-(kp off ds.toArray.toList).length) (a.eval z).cells.toList.length with hq|hq
         ·rw[co hq]at hj⊢;exact hj
         ·rw[cj hq]at hj⊢;rw[dr]at hj⊢;have e2:i*τ.width+off+(a.eval z).cells.toList.length+(j-(kp off ds.toArray.toList).length-(a.eval z).cells.toList.length)=i*τ.width+(off+(a.eval z).cells.toList.length+(j-(kp off ds.toArray.toList).length-(a.eval z).cells.toList.length)):=by omega
          rw[e2];simpa using d2 _ d (by simpa using hj)
       have hold:∀i',i'≠i->∀j,j<τ.width->(CE vs (i*τ.width+off) (a.eval z).cells.toList)[i'*τ.width+j]? = vs[i'*τ.width+j]?:=fun i' hne j hj=>by
        have hpl:=V1 (a.eval z).cells.toList vs (i*τ.width+off) (by simpa using hfit);rw[←kj,hpl];rcases Nat.lt_or_gt_of_ne hne with hlt' | hgt
        ·have:=ay τ.width (show i'+1<=i by omega);rw[jv]at this;rw[fj,co (by simp;omega),cr (by omega)];simp
        ·have:=ay τ.width (show i+1<=i' by omega);rw[jv]at this;rw[cj (by simp;omega),dr];have e2:i*τ.width+off+(a.eval z).cells.toList.length+(i'*τ.width+j-(kp (i*τ.width+off) vs.toList++(a.eval z).cells.toList).length)=i'*τ.width+j:=by simp;omega
         rw[e2];simp
       obtain⟨g1,g2⟩:=jG a4 hown (e:=.arr τ (xs.set i x')) (vs:=CE vs (i*τ.width+off) (a.eval z).cells.toList) (T:=T') (by rw[eb];exact⟨_,rfl,by simp⟩) (fun hg=>by
        unfold AF;simp only[Sit.store];rw[Ci hlt,if_pos rfl];refine⟨by simpa using hl0,hl1,.inr ⟨r,_,T',hβ,VB hrl,by rw[aC,h3],fun i' u hu=>?_⟩⟩;rw[nc]at hu;split at hu
        ·rename_i hii;subst hii;cases hu;exact⟨y1,p1.mono hg.stab hg.heap,fun j d hj=>by simpa using hnew j d hj⟩
        ·rename_i hii;obtain⟨ds',d1',d2'⟩:=h4 i' u hu;refine⟨ds',d1'.mono hg.stab hg.heap,fun j d hj=>?_⟩;have hjl:=(aw.1 hj).1;rw[d1'.len]at hjl;rw[dw,hold i' (fun e=>hii e.symm) j hjl];simpa using d2' j d hj)
       have hl:=VD hb.1.1;have hcl:=hv1.cells.length;have hsz:(a.eval z).cells.size=C.P.cellsOf T:=by simp at hcl;omega
       have hpos:C.P.cellsOf T≠0:=lz (by simpa using hb.2);have hrun:=aHC (P:=C.P) (T:=T) (off:=i*τ.width+off) h2 (aFg hpos) hsz hv1.cells.allScalar (by omega);refine aE9 (σ':=σ1.store b r (.arr τ (xs.set i x')) (CE vs (i*τ.width+off) (a.eval z).cells.toList) T') ?_ g1 (a5.trans g2).moves (by simp[Sit.store,a1]) trivial;simp only[execOp,hop,hy];simp only[cy];rw[←a2,hrun];simp only[bl,ee];rfl
      ·cases h
     ·cases h
   ·cases h
 ·cases h
theorem aPE(ho:Ok base S0 σ)(hr:RelT σ s a)(hx:Bj a ctx){y:Operand}(hop:o.op=.nilCheck y)(h:Ax C s ctx o=some (.ok true x mem')):BE C base S0 id σ a o x mem':=by
 unfold Ax at h;rw[hop]at h;simp only at h;split at h
 ·rename_i b off e;have hp:=Zo hr hx e;split at h
  ·rename_i cs eb;simp only[af,Res.ok.injEq,true_and]at h;obtain⟨rfl,rfl⟩:=h;rw[←hr.mem]at eb;obtain⟨r,hβ,hy⟩:=Aw.ptr_raw hp eb;refine AX (σ':=σ) (v:=a.eval y) ?_ ho (Goes.refl σ).moves hr.mem hp;simp only[execOp,hop,hy];rfl
  ·cases h
 ·cases h
theorem aPL(ho:Ok base S0 σ)(hr:RelT σ s a)(hx:Bj a ctx){op:UnOp}{T:TypeId}{y:Operand}(hop:o.op=.unOp op T y)(h:Ax C s ctx o=some (.ok true x mem')):BE C base S0 id σ a o x mem':=by
 unfold Ax at h;rw[hop]at h;simp only at h;split at h
 ·rename_i c ec;split at h
  ·rename_i r er;simp only[af,Res.ok.injEq,true_and]at h;obtain⟨rfl,rfl⟩:=h;obtain⟨v,h1,h2⟩:=aVn (P:=C.P) (w:=σ.w) (Bs hr hx ec) er;exact AX (σ':=σ) (v:=v) (by simp only[execOp,hop];exact Cj h1) ho (Goes.refl σ).moves hr.mem h2
  ·cases h
 ·cases h
theorem aPm(ho:Ok base S0 σ)(hr:RelT σ s a)(hx:Bj a ctx){T1 T2:TypeId}{y:Operand}(hop:o.op=.convert T1 T2 y)(h:Ax C s ctx o=some (.ok true x mem')):BE C base S0 id σ a o x mem':=by
 unfold Ax at h;rw[hop]at h;simp only at h;split at h
 ·rename_i k k' n hT e;split at h
  ·rename_i d hT1;simp only[af,Res.ok.injEq,true_and]at h;obtain⟨rfl,rfl⟩:=h;obtain⟨h1,h2⟩:=Bs hr hx e;refine AX (σ':=σ) (v:=.int k (k.wrap n)) ?_ ho (Goes.refl σ).moves hr.mem (Hk (σ:=σ) k n);simp only[execOp,hop,h1];refine Cj ?_;unfold convert;simp only[cy,CG hT1,CG hT,bl];cases d<;>simp[Conv.intToInt]
  ·cases h
 ·cases h
theorem aPq(ho:Ok base S0 σ)(hr:RelT σ s a)(hx:Bj a ctx){T:TypeId}{y:Operand}{i:Nat}(hop:o.op=.fieldAddr T y i)(h:Ax C s ctx o=some (.ok true x mem')):BE C base S0 id σ a o x mem':=by
 unfold Ax at h;rw[hop]at h;simp only at h;split at h
 ·rename_i b off d ft e1 e2;split at h
  ·rename_i cs eb;simp only[af,Res.ok.injEq,true_and]at h;obtain⟨rfl,rfl⟩:=h;rw[←hr.mem]at eb;have hp:=Bs hr hx e1;obtain⟨r,hβ,hy⟩:=Aw.ptr_raw hp eb;refine AX (σ':=σ) (v:=.pointer (some ⟨r,off+d,none⟩)) (by simp only[execOp,hop,hy];exact Cj (tF e2 _ _ _)) ho (Goes.refl σ).moves hr.mem ?_;refine⟨hp.1,⟨_,rfl⟩,?_⟩;rw[eb];exact⟨r,hβ,rfl⟩
  ·cases h
 ·rename_i b j off d ft e1 e2;split at h
  ·rename_i τ xs eb;simp only[af,Res.ok.injEq,true_and]at h;obtain⟨rfl,rfl⟩:=h;rw[←hr.mem]at eb;have hp:=Bs hr hx e1;obtain⟨hlt,_,hm⟩:=hp;rw[eb]at hm;obtain⟨hi,r,hβ,hy⟩:=hm;refine AX (σ':=σ) (v:=.pointer (some ⟨r,j*τ.width+off+d,none⟩)) (by simp only[execOp,hop,hy];exact Cj (tF e2 _ _ _)) ho (Goes.refl σ).moves hr.mem ?_;refine⟨hlt,trivial,?_⟩;rw[eb];exact⟨hi,r,hβ,by rw[gu]⟩
  ·cases h
 ·rename_i τ y' off d ft e1 e2;simp only[af,Res.ok.injEq,true_and]at h;obtain⟨rfl,rfl⟩:=h;obtain⟨r,q,vs,T',fz,ds,hy,h1,h2,h3,h4⟩:=Bs hr hx e1;refine AX (σ':=σ) (v:=.pointer (some ⟨r,q+off+d,none⟩)) (by simp only[execOp,hop,hy];exact Cj (tF e2 _ _ _)) ho (Goes.refl σ).moves hr.mem ?_;exact⟨r,q,vs,T',fz,ds,by rw[gu],h1,h2,h3,h4⟩
 ·cases h
end Vx
namespace Vx
open Go Go.RowKit
variable {C:Cfg}{base:Base}{S0:Nat->Prop}{σ:Sit}{s:St}{a:Act}{ctx:List (Nat×Bool)}{o:Oper}{x:TV}{mem':Ae}
theorem Zu{mem:Ae}{c c':SC}{m:Ae}(h:C8 mem c=(c',m))(b:Nat):c'≠.own b:=by
 unfold C8 at h;split at h
 ·split at h<;>(cases h;simp)
 ·split at h<;>(cases h;simp)
 ·rename_i hn;cases h;intro e;exact hn b e
theorem Za{τ:Shape}{c:SC}{y:Value}{xs:List (Aa τ)}(hc:Aw σ c y)(hn:∀b,c≠.own b)(h:Mx σ.mem τ c=some xs):AN σ.w σ.S (.slice τ) xs [y]:=by
 unfold Mx at h;split at h
 ·exact sP h hc
 ·cases h;obtain⟨rfl,_⟩:=hc;exact iG τ
 ·exact absurd rfl (hn _)
 ·cases h
theorem aUQ{τ:Shape}{y:Value}{xs:List (Aa τ)}(h:AN σ.w σ.S (.slice τ) xs [y]):∃A c,y=.slice A xs.length c/\xs.length<=c/\c<BQ:=by
 obtain⟨A,c,h1,h2,h3,_⟩:=h;cases h1;exact⟨A,c,rfl,h2,h3⟩
theorem aOI{c:SC}{y:Value}{n:Nat}(hc:Aw σ c y)(hns:∀str,c≠.v (.string str))(h:lenOf σ.mem c=some n):∃A k,y=.slice A n k:=by
 unfold lenOf at h;split at h
 ·cases h;obtain⟨A,k,h1,_⟩:=hc;cases h1;exact⟨A,k,rfl⟩
 ·cases h;obtain⟨rfl,_⟩:=hc;exact⟨none,0,rfl⟩
 ·exact absurd rfl (hns _)
 ·obtain⟨_,_,hm⟩:=hc;split at h
  ·rename_i e;cases h;rw[e]at hm;obtain⟨r,_,rfl⟩:=hm;exact⟨_,_,rfl⟩
  ·rename_i e;cases h;rw[e]at hm;exact⟨_,_,hm⟩
  ·rename_i e;cases h;rw[e]at hm;obtain⟨A,k,h1,_⟩:=hm;cases h1;exact⟨A,k,rfl⟩
  ·cases h
 ·cases h
theorem aOH(ho:Ok base S0 σ){c:SC}{y:Value}{n:Nat}(hc:Aw σ c y)(h:lenOf σ.mem c=some n):n<BQ:=by
 unfold lenOf at h;split at h
 ·cases h;obtain⟨A,k,h1,h2,h3,_⟩:=hc;exact av h2 h3
 ·cases h;unfold BQ;omega
 ·cases h;exact hc.2
 ·rename_i b;obtain⟨_,_,hm⟩:=hc;have he:=ho.ent b;unfold AF at he;split at h
  ·rename_i e;cases h;rw[e]at he;exact av he.1 he.2.1
  ·rename_i e;cases h;rw[e]at he;exact av he.1 he.2.1
  ·rename_i e;cases h;rw[e]at hm;obtain⟨A,k,h1,h2,h3,_⟩:=hm;exact av h2 h3
  ·cases h
 ·cases h
theorem AN.cut{w:World}{S:Nat->Prop}{τ:Shape}{xs:List (Aa τ)}{A:Option Addr}{c l h:Nat}(hd:AN w S (.slice τ) xs [.slice A xs.length c])(h1:l<=h)(h2:h<=xs.length)(hc:xs.length<=c)(hlim:c<BQ):
  AN w S (.slice τ) ((xs.take h).drop l) [.slice (if c=l then A else A.map (·.add (l*τ.width))) (h-l) (c-l)]:=by
 obtain⟨A',c',e,_,_,h4⟩:=hd;cases e;have hlen:((xs.take h).drop l).length=h-l:=by simp;omega
 refine⟨_,c-l,by rw[hlen],by omega,by omega,fun hne=>?_⟩;have hlt:l<h:=by
  rcases au l h with h' | h'
  ·exact h'
  ·exact absurd (cq (by omega)) hne
 have hxs:xs≠[]:=by intro e;subst e;simp at h2;omega
 obtain⟨r,o,vs,T,fz,e1,e2,e3,e4⟩:=h4 hxs;refine⟨r,o+l*τ.width,vs,T,fz,?_,e2,e3,fun i x hi=>?_⟩
 ·rw[if_neg (by omega),e1];simp[JU]
 ·rw[dr,List.getElem?_take]at hi;split at hi
  ·obtain⟨ds,d1,d2⟩:=e4 _ _ hi;refine⟨ds,d1,fun j d hj=>?_⟩;have:=d2 j d hj;rw[Nat.add_mul]at this;rw[show o+l*τ.width+i*τ.width+j=o+(l*τ.width+i*τ.width)+j by omega];exact this
  ·cases hi
theorem aMS{P:Program}{e:TypeId}{τ:Shape}(eτ:CU P e=some τ):∃i,P.info? e=some i:=by
 have:M8 P 12 e=some τ:=by
  unfold CU at eτ;split at eτ
  ·rename_i τ' e';cases hb:Nat.beq (P.cellsOf e) τ'.width with
   |false=>rw[hb]at eτ;cases eτ
   |true=>rw[hb]at eτ;cases eτ;exact e'
  ·cases eτ
 unfold M8 at this;cases hu:P.underlying e with
 |none=>rw[hu]at this;cases this
 |some d=>exact ZN hu
theorem wU{T e:TypeId}{τ:Shape}{y:Operand}{lo hi:Option Operand}(hr:RelT σ s a)(hx:Bj a ctx)(hT:C.P.underlying T=some (.slice e))(eτ:CU C.P e=some τ){A:Option Addr}{n k:Nat}(hy:a.eval y=.slice A n k)(hk:n<=k){l hh:Int}
  (el:(match lo with|none=>some (0:Int)|some a=>E0 s ctx a)=some l) (eh:(match hi with|none=>some (n:Int)|some a=>E0 s ctx a)=some hh) (hop:o.op=.slice T y lo hi none) (g1:0<=l) (g2:l<=hh) (g3:hh<=(n:Int)) (w:World) :
  (execOp a.eval o).run C.P w=.ok (.value (.slice (if k=l.toNat then A else A.map (·.add (l.toNat*τ.width))) (hh.toNat-l.toNat) (k-l.toNat))) w:=by
 have hi':∃i,C.P.info? e=some i:=by
  have:M8 C.P 12 e=some τ:=by
   unfold CU at eτ
   split at eτ
   ·rename_i τ' e'
    cases hb:Nat.beq (C.P.cellsOf e) τ'.width with
    |false=>rw[hb]at eτ;cases eτ
    |true=>rw[hb]at eτ;cases eτ;exact e'
   ·cases eτ
  unfold M8 at this
  cases hu:C.P.underlying e with
  |none=>rw[hu]at this;cases this
  |some d=>exact ZN hu
 have hw:=J2 eτ
 simp only[execOp,hop,hy,li]
 refine Cj ?_
 unfold Instr.sliceAt
 simp only[cy,CG hT,bl]
 unfold Instr.slice
 simp only[cy,CG hT,bl]
 have hbH:(match hi.map a.eval with|some v=>Instr.sliceBound v k .sliceAcap|none=>pure n:Sem Nat).run C.P w=.ok hh.toNat w:=by
  cases hi with
  |none=>simp only[li,ee];simp at eh;subst eh;rfl
  |some q=>
   simp only at eh
   obtain⟨kk,hq,_⟩:=RH hr hx eh
   simp only[js,hq,Instr.sliceBound,asIntOf,cy,ee,bl]
   rw[if_pos ⟨by omega,by omega⟩]
   rfl
 have hbL:(match lo.map a.eval with|some v=>Instr.sliceBound v hh.toNat (if(none:Option Value).isSome then .slice3C else .sliceB)|none=>pure 0:Sem Nat).run C.P w=.ok l.toNat w:=by
  cases lo with
  |none=>simp only[li,ee];simp at el;subst el;rfl
  |some q=>
   simp only at el
   obtain⟨kk,hq,_⟩:=RH hr hx el
   simp only[js,hq,Instr.sliceBound,asIntOf,cy,ee,bl]
   rw[if_pos ⟨by omega,by omega⟩]
   rfl
 have hb:(Instr.sliceBounds true n k (lo.map a.eval) (hi.map a.eval) none).run C.P w=.ok (l.toNat,hh.toNat,k) w:=by
  cases hhi:hi.map a.eval<;>cases hlo:lo.map a.eval<;>rw[hhi]at hbH<;>rw[hlo]at hbL<;>
   simp only[ee,Result.ok.injEq,and_true,Option.isSome_none,Bool.false_eq_true,if_false]at hbH hbL<;>unfold Instr.sliceBounds
  ·simp[hbH,←hbL]
  ·simp[hbH,hbL]
  ·simp[hbH,←hbL]
  ·simp[hbH,hbL]
 rw[hb]
 simp only[bl,FV hi',hw]
 simp
theorem aPI(ho:Ok base S0 σ)(hr:RelT σ s a)(hx:Bj a ctx){T:TypeId}{y:Operand}{lo hi mx:Option Operand}(hop:o.op=.slice T y lo hi mx){g:Bool}{c:SC}(hs:Nb C s ctx T y lo hi mx=some (g,c))(h:Ax C s ctx o=some (.ok true x mem')):BE C base S0 id σ a o x mem':=by
 unfold Ax at h;rw[hop]at h;simp only[hs,af,Res.ok.injEq]at h;obtain⟨rfl,rfl,rfl⟩:=h;unfold Nb at hs;split at hs
 ·rename_i b ec;replace hs:=(AI hs).2;split at hs
  ·rename_i l0 h0 e τ' xs hT eb;split at hs
   ·rename_i τ l hh eτ el eh;split at hs
    ·rename_i hττ;subst hττ;simp only[af,dh,ai,decide_eq_true_eq]at hs;obtain⟨⟨⟨g1,g2⟩,g3⟩,rfl⟩:=hs;rw[←hr.mem]at eb;have hc:=Bs hr hx ec;have he:=ho.ent b;unfold AF at he;rw[eb]at he;obtain⟨q1,q2,_⟩:=he;obtain⟨hlt,_,hm⟩:=hc;rw[eb]at hm;simp only at hm;have hrun:=wU (lo:=some l0) (hi:=some h0) hr hx hT eτ hm q1 el eh hop g1 g2 g3 σ.w;refine AX (σ':=σ) hrun ho (Goes.refl σ).moves hr.mem ?_;refine⟨hlt,trivial,?_⟩;rw[eb];refine⟨by omega,_,_,rfl,by omega,by omega,fun hn=>?_⟩;obtain⟨r,hβ⟩:=r8 (ho.ent b) eb (by omega);refine⟨r,hβ,?_⟩;rw[if_neg (by omega),hβ];simp[JU]
    ·cases hs
   ·cases hs
  ·cases hs
 ·rename_i b ec;split at hs
  ·rename_i n e τ' xs hT eb;split at hs
   ·rename_i τ eτ;split at hs
    ·rename_i hττ;subst hττ;obtain⟨hn,hs⟩:=AI hs;simp only[af,dh,true_and]at hs;subst hs;have hn:xs.length=n:=ak hn;rw[←hr.mem]at eb;have hc:=Bs hr hx ec;have he:=ho.ent b;unfold AF at he;rw[eb]at he;obtain⟨q1,q2,_⟩:=he;obtain⟨hlt,_,hm⟩:=hc;rw[eb]at hm;obtain⟨r,hβ,hy⟩:=hm;refine AX (σ':=σ) (v:=.slice (some ⟨r,0,none⟩) xs.length xs.length) ?_ ho (Goes.refl σ).moves hr.mem ?_
     ·simp only[execOp,hop,hy];refine Cj ?_;unfold Instr.sliceAt;simp only[cy,CG hT,bl,Instr.sureAddr,ee,li,Instr.sliceBounds];simp[FV (aMS eτ),hn,JU]
     ·refine⟨hlt,trivial,?_⟩;rw[eb];exact⟨by omega,_,_,rfl,cg _,by omega,fun _=>⟨r,hβ,by simp⟩⟩
    ·cases hs
   ·cases hs
  ·cases hs
 ·cases hs
theorem aPG(ho:Ok base S0 σ)(hr:RelT σ s a)(hx:Bj a ctx){T:TypeId}{y:Operand}{lo hi mx:Option Operand}(hop:o.op=.slice T y lo hi mx)(hns:Nb C s ctx T y lo hi mx=none)(hno:RW C s ctx y lo mx=none)(h:Ax C s ctx o=some (.ok true x mem')):BE C base S0 id σ a o x mem':=by
 unfold Ax at h;rw[hop]at h;simp only[hns,hno]at h;split at h
 ·rename_i e c hT ec;split at h
  ·rename_i τ eτ;cases hf:C8 s.mem c with
   |mk c' m1=>
    rw[hf]at h;simp only at h;rw[←hr.mem]at hf;obtain⟨σ1,a1,a2,a3,a4,a5,a6⟩:=RC ho hf;split at h
    ·rename_i xs exs;split at h
     ·rename_i l hh el eh;simp only[af,Res.ok.injEq,ai,decide_eq_true_eq]at h;obtain⟨⟨⟨g1,g2⟩,g3⟩,rfl,rfl⟩:=h;have hd:=Za (a6 _ (Bs hr hx ec)) (Zu hf) (by rw[a1];exact exs);obtain⟨A,k,hy,hk,hklim⟩:=aUQ hd;rw[hy]at hd;have hcut:=hd.cut (l:=l.toNat) (h:=hh.toNat) (by omega) (by omega) hk hklim;exact AX (σ':=σ1) (by rw[a2];exact wU hr hx hT eτ hy hk el eh hop g1 g2 g3 σ.w) a4 a5.moves a1 hcut
     ·cases h
    ·cases h
  ·cases h
 ·cases h
end Vx
end
