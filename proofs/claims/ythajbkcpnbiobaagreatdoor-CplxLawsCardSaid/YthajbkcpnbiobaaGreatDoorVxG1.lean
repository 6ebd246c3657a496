/- Part 1 of the proof. What is proved: symbolic execution of the functions, proved sound; what each function of the program computes, and that every run ends with it; what these functions compute, in plain numbers. Conditions: each theorem bears its own. -/
import Derived.Calls
import Derived.Orders
import Derived.LoopN
import Derived.KernelRfl
import GoSem.Core.Utf8
import Derived.Below
import Derived.Laws.Closers25b
import Derived.Laws.Sem
import Derived.Laws.World
import Derived.Laws.Cells
import Derived.Laws.Slices
import Derived.Laws.StructEq
import Derived.Laws.MakeOwn
import Derived.Laws.Tables
set_option linter.all false
set_option exponentiation.threshold 1000000
noncomputable section
open Array renaming ext->qv,getElem?_eq_some_iff->cz,getElem?_toList->jy,getElem_setIfInBounds->mg,range->qq,toList_inj->fu
open BitVec renaming ofInt->ce
open Bool renaming and_eq_true->af
open Classical renaming choice->pi
open Go renaming sizeOf->oi
open Go.IntKind renaming bits->gy,max->lk,min->mh,signed->im
open Go.Program renaming built->ql,cellsOf->ka,fieldsOf->nd
open Go.Result renaming andThen_ok->ax
open Go.Sem renaming run_bind->bu,run_pure->de
open Go.Value renaming pointer->il
open Go.World renaming size_alloc->ga
open Int renaming le_total->pg,le_trans->lm,neg_tmod->qo,tmod_nonneg->po
open List renaming append_assoc->fc,eq_nil_of_length_eq_zero->cg,getD_eq_getElem?_getD->al,getElem?_append_left->cd,getElem?_append_right->bv,getElem?_drop->di,getElem?_eq_getElem->ay,getElem?_eq_none->du,getElem?_eq_some_iff->au,getElem?_set->mu,getElem?_take_of_lt->ck,length_append->dx,length_cons->fq,mem_cons->cn,mem_cons_of_mem->gm,mem_cons_self->jv,replicate->ar,take->kc
open Nat renaming add_assoc->gh,eq_of_beq_eq_true->ah,le_of_ble_eq_true->iy,le_refl->bj,le_trans->fw,lt_of_le_of_lt->ao,lt_of_lt_of_le->ak,lt_or_ge->aq,mul_le_mul_right->aw,ne_of_gt->kb,succ_mul->jl,zero_add->dm,zero_mul->fd
open Option renaming isSome_iff_exists->mv,map_none->ld,map_some->jh
open Option.some renaming inj->jz,injEq->ab
open Prod.mk renaming injEq->cu
namespace Vx
open Go
inductive Shape where
 |int (k:IntKind)|flt (k:FloatKind)|bool|str|fn|unit
 |slice (e:Shape)|pair (a b:Shape)
 /-- a AY that nobody writes,and an interface's value (its type,its whole numbers) -/
 |box (a:Shape)|ifc
 /-- a function that holds nothing -/
 |pfn
 |cx (k:FloatKind)
 deriving DecidableEq
@[reducible] def Ab:Shape->Type
 |.int _=>Int
 |.flt _=>Option Nat
 |.bool=>Bool
 |.str=>ByteArray
 |.fn=>Option (Nat×List Nat)
 |.unit=>Unit
 |.slice e=>List (Ab e)
 |.pair a b=>Ab a×Ab b
 |.box a=>Ab a
 |.ifc=>Option (Nat×List Int)
 |.pfn=>Nat
 |.cx _=>Option Nat×Option Nat
def Shape.width:Shape->Nat
 |.unit=>0
 |.pair a b=>a.width+b.width
 |_=>1
def Shape.dflt:(τ:Shape)->Ab τ
 |.int _=>(0:Int)
 |.flt _=>some 0
 |.bool=>false
 |.str=>⟨#[]⟩
 |.fn=>none
 |.unit=>()
 |.slice _=>[]
 |.pair a b=>(a.dflt,b.dflt)
 |.box a=>a.dflt
 |.ifc=>none
 |.pfn=>(0:Nat)
 |.cx _=>(some 0,some 0)
inductive SC where
 |undef
 |v (x:Value)
 |fl (k:FloatKind) (o:Option Nat)
 |sl (τ:Shape) (xs:List (Ab τ))
 |own (b:Nat)
 |ptr (b off:Nat)
 |eptr (b i off:Nat)
 |sub (b lo len:Nat)
 |iptr (τ:Shape) (x:Ab τ) (off:Nat)
 |gptr (g:Nat)
 |fnv (o:Option (Nat×List Nat))
 |fn (f:FuncId) (caps:List (Nat×Nat))
 |ifv (d:Option (Nat×List Int))
 |cx (k:FloatKind) (a b:Option Nat)
inductive SV where
 |one (c:SC)
 |agg (cs:List SC)
inductive TV where
 |un
 |val (x:SV)
 |tup (xs:List SV)
 /-- what a range over a string gives: is there more,where,which rune -/
 |nxt (c:Bool) (i r:Int)
inductive Blk where
 |gone
 |raw (cells:List SC)
 |arr (τ:Shape) (xs:List (Ab τ))
 |acc (τ:Shape) (xs:List (Ab τ))
 |froz (τ:Shape) (xs:List (Ab τ))
 /-- a range over a string: how far it is -/
 |itr (s:ByteArray) (pos:Nat)
abbrev Ai:=List Blk
structure St where
 n:Nat
 m0:Nat
 tm:List (Nat×TV)
 mem:Ai
 cs:List (Nat×Nat×Bool×TV)
def SV.cells:SV->List SC
 |.one c=>[c]
 |.agg cs=>cs
def cellsOf:(τ:Shape)->Ab τ->List SC
 |.int k,n=>[.v (.int k n)]
 |.flt k,o=>[.fl k o]
 |.bool,b=>[.v (.bool b)]
 |.str,s=>[.v (.string s)]
 |.fn,o=>[.fnv o]
 |.unit,_=>[]
 |.slice e,xs=>[.sl e xs]
 |.pair a b,x=>cellsOf a x.1++cellsOf b x.2
 |.box a,x=>[.iptr a x 0]
 |.ifc,d=>[.ifv d]
 |.pfn,n=>[.fnv (some (n,[]))]
 |.cx k,x=>[.cx k x.1 x.2]
def CR(e' e:Shape)(xs:List (Ab e')):Option (List (Ab e)):=if h:e'=e then some (h▸xs)else none
def vG(e' e:Shape)(x:Ab e'):Option (Ab e):=if h:e'=e then some (h▸x)else none
def Cl:(τ:Shape)->List SC->Option (Ab τ×List SC)
 |.int k,c::r=>match c with
  |.v (.int k' n)=>if k'=k then some (n,r)else none
  |_=>none
 |.flt k,c::r=>match c with
  |.fl k' o=>if k'=k then some (o,r)else none
  |_=>none
 |.bool,c::r=>match c with
  |.v (.bool b)=>some (b,r)
  |_=>none
 |.str,c::r=>match c with
  |.v (.string s)=>some (s,r)
  |_=>none
 |.fn,c::r=>match c with
  |.v .nilFunc=>some (none,r)
  |.fn f []=>some (some (f,[]),r)
  |.fnv o=>some (o,r)
  |_=>none
 |.box a,c::r=>match c with
  |.iptr a' x 0=>match vG a' a x with
   |some y=>some (y,r)
   |none=>none
  |_=>none
 |.ifc,c::r=>match c with
  |.v .nilIface=>some (none,r)
  |.ifv d=>some (d,r)
  |_=>none
 |.pfn,c::r=>match c with
  |.fn f []=>some (f,r)
  |.fnv (some (f,[]))=>some (f,r)
  |_=>none
 |.cx k,c::r=>match c with
  |.cx k' a b=>if k'=k then some ((a,b),r)else none
  |_=>none
 |.unit,cs=>some ((),cs)
 |.slice e,c::r=>match c with
  |.sl e' xs=>match CR e' e xs with
   |some ys=>some (ys,r)
   |none=>none
  |.v (.slice none 0 0)=>some ([],r)
  |_=>none
 |.pair a b,cs=>match Cl a cs with
  |none=>none
  |some (x,r)=>match Cl b r with
   |none=>none
   |some (y,r')=>some ((x,y),r')
 |_,[]=>none
def TZ(τ:Shape):Nat->List SC->Option (List (Ab τ))
 |0,[]=>some []
 |0,_::_=>none
 |n+1,cs=>match Cl τ cs with
  |none=>none
  |some (x,r)=>match TZ τ n r with
   |none=>none
   |some xs=>some (x::xs)
def Ss(τ:Shape)(n:Nat)(cs:List SC):Option (List (Ab τ)):=bif Nat.ble n 1048576 then TZ τ n cs else none
section types
variable (P:Program)
def aIT:List (Option Shape)->Option Shape
 | []=>some .unit
 |none::_=>none
 |some a::r=>match aIT r with
  |none=>none
  |some b=>some (.pair a b)
def Nx:Nat->TypeId->Option Shape
 |0,_=>none
 |d+1,T=>match P.underlying T with
  |some (.int k)=>some (.int k)
  |some (.float k)=>some (.flt k)
  |some (.complex k)=>some (.cx k)
  |some .bool=>some .bool
  |some .string=>some .str
  |some (.func _ _ _)=>some .fn
  |some (.slice e)=>match Nx d e with
   |some s=>some (.slice s)
   |none=>none
  |some (.struct fs)=>aIT (fs.toList.map fun f=>Nx d f.type)
  |_=>none
def Hb(T:TypeId):Option Bool:=
 match P.underlying T with
 |some (.struct _)=>some true
 |some (.array _ _)=>some true
 |some _=>some false
 |none=>none
def lD(k:IntKind)(n:Int):Bool:=
 match k with
 |.i8=>decide (-128<=n)&&decide (n<=127)
 |.i16=>decide (-32768<=n)&&decide (n<=32767)
 |.i32=>decide (-2147483648<=n)&&decide (n<=2147483647)
 |.i64=>decide (-9223372036854775808<=n)&&decide (n<=9223372036854775807)
 |.u8=>decide (0<=n)&&decide (n<=255)
 |.u16=>decide (0<=n)&&decide (n<=65535)
 |.u32=>decide (0<=n)&&decide (n<=4294967295)
 |.u64=>decide (0<=n)&&decide (n<=18446744073709551615)
def WR:Value->Option SC
 |.bool b=>some (.v (.bool b))
 |.int k n=>bif lD k n then some (.v (.int k n))else none
 |.float .f32 b=>bif Nat.blt b 4294967296 then some (.fl .f32 (some b))else none
 |.float .f64 b=>bif Nat.blt b 18446744073709551616 then some (.fl .f64 (some b))else none
 |.complex .f64 a b=>bif Nat.blt a 18446744073709551616&&Nat.blt b 18446744073709551616 then some (.cx .f64 (some a) (some b))else none
 |.string s=>bif Nat.blt s.size 9223372036854775808 then some (.v (.string s))else none
 |.pointer none=>some (.v (.pointer none))
 |.slice none 0 0=>some (.v (.slice none 0 0))
 |.nilFunc=>some (.v .nilFunc)
 |.nilIface=>some (.v .nilIface)
 |.func (.func f) first captured=>match first.toList,captured.toList with
  | [],[]=>some (.fn f [])
  |_,_=>none
 |_=>none
def SK:List Value->Option (List SC)
 | []=>some []
 |v::r=>match WR v,SK r with
  |some c,some cs=>some (c::cs)
  |_,_=>none
def cB:Value->Option SV
 |.agg cs=>match SK cs.toList with
  |some l=>some (.agg l)
  |none=>none
 |v=>match WR v with
  |some c=>some (.one c)
  |none=>none
def FK(T:TypeId):Option SV:=
 match P.info? T with
 |some i=>match i.zero with
  |some z=>cB z
  |none=>none
 |none=>none
end types
def AX:List (Nat×TV)->Nat->TV
 | [],_=>.un
 |(n,x)::r,m=>bif Nat.beq n m then x else AX r m
def pb:Bool->Bool->Bool
 |true,b=>b
 |false,b=>!b
def Z7:List (Nat×Nat×Bool×TV)->Nat->Option ((Nat×Bool)×TV)
 | [],_=>none
 |(d,g,p,x)::r,t=>bif Nat.beq d t then some ((g,p),x)else Z7 r t
def Kr:List (Nat×Nat×Bool×TV)->Nat->Bool->List (Nat×Bool)
 | [],t,p=>[(t,p)]
 |(d,g,q,_)::r,t,p=>bif Nat.beq d t then(t,p)::Kr r g q else Kr r t p
def R9(tm:List (Nat×TV)):List (Nat×Nat×Bool×TV)->Nat->Bool->Option Bool
 | [],t,p=>match AX tm t with
  |.val (.one (.v (.bool b)))=>some (pb p b)
  |_=>none
 |(d,g,q,x)::r,t,p=>bif Nat.beq d t then
   (match x with
    |.val (.one (.v (.bool b)))=>match R9 tm r g q with
     |some c=>some (c&&pb p b)
     |none=>none
    |_=>none)
  else R9 tm r t p
def Wl:List (Nat×Bool)->Nat->Bool->Bool
 | [],_,_=>false
 |(t,p)::r,g,q=>(Nat.beq t g&&pb p q)||Wl r g q
def ev(s:St)(ctx:List (Nat×Bool)):Operand->Option TV
 |.tmp t=>match Z7 s.cs t with
  |some ((g,p),x)=>bif Wl ctx g p then some x else none
  |none=>some (AX s.tm t)
 |.const v=>match cB v with
  |some x=>some (.val x)
  |none=>none
 |.global g=>some (.val (.one (.gptr g)))
 |.func f=>some (.val (.one (.fn f [])))
def AR(s:St)(ctx:List (Nat×Bool))(x:Operand):Option SC:=
 match ev s ctx x with
 |some (.val (.one c))=>some c
 |_=>none
def EQ(s:St)(ctx:List (Nat×Bool))(x:Operand):Option SV:=
 match ev s ctx x with
 |some (.val v)=>some v
 |_=>none
def D9(s:St)(ctx:List (Nat×Bool)):List Operand->Option (List SV)
 | []=>some []
 |x::r=>match EQ s ctx x,D9 s ctx r with
  |some v,some vs=>some (v::vs)
  |_,_=>none
def Ac(mem:Ai)(b:Nat):Blk:=(mem[b]?).getD .gone
def vF:List SC->Option Nat
 | [c]=>match c with
  |.v (.bool b)=>some (bif b then 1 else 0)
  |.fn g []=>some (g+2)
  |.fnv (some (g,[]))=>some (g+2)
  |_=>none
 |_=>none
def It(mem:Ai):List (Nat×Nat)->Option (List Nat×Ai)
 | []=>some ([],mem)
 |(b,0)::r=>match Ac mem b with
  |.raw cs=>match vF cs,It (mem.set b .gone) r with
   |some n,some (ns,m)=>some (n::ns,m)
   |_,_=>none
  |_=>none
 |_=>none
def Da(mem:Ai)(c:SC):SC×Ai:=
 match c with
 |.fn f (p::caps)=>match It mem (p::caps)with
  |some (ns,m)=>(.fnv (some (f,ns)),m)
  |none=>(.fn f (p::caps),mem)
 |.own b=>match Ac mem b with
  |.arr τ xs=>(.sl τ xs,mem.set b (.froz τ xs))
  |.acc τ xs=>(.sl τ xs,mem.set b (.froz τ xs))
  |.froz τ xs=>(.sl τ xs,mem)
  |_=>(.undef,mem)
 |c=>(c,mem)
def ES:Ai->List SC->List SC×Ai
 |mem,[]=>([],mem)
 |mem,c::r=>match Da mem c with
  |(c',mem')=>match ES mem' r with
   |(r',mem'')=>(c'::r',mem'')
def FA(mem:Ai):SV->SV×Ai
 |.one c=>match Da mem c with
  |(c',m)=>(.one c',m)
 |.agg cs=>match ES mem cs with
  |(cs',m)=>(.agg cs',m)
def M3(mem:Ai)(τ:Shape):SC->Option (List (Ab τ))
 |.sl τ' xs=>CR τ' τ xs
 |.v (.slice none 0 0)=>some []
 |.own b=>match Ac mem b with
  |.arr τ' xs=>CR τ' τ xs
  |.acc τ' xs=>CR τ' τ xs
  |.froz τ' xs=>CR τ' τ xs
  |_=>none
 |_=>none
def lenOf(mem:Ai):SC->Option Nat
 |.sl _ xs=>some xs.length
 |.v (.slice none 0 0)=>some 0
 |.v (.string s)=>some s.size
 |.own b=>match Ac mem b with
  |.arr _ xs=>some xs.length
  |.acc _ xs=>some xs.length
  |.froz _ xs=>some xs.length
  |_=>none
 |_=>none
def M6(mem:Ai):SC->Option (List SC×Nat)
 |.ptr b off=>match Ac mem b with
  |.raw cs=>some (cs,off)
  |_=>none
 |.eptr b i off=>match Ac mem b with
  |.arr τ xs=>some (cellsOf τ (xs.getD i τ.dflt),off)
  |_=>none
 |.iptr τ x off=>some (cellsOf τ x,off)
 |_=>none
def Hu:Nat->List SC->Option (List SC)
 |0,_=>some []
 |_+1,[]=>none
 |n+1,c::r=>match Hu n r with
  |some l=>some (c::l)
  |none=>none
def DR:Nat->List SC->List SC
 |0,l=>l
 |_+1,[]=>[]
 |n+1,_::r=>DR n r
def splice:Nat->List SC->List SC->Option (List SC)
 |0,[],old=>some old
 |0,_::_,[]=>none
 |0,c::r,_::old=>match splice 0 r old with
  |some l=>some (c::l)
  |none=>none
 |_+1,_,[]=>none
 |n+1,new,c::old=>match splice n new old with
  |some l=>some (c::l)
  |none=>none
def aUZ:SC->Bool
 |.undef=>false
 |_=>true
def FC:Nat->List SC->Bool
 |0,[]=>true
 |n+1,_::r=>FC n r
 |_,_=>false
def AQ(k:IntKind)(x y:Int):Int:=k.wrap (x*2^(min y.toNat k.bits))
def AE(k:IntKind)(x y:Int):Int:=x.fdiv (2^(min y.toNat k.bits))
def Bs(k:IntKind)(x y:Int):Int:=k.wrap ((ce k.bits x &&& ce k.bits y).toNat:Int)
def Aq(k:IntKind)(x y:Int):Int:=k.wrap ((ce k.bits x ||| ce k.bits y).toNat:Int)
def cF(k:IntKind)(x y:Int):Int:=k.wrap ((ce k.bits x ^^^ ce k.bits y).toNat:Int)
def ZJ(k:IntKind)(x y:Int):Int:=k.wrap ((ce k.bits x &&& ~~~(ce k.bits y)).toNat:Int)
def aXp(k:IntKind)(x:Int):Int:=cF k (if k.signed then -1 else k.max) x
def BK(k:IntKind)(x y:Int):Int:=k.wrap (x.tdiv y)
def IB(op:BinOp)(k:FloatKind)(x y:Nat):Option Nat:=
 match op with
 |.add=>k.format.add x y
 |.sub=>k.format.sub x y
 |.mul=>k.format.mul x y
 |_=>k.format.div x y
def Nf(op:BinOp)(k:FloatKind):Option Nat->Option Nat->Option Nat
 |some x,some y=>IB op k x y
 |_,_=>none
def IA(k:FloatKind):Option Nat->Option Nat->Option Ordering
 |some x,some y=>k.format.order x y
 |_,_=>none
def R6(op:BinOp):SC->SC->Option (Bool×SC)
 |.v (.int k x),.v (.int k' y)=>
  match op with
  |.shl=>some ((match k'.signed with|true=>decide (0<=y)|false=>true),.v (.int k (AQ k x y)))
  |.shr=>some ((match k'.signed with|true=>decide (0<=y)|false=>true),.v (.int k (AE k x y)))
  |op=>if k'=k then
    match op with
    |.add=>some (true,.v (.int k (k.wrap (x+y))))
    |.sub=>some (true,.v (.int k (k.wrap (x-y))))
    |.mul=>some (true,.v (.int k (k.wrap (x*y))))
    |.quo=>some (y !=0,.v (.int k (BK k x y)))
    |.rem=>some (y !=0,.v (.int k (x.tmod y)))
    |.and=>some (true,.v (.int k (Bs k x y)))
    |.or=>some (true,.v (.int k (Aq k x y)))
    |.xor=>some (true,.v (.int k (cF k x y)))
    |.andNot=>some (true,.v (.int k (ZJ k x y)))
    |.eql=>some (true,.v (.bool (x==y)))
    |.neq=>some (true,.v (.bool (x !=y)))
    |.lss=>some (true,.v (.bool (decide (x<y))))
    |.leq=>some (true,.v (.bool (decide (x<=y))))
    |.gtr=>some (true,.v (.bool (decide (x>y))))
    |.geq=>some (true,.v (.bool (decide (x>=y))))
    |_=>none
   else none
 |.v (.bool x),.v (.bool y)=>
  match op with
  |.eql=>some (true,.v (.bool (x==y)))
  |.neq=>some (true,.v (.bool (!(x==y))))
  |_=>none
 |.v (.string x),.v (.string y)=>
  match op with
  |.add=>some (Nat.blt (x.size+y.size) 9223372036854775808,.v (.string (x++y)))
  |.eql=>some (true,.v (.bool (x.toList==y.toList)))
  |.neq=>some (true,.v (.bool (x.toList !=y.toList)))
  |_=>none
 |.fl k x,.fl k' y=>
  if k'=k then
   match op with
   |.eql=>some (true,.v (.bool (IA k x y==some .eq)))
   |.neq=>some (true,.v (.bool (IA k x y !=some .eq)))
   |.lss=>some (true,.v (.bool (IA k x y==some .lt)))
   |.leq=>some (true,.v (.bool (IA k x y==some .lt||IA k x y==some .eq)))
   |.gtr=>some (true,.v (.bool (IA k x y==some .gt)))
   |.geq=>some (true,.v (.bool (IA k x y==some .gt||IA k x y==some .eq)))
   |.add=>some (true,.fl k (Nf .add k x y))
   |.sub=>some (true,.fl k (Nf .sub k x y))
   |.mul=>some (true,.fl k (Nf .mul k x y))
   |.quo=>some (true,.fl k (Nf .quo k x y))
   |_=>none
  else none
 |.cx k x x',.cx k' y y' =>
  if k'=k then
   match op with
   |.add=>some (true,.cx k (Nf .add k x y) (Nf .add k x' y'))
   |.sub=>some (true,.cx k (Nf .sub k x y) (Nf .sub k x' y'))
   |_=>none
  else none
 |_,_=>none
def yO(op:BinOp)(a b:SC):Option Bool:=
 match b with
 |.v (.pointer none)=>match a with
  |.ptr _ _=>match op with
   |.eql=>some false
   |.neq=>some true
   |_=>none
  |.v (.pointer none)=>match op with
   |.eql=>some true
   |.neq=>some false
   |_=>none
  |_=>none
 |_=>none
def xC(P:Program)(T:TypeId):Bool:=match P.underlying T with|some .bool=>true|_=>false
def aKQ(P:Program)(T:TypeId):SC->Bool
 |.v (.bool _)=>xC P T
 |_=>true
def vV(P:Program)(T:TypeId):SC->SC->Option Bool
 |.v (.int k x),.v (.int k' y)=>match P.underlying T with
  |some (.int _)=>if k'=k then some (x==y)else none
  |_=>none
 |.v (.bool x),.v (.bool y)=>match P.underlying T with
  |some .bool=>some (x==y)
  |_=>none
 |_,_=>none
def Na(P:Program):Nat->List Field->List SC->List SC->Option Bool
 |0,_,_,_=>none
 |_+1,[],_,_=>some true
 | k + 1, f :: fs, as, bs => bif f.name != "_" then
   (match(match Hb P f.type with
    |some true=>(match P.underlying f.type with
     |some (.struct gs)=>bif P.stoodInHeld f.type then none else(match Hu (P.cellsOf f.type) (DR f.offset as),Hu (P.cellsOf f.type) (DR f.offset bs)with
      |some a,some b=>Na P k gs.toList a b
      |_,_=>none)
     |_=>none)
    |some false=>(match DR f.offset as,DR f.offset bs with
     |a::_,b::_=>vV P f.type a b
     |_,_=>none)
    |none=>none),Na P k fs as bs with
    |some x,some r=>match fs with
     | []=>some x
     |_::_=>some (x&&r)
    |_,_=>none)
  else none
def unV(op:UnOp):SC->Option SC
 |.v (.int k n)=>match op with
  |.neg=>some (.v (.int k (k.wrap (0-n))))
  |.xor=>some (.v (.int k (aXp k n)))
  |_=>none
 |.v (.bool b)=>match op with
  |.not=>some (.v (.bool !b))
  |_=>none
 |_=>none
inductive LK where
 |win (e:Shape)
 |ref (τ:Shape)
@[reducible] def LK.D:LK->Type
 |.win e=>List (Ab e)×Nat×Nat
 |.ref τ=>Ab τ
@[reducible] def LK.B:LK->Type
 |.win e=>List (Ab e)
 |.ref τ=>Ab τ
abbrev Aa:=List (Bool×Shape)
@[reducible] def DenS:Aa->Type
 | []=>Unit
 |(_,τ)::r=>Ab τ×DenS r
@[reducible] def DenS.dflt0:(S:Aa)->DenS S
 | []=>()
 |(_,τ)::r=>(τ.dflt,DenS.dflt0 r)
def DW(mem:Ai)(a:Bool)(τ:Shape)(z:SV):Option (Ab τ×Ai):=
 match z with
 |.one c=>bif a then none else(match Cl τ [c]with
  |some (y,[])=>some (y,mem)
  |_=>none)
 |.agg cs=>bif a then(match Cl τ cs with
  |some (y,[])=>some (y,mem)
  |_=>none)else none
def IP(mem:Ai)(a:Bool):(τ:Shape)->SV->Option (Ab τ×Ai)
 |.slice e,z=>bif a then(match z with
  |.one (.own b)=>(match Ac mem b with
   |.arr τ' xs=>(match CR τ' e xs with
    |some xs'=>some (xs',mem.set b .gone)
    |none=>none)
   |.acc τ' xs=>(match CR τ' e xs with
    |some xs'=>some (xs',mem.set b .gone)
    |none=>none)
   |_=>none)
  |.one (.v (.slice none 0 0))=>some ([],mem)
  |_=>none)else DW mem false (.slice e) z
 |.int k,z=>DW mem a (.int k) z
 |.flt k,z=>DW mem a (.flt k) z
 |.bool,z=>DW mem a .bool z
 |.str,z=>DW mem a .str z
 |.fn,z=>DW mem a .fn z
 |.unit,z=>DW mem a .unit z
 |.pair σ τ,z=>DW mem a (.pair σ τ) z
 |.box σ,z=>DW mem a (.box σ) z
 |.ifc,z=>DW mem a .ifc z
 |.pfn,z=>DW mem a .pfn z
 |.cx k,z=>DW mem a (.cx k) z
def CM:Ai->(S:Aa)->List SV->Option (DenS S×Ai)
 |mem,[],[]=>some ((),mem)
 |mem,(a,τ)::S,z::r=>match IP mem a τ z with
  |some (x,m1)=>(match CM m1 S r with
   |some (y,m2)=>some ((x,y),m2)
   |none=>none)
  |none=>none
 |_,_,_=>none
def KE(a:Bool):Shape->Bool
 |.slice _=>a
 |_=>false
def Ba:Ai->Aa->List SV->List SV×Ai
 |mem,[],r=>(r,mem)
 |mem,_::_,[]=>([],mem)
 |mem,(a,τ)::S,z::r=>bif KE a τ then(match Ba mem S r with
   |(r',m')=>(z::r',m'))
  else(match FA mem z with
   |(z',m1)=>(match Ba m1 S r with
    |(r',m')=>(z'::r',m')))
def DI(mem:Ai)(a:Bool):(τ:Shape)->Ab τ->Option (SV×Ai)
 |.slice e,x=>bif a then some (.one (.own mem.length),mem++[.arr e x])else(match cellsOf (.slice e) x with
  | [c]=>some (.one c,mem)
  |_=>none)
 |.int k,x=>giveP mem a (.int k) x
 |.flt k,x=>giveP mem a (.flt k) x
 |.bool,x=>giveP mem a .bool x
 |.str,x=>giveP mem a .str x
 |.fn,x=>giveP mem a .fn x
 |.unit,x=>giveP mem a .unit x
 |.pair σ τ,x=>giveP mem a (.pair σ τ) x
 |.box σ,x=>giveP mem a (.box σ) x
 |.ifc,x=>giveP mem a .ifc x
 |.pfn,x=>giveP mem a .pfn x
 |.cx k,x=>giveP mem a (.cx k) x
where giveP (mem:Ai) (a:Bool) (τ:Shape) (x:Ab τ):Option (SV×Ai):=
 bif a then some (.agg (cellsOf τ x),mem)else match cellsOf τ x with
  | [c]=>some (.one c,mem)
  |_=>none
def CH:Ai->(S:Aa)->DenS S->Option (List SV×Ai)
 |mem,[],_=>some ([],mem)
 |mem,(a,τ)::S,x=>match DI mem a τ x.1 with
  |some (v,m1)=>(match CH m1 S x.2 with
   |some (r,m2)=>some (v::r,m2)
   |none=>none)
  |none=>none
structure Sum where
 ins:Aa
 outs:Aa
 pre:DenS ins->Bool
 F:DenS ins->DenS outs
structure SumF where
 ins:Aa
 outs:Aa
 pre:Option (Nat×List Nat)->DenS ins->Bool
 F:Option (Nat×List Nat)->DenS ins->DenS outs
def SumF.at(S:SumF)(v:Option (Nat×List Nat)):Sum:=⟨S.ins,S.outs,S.pre v,S.F v⟩
structure SumM where
 ins:Aa
 outs:Aa
 pre:Option (Nat×List Int)->DenS ins->Bool
 F:Option (Nat×List Int)->DenS ins->DenS outs
def SumM.at(S:SumM)(d:Option (Nat×List Int)):Sum:=⟨S.ins,S.outs,S.pre d,S.F d⟩
structure SumL where
 lend:LK
 ins:Aa
 outs:Aa
 pre:lend.D×DenS ins->Bool
 F:lend.D×DenS ins->lend.B×DenS outs
def KK(mem:Ai):LK->SV->Ai
 |.win _,_=>mem
 |.ref _,z=>match z with
  |.one (.ptr b 0)=>(match Ac mem b with
   |.raw cs=>(match ES mem cs with
    |(cs',m1)=>(match Ac m1 b with
     |.raw _=>m1.set b (.raw cs')
     |_=>mem))
   |_=>mem)
  |_=>mem
def TS(mem:Ai):(k:LK)->SV->Option (Nat×k.D×Ai)
 |.win e,z=>match z with
  |.one (.sub b lo len)=>(match Ac mem b with
   |.arr τ xs=>(match CR τ e xs with
    |some xs'=>some (b,(xs',lo,len),mem.set b .gone)
    |none=>none)
   |_=>none)
  |.one (.own b)=>(match Ac mem b with
   |.arr τ xs=>(match CR τ e xs with
    |some xs'=>some (b,(xs',0,xs.length),mem.set b .gone)
    |none=>none)
   |_=>none)
  |_=>none
 |.ref τ,z=>match z with
  |.one (.ptr b 0)=>(match Ac mem b with
   |.raw cs=>(match Cl τ cs with
    |some (x,[])=>some (b,x,mem.set b .gone)
    |_=>none)
   |_=>none)
  |_=>none
def Ty(mem:Ai)(b:Nat):(k:LK)->k.B->Ai
 |.win e,xs=>mem.set b (.arr e xs)
 |.ref τ,x=>mem.set b (.raw (cellsOf τ x))
def Ww(b:Nat):SC->Bool
 |.own b'=>Nat.beq b' b
 |.ptr b' _=>Nat.beq b' b
 |.eptr b' _ _=>Nat.beq b' b
 |.sub b' _ _=>Nat.beq b' b
 |.fn _ caps=>caps.any fun p=>Nat.beq p.1 b
 |_=>false
def aIX(b:Nat):Blk->Bool
 |.raw cs=>cs.all fun c=>!(Ww b c)
 |_=>true
def wE(b:Nat)(mem:Ai):Bool:=mem.all (aIX b)
def Z1(mem:Ai):LK->SV->Bool
 |.win _,z=>match z with
  |.one (.sub b _ _)=>(match Ac mem b with|.arr _ _=>true|_=>false)
  |.one (.own b)=>(match Ac mem b with|.arr _ _=>true|_=>false)
  |_=>false
 |.ref _,z=>match z with
  |.one (.ptr b 0)=>(match Ac mem b with|.raw _=>true|_=>false)
  |_=>false
def Kv(mem:Ai)(k:LK):List SV->Bool
 | []=>false
 |z::_=>Z1 mem k z
inductive PC where
 |v (k:IntKind)|bool|str|fnv|sl (τ:Shape)|fl (k:FloatKind)
 |own (b:Nat)|ptr (b off:Nat)|gptr (g:Nat)|fn (f:FuncId)|nilp|undef|sub (b:Nat)|ifv|cx (k:FloatKind)
@[reducible] def PC.D:PC->Type
 |.v _=>Int
 |.bool=>Bool
 |.str=>ByteArray
 |.fnv=>Option (Nat×List Nat)
 |.ifv=>Option (Nat×List Int)
 |.sl τ=>List (Ab τ)
 |.fl _=>Option Nat
 |.sub _=>Nat×Nat
 |.cx _=>Option Nat×Option Nat
 |_=>Unit
@[reducible] def Uu:List PC->Type
 | []=>Unit
 |c::r=>c.D×Uu r
inductive PV where
 |one (c:PC)
 |agg (cs:List PC)
@[reducible] def PV.D:PV->Type
 |.one c=>c.D
 |.agg cs=>Uu cs
@[reducible] def Xj:List (Nat×PV)->Type
 | []=>Unit
 |(_,v)::r=>v.D×Xj r
inductive PB where
 |gone
 |raw (cs:List PC)
 |arr (τ:Shape)
 |acc (τ:Shape)
 |froz (τ:Shape)
 |itr
@[reducible] def PB.D:PB->Type
 |.gone=>Unit
 |.raw cs=>Uu cs
 |.arr τ=>List (Ab τ)
 |.acc τ=>List (Ab τ)
 |.froz τ=>List (Ab τ)
 |.itr=>ByteArray×Nat
@[reducible] def Uv:List PB->Type
 | []=>Unit
 |b::r=>b.D×Uv r
structure Pat where
 n:Nat
 tm:List (Nat×PV)
 mem:List PB
@[reducible] def Pat.D(p:Pat):Type:=Xj p.tm×Uv p.mem
def El(mem:Ai)(len:Nat):(c:PC)->SC->Option c.D
 |.v k,z=>match z with
  |.v (.int k' n)=>if k'=k then some n else none
  |_=>none
 |.bool,z=>match z with
  |.v (.bool b)=>some b
  |_=>none
 |.str,z=>match z with
  |.v (.string b)=>some b
  |_=>none
 |.fnv,z=>match z with
  |.v .nilFunc=>some none
  |.fn f []=>some (some (f,[]))
  |.fnv o=>some o
  |_=>none
 |.ifv,z=>match z with
  |.v .nilIface=>some none
  |.ifv d=>some d
  |_=>none
 |.sl τ,z=>match z with
  |.sl τ' xs=>CR τ' τ xs
  |.v (.slice none 0 0)=>some []
  |.own b=>match Ac mem b with
   |.froz τ' xs=>CR τ' τ xs
   |_=>none
  |_=>none
 |.fl k,z=>match z with
  |.fl k' o=>if k'=k then some o else none
  |_=>none
 |.cx k,z=>match z with
  |.cx k' x y=>if k'=k then some (x,y)else none
  |_=>none
 |.own b,z=>match z with
  |.own b'=>bif Nat.beq b' b&&Nat.blt b len then some ()else none
  |_=>none
 |.ptr b off,z=>match z with
  |.ptr b' off'=>bif Nat.beq b' b&&Nat.beq off' off&&Nat.blt b len then some ()else none
  |_=>none
 |.gptr g,z=>match z with
  |.gptr g'=>bif Nat.beq g' g then some ()else none
  |_=>none
 |.fn f,z=>match z with
  |.fn f' []=>bif Nat.beq f' f then some ()else none
  |_=>none
 |.nilp,z=>match z with
  |.v (.pointer none)=>some ()
  |_=>none
 |.undef,_=>some ()
 |.sub b,z=>match z with
  |.sub b' lo n=>bif Nat.beq b' b&&Nat.blt b len then some (lo,n)else none
  |_=>none
def u9:(c:PC)->c.D->SC
 |.v k,n=>.v (.int k n)
 |.bool,b=>.v (.bool b)
 |.str,b=>.v (.string b)
 |.fnv,o=>.fnv o
 |.ifv,o=>.ifv o
 |.sl τ,xs=>.sl τ xs
 |.fl k,o=>.fl k o
 |.cx k,x=>.cx k x.1 x.2
 |.own b,_=>.own b
 |.ptr b off,_=>.ptr b off
 |.gptr g,_=>.gptr g
 |.fn f,_=>.fn f []
 |.nilp,_=>.v (.pointer none)
 |.undef,_=>.undef
 |.sub b,x=>.sub b x.1 x.2
def T8(mem:Ai)(len:Nat):(l:List PC)->List SC->Option (Uu l)
 | [],[]=>some ()
 |c::r,z::zs=>match El mem len c z,T8 mem len r zs with
  |some d,some ds=>some (d,ds)
  |_,_=>none
 |_,_=>none
def jH:(l:List PC)->Uu l->List SC
 | [],_=>[]
 |c::r,x=>u9 c x.1::jH r x.2
def yZ(mem:Ai)(len:Nat):(v:PV)->TV->Option v.D
 |.one c,.val (.one z)=>El mem len c z
 |.agg cs,.val (.agg zs)=>T8 mem len cs zs
 |_,_=>none
def aHY:(v:PV)->v.D->SV
 |.one c,x=>.one (u9 c x)
 |.agg cs,x=>.agg (jH cs x)
def lU(s:St)(len:Nat):(l:List (Nat×PV))->Option (Xj l)
 | []=>some ()
 |(t,v)::r=>match yZ s.mem len v (AX s.tm t),lU s len r with
  |some d,some ds=>some (d,ds)
  |_,_=>none
def jI:(l:List (Nat×PV))->Xj l->List (Nat×TV)
 | [],_=>[]
 |(t,v)::r,x=>(t,.val (aHY v x.1))::jI r x.2
def WN(mem:Ai)(len:Nat):(b:PB)->Blk->Option b.D
 |.gone,_=>some ()
 |.raw cs,.raw zs=>T8 mem len cs zs
 |.arr τ,.arr τ' xs=>CR τ' τ xs
 |.acc τ,.acc τ' xs=>CR τ' τ xs
 |.froz τ,.froz τ' xs=>CR τ' τ xs
 |.itr,.itr s p=>some (s,p)
 |_,_=>none
def Kn:(b:PB)->b.D->Blk
 |.gone,_=>.gone
 |.raw cs,x=>.raw (jH cs x)
 |.arr τ,x=>.arr τ x
 |.acc τ,x=>.acc τ x
 |.froz τ,x=>.froz τ x
 |.itr,x=>.itr x.1 x.2
def bJ(mem:Ai)(len:Nat):(l:List PB)->List Blk->Option (Uv l)
 | [],_=>some ()
 |b::r,z::zs=>match WN mem len b z,bJ mem len r zs with
  |some d,some ds=>some (d,ds)
  |_,_=>none
 |_,_=>none
def Vt:(l:List PB)->Uv l->Ai
 | [],_=>[]
 |b::r,x=>Kn b x.1::Vt r x.2
def Ho(p:Pat)(s:St)(m:Nat:=0):Option p.D:=
 bif Nat.beq s.n p.n&&Nat.beq s.m0 m&&Nat.ble m p.mem.length then
  (match lU s p.mem.length p.tm,bJ s.mem p.mem.length p.mem s.mem with
   |some x,some y=>some (x,y)
   |_,_=>none)
 else none
def M4(p:Pat)(x:p.D)(m:Nat:=0):St:={n:=p.n,m0:=m,tm:=jI p.tm x.1,mem:=Vt p.mem x.2,cs:=[] }
structure LoopSpec where
 pat:Pat
 accs:List (Nat×Shape)
 exits:List (Nat×Pat)
 ret:Option Pat
 run:{R:Type}->pat.D->(Nat->St->Option R)->(St->Option R)->Option R
 /-- so Ss names of the caller's lie ahead -/
 m0:Nat:=0
structure Cfg where
 P:Program
 sums:List (FuncId×Sum)
 loops:List (FuncId×Nat×LoopSpec)
 globs:List (Nat×Sigma fun τ=>List (Ab τ))
 /-- are rows that are cut at their end DK the call's own? -/
 keep:Bool:=false
 /-- functions to which something is lent -/
 lsums:List (FuncId×SumL):=[]
 /-- is a row that is cut at both ends a piece of it? -/
 cut:Bool:=false
 /-- loops without a spec are followed for so Ss rounds -/
 unroll:Nat:=0
 /-- functions that are data: the call's result's type,what such a call computes -/
 fns:List (TypeId×SumF):=[]
 /-- methods of an interface's value: the name,what such a call computes -/
 meths:List (String×SumM):=[]
def Nd(mem:Ai):Aa->List SV->Bool
 | [],[]=>true
 |(a,τ)::S,z::r=>(bif KE a τ then(match z with
  |.one (.own b)=>(match Ac mem b with
   |.arr _ _=>true
   |.acc _ _=>true
   |_=>false)
  |.one (.v (.slice none 0 0))=>true
  |_=>false)else true)&&Nd mem S r
 |_,_=>false
def Iz:List (FuncId×Sum)->FuncId->Ai->List SV->Option Sum
 | [],_,_,_=>none
 |(g,S)::r,f,mem,args=>bif Nat.beq g f&&Nd mem S.ins args then some S else Iz r f mem args
def ZZ:List (FuncId×Nat×LoopSpec)->FuncId->Nat->Option LoopSpec
 | [],_,_=>none
 |(g,k,S)::r,f,n=>bif Nat.beq g f&&Nat.beq k n then some S else ZZ r f n
def Nc:List (Nat×Sigma fun τ=>List (Ab τ))->Nat->Option (Sigma fun τ=>List (Ab τ))
 | [],_=>none
 |(g,S)::r,f=>bif Nat.beq g f then some S else Nc r f
def Cfg.sum(C:Cfg)(f:FuncId)(mem:Ai)(args:List SV):Option Sum:=Iz C.sums f mem args
def Gp:List (FuncId×SumL)->FuncId->Ai->List SV->Option SumL
 | [],_,_,_=>none
 |(g,S)::r,f,mem,args=>bif Nat.beq g f&&Kv mem S.lend args then some S else Gp r f mem args
def Cfg.lsum(C:Cfg)(f:FuncId)(mem:Ai)(args:List SV):Option SumL:=Gp C.lsums f mem args
def Cfg.loop(C:Cfg)(f:FuncId)(k:Nat):Option LoopSpec:=ZZ C.loops f k
def Cfg.glob(C:Cfg)(g:Nat):Option (Sigma fun τ=>List (Ab τ)):=Nc C.globs g
def ND:List SV->TV
 | [x]=>.val x
 |l=>.tup l
def Sj(mem:Ai)(I:Aa)(args:List SV):Bool:=
 match Ba mem I args with
 |(args',m1)=>match CM m1 I args' with
  |some _=>true
  |none=>false
def Sh(mem:Ai)(T:TypeId)(args:List SV):List (TypeId×SumF)->Option SumF
 | []=>none
 |(T',S)::r=>bif Nat.beq T' T&&Sj mem S.ins args then some S else Sh mem T args r
def Si(mem:Ai)(m:String)(args:List SV):List (String×SumM)->Option SumM
 | []=>none
 |(m',S)::r=>bif m'==m&&Sj mem S.ins args then some S else Si mem m args r
def aP:List SC->Option (List Int)
 | []=>some []
 |.v (.int .i64 n)::r=>match aP r with
  |some l=>some (n::l)
  |none=>none
 |_=>none
def Fy(mem:Ai)(S:Sum)(args:List SV):Option (Bool×TV×Ai):=
 match Ba mem S.ins args with
 |(args',m1)=>match CM m1 S.ins args' with
  |some x=>match CH x.2 S.outs (S.F x.1)with
   |some (vs,mem')=>some (S.pre x.1,ND vs,mem')
   |none=>none
  |none=>none
inductive Res where
 |ok (g:Bool) (x:TV) (mem:Ai)
 |inl (f:FuncId) (args:List SV)
def EU(s:St)(ctx:List (Nat×Bool))(x:Operand):Option Int:=
 match AR s ctx x with
 |some (.v (.int _ n))=>some n
 |_=>none
def ZY(P:Program)(T:TypeId)(i:Nat):Option (Nat×TypeId):=
 match P.underlying T with
 |some (.struct fs)=>match fs.toList[i]? with
  |some f=>bif Nat.beq (P.cellsOf f.type) 0 then none else some (f.offset,f.type)
  |none=>none
 |_=>none
def CS(P:Program)(e:TypeId):Option Shape:=
 match Nx P 12 e with
 |some τ=>bif Nat.beq (P.cellsOf e) τ.width then some τ else none
 |none=>none
def IN(AY:Nat->Option (Nat×Nat)):List (Nat×SV)->List SC->Option (List SC)
 | [],old=>some old
 |(i,x)::r,old=>match AY i with
  |none=>none
  |some (off,size)=>bif FC size x.cells then
    (match splice off x.cells old with
     |some old'=>IN AY r old'
     |none=>none)
   else none
def Gn(s:St)(ctx:List (Nat×Bool)):List (Nat×Operand)->Option (List (Nat×SV))
 | []=>some []
 |(i,x)::r=>match EQ s ctx x,Gn s ctx r with
  |some v,some vs=>some ((i,v)::vs)
  |_,_=>none
def ZF:List SC->Bool
 | []=>true
 |c::r=>aUZ c&&ZF r
def DX(mem:Ai):List SV->Option (List (Nat×Nat))
 | []=>some []
 |.one (.ptr b off)::r=>match Ac mem b,DX mem r with
  |.raw _,some l=>some ((b,off)::l)
  |_,_=>none
 |_=>none
def ZH(mem:Ai):List (Nat×Nat)->Bool
 | []=>true
 |(b,_)::r=>match Ac mem b with
  |.raw _=>ZH mem r
  |_=>false
def D8(b:Nat):SC->SC
 |.own b'=>bif Nat.beq b b' then .undef else .own b'
 |c=>c
def aIz(b:Nat):SV->SV
 |.one c=>.one (D8 b c)
 |.agg cs=>.agg (cs.map (D8 b))
def TC(b:Nat):TV->TV
 |.un=>.un
 |.val x=>.val (aIz b x)
 |.tup l=>.tup (l.map (aIz b))
 |.nxt c i r=>.nxt c i r
def Se(b:Nat):Blk->Blk
 |.raw cs=>.raw (cs.map (D8 b))
 |x=>x
def cG(P:Program)(e:TypeId):Bool:=
 match FK P e with
 |some z=>FC (P.cellsOf e) z.cells
 |none=>false
def zJ(b:Bool):Bool:=(pi ⟨(⟨b,rfl⟩:{c:Bool // c=b})⟩).1
theorem aL9(b:Bool):zJ b=b:=(pi ⟨(⟨b,rfl⟩:{c:Bool // c=b})⟩).2
def zK(n:Nat)(b:Bool):Bool:=bif Nat.blt 15 n then zJ b else b
theorem bDc(n:Nat)(b:Bool):zK n b=b:=by
 unfold zK;cases Nat.blt 15 n with
 |true=>exact aL9 b
 |false=>rfl
def EV:Int:=140737488355328
def WQ(n b:Nat):Bool:=Nat.ble (n*2*b) 140737488355328
def mA:Operand->Operand->Bool
 |.tmp t,.tmp t'=>Nat.beq t t'
 |.const (.int k a),.const (.int k' b)=>decide (k=k')&&decide (a=b)
 |_,_=>false
def aLZ(mem:Ai)(τ:Shape)(b:Nat):Option (List (Ab τ)):=
 match Ac mem b with
 |.arr τ' xs=>CR τ' τ xs
 |.acc τ' xs=>CR τ' τ xs
 |_=>none
def SN(C:Cfg)(s:St)(ctx:List (Nat×Bool))(x:Operand)(lo mx:Option Operand):Option Nat:=
 bif C.keep&&lo.isNone&&mx.isNone then(match AR s ctx x with
  |some (.own b)=>(match Ac s.mem b with
   |.arr _ _=>some b
   |.acc _ _=>some b
   |_=>none)
  |_=>none)else none
def NB(C:Cfg)(s:St)(ctx:List (Nat×Bool))(T:TypeId)(x:Operand)(lo hi mx:Option Operand):Option (Bool×SC):=
 match mx,AR s ctx x with
 |none,some (.own b)=>bif C.cut then(match lo,hi,C.P.underlying T,Ac s.mem b with
  |some l,some h,some (.slice e),.arr τ' xs=>(match CS C.P e,EU s ctx l,EU s ctx h with
   |some τ,some l,some h=>if τ'=τ then some (decide (0<=l)&&decide (l<=h)&&decide (h<=(xs.length:Int)),.sub b l.toNat (h.toNat-l.toNat))else none
   |_,_,_=>none)
  |_,_,_,_=>none)else none
 |none,some (.ptr b 0)=>(match lo,hi,C.P.underlying T,Ac s.mem b with
  |none,none,some (.array n e),.arr τ' xs=>(match CS C.P e with
   |some τ=>if τ'=τ then(bif Nat.beq xs.length n then some (true,.sub b 0 xs.length)else none)else none
   |none=>none)
  |_,_,_,_=>none)
 |_,_=>none
def As(C:Cfg)(s:St)(ctx:List (Nat×Bool))(o:Oper):Option Res:=
 let P:=C.P
 match o.op with
 |.move x=>match ev s ctx x with
  |some v=>some (.ok true v s.mem)
  |none=>none
 |.assign x=>match ev s ctx x with
  |some v=>some (.ok true v s.mem)
  |none=>none
 |.pick c a b=>match c with
  |.tmp t=>match AR s ctx (.tmp t),AR s ((t,true)::ctx) a,AR s ((t,false)::ctx) b with
   |some (.v (.bool cb)),some (.v (.bool x)),some (.v (.bool y))=>
    (match a,b with
     |.const _,_=>(match x with
      |true=>some (.ok true (.val (.one (.v (.bool (cb||y))))) s.mem)
      |false=>some (.ok true (.val (.one (.v (.bool (bif cb then x else y))))) s.mem))
     |_,.const _=>(match y with
      |false=>some (.ok true (.val (.one (.v (.bool (cb&&x))))) s.mem)
      |true=>some (.ok true (.val (.one (.v (.bool (bif cb then x else y))))) s.mem))
     |_,_=>some (.ok true (.val (.one (.v (.bool (bif cb then x else y))))) s.mem))
   |_,_,_=>none
  |_=>none
 |.alloc T=>match FK P T,P.underlying T with
  |some z,some (.array n e)=>match CS P e with
   |some τ=>match Ss τ n z.cells with
    |some xs=>some (.ok true (.val (.one (.ptr s.mem.length 0))) (s.mem++[.arr τ xs]))
    |none=>none
   |none=>none
  |some z,some _=>some (.ok true (.val (.one (.ptr s.mem.length 0))) (s.mem++[.raw z.cells]))
  |_,_=>none
 |.box T x=>match EQ s ctx x,P.underlying T with
  |some v,some (.array n e)=>match CS P e with
   |some τ=>match Ss τ n v.cells with
    |some xs=>some (.ok true (.val (.one (.ptr s.mem.length 0))) (s.mem++[.arr τ xs]))
    |none=>none
   |none=>none
  |some v,some _=>some (.ok true (.val (.one (.ptr s.mem.length 0))) (s.mem++[.raw v.cells]))
  |_,_=>none
 |.build T parts=>match FK P T,Gn s ctx parts.toList,P.underlying T with
  |some z,some ps,some (.struct fs)=>bif fs.toList.all (fun f=>(P.info? f.type).isSome)then
   (match IN (fun i=>match fs.toList[i]? with|some f=>some (f.offset,P.cellsOf f.type)|none=>none) ps z.cells with
    |some cs=>some (.ok true (.val (.agg cs)) s.mem)
    |none=>none)
   else none
  |some z,some ps,some (.array _ e)=>bif(P.info? e).isSome then
   (match IN (fun i=>some (i*P.cellsOf e,P.cellsOf e)) ps z.cells with
    |some cs=>some (.ok true (.val (.agg cs)) s.mem)
    |none=>none)
   else none
  |_,_,_=>none
 |.buildSlice T n parts=>match P.underlying T with
  |some (.slice e)=>match CS P e,FK P e,Gn s ctx parts.toList with
   |some τ,some z,some ps=>
    bif Nat.beq n 0&&ps.isEmpty then some (.ok true (.val (.one (.own s.mem.length))) (s.mem++[.acc τ []]))else
    (match IN (fun i=>some (i*P.cellsOf e,P.cellsOf e)) ps ((ar n z.cells).flatten)with
     |some cs=>match ES s.mem cs with
      |(cs',mem')=>match Ss τ n cs' with
       |some xs=>bif Nat.ble (n*P.cellsOf e) 16777216&&Nat.blt 0 (P.cellsOf e)&&FC (P.cellsOf e) z.cells&&Nat.blt 0 n then some (.ok true (.val (.one (.sl τ xs))) mem')else none
       |none=>none
     |none=>none)
   |_,_,_=>none
  |_=>none
 |.load T x=>match AR s ctx x with
  |some a=>match M6 s.mem a,Hb P T with
   |some (cs,off),some true=>match Hu (P.cellsOf T) (DR off cs)with
    |some l=>some (.ok true (.val (.agg l)) s.mem)
    |none=>none
   |some (cs,off),some false=>match DR off cs with
    |c::_=>some (.ok true (.val (.one c)) s.mem)
    | []=>none
   |_,_=>none
  |none=>none
 |.store T x y=>match AR s ctx x,EQ s ctx y with
  |some (.ptr b off),some v=>match Ac s.mem b with
   |.raw cs=>bif FC (P.cellsOf T) v.cells&&ZF v.cells&&Nat.blt 0 (P.cellsOf T)then
     (match splice off v.cells cs with
      |some cs'=>some (.ok true .un (s.mem.set b (.raw cs')))
      |none=>none)
    else none
   |_=>none
  |some (.eptr b i off),some v=>match FA s.mem v with
   |(v',mem')=>match Ac mem' b with
    |.arr τ xs=>bif FC (P.cellsOf T) v'.cells&&ZF v'.cells&&Nat.blt 0 (P.cellsOf T)then
      (match splice off v'.cells (cellsOf τ (xs.getD i τ.dflt))with
       |some cs'=>match Cl τ cs' with
        |some (x',[])=>some (.ok true .un (mem'.set b (.arr τ (xs.set i x'))))
        |_=>none
       |none=>none)
     else none
    |_=>none
  |_,_=>none
 |.nilCheck x=>match ev s ctx x with
  |some (.val (.one (.ptr b off)))=>match Ac s.mem b with
   |.raw _=>some (.ok true (.val (.one (.ptr b off))) s.mem)
   |_=>none
  |_=>none
 |.binOp op T x y _=>match EQ s ctx x,EQ s ctx y with
  |some (.one a),some (.one b)=>bif aKQ P T a then
    (match R6 op a b with
     |some (g,c)=>some (.ok g (.val (.one c)) s.mem)
     |none=>match yO op a b,P.underlying T with
      |some r,some (.pointer _)=>some (.ok true (.val (.one (.v (.bool r)))) s.mem)
      |_,_=>none)
   else none
  |some (.agg a),some (.agg b)=>match P.underlying T with
   |some (.struct fs)=>bif !(P.eqGuardType P.depth T)&&!(P.stoodInHeld T)then
     (match op,Na P 40 fs.toList a b with
      |.eql,some r=>some (.ok true (.val (.one (.v (.bool r)))) s.mem)
      |.neq,some r=>some (.ok true (.val (.one (.v (.bool !r)))) s.mem)
      |_,_=>none)
    else none
   |_=>none
  |_,_=>none
 |.unOp op _ x=>match AR s ctx x with
  |some a=>match unV op a with
   |some c=>some (.ok true (.val (.one c)) s.mem)
   |none=>none
  |none=>none
 |.convert src dst x=>match P.underlying dst,AR s ctx x with
  |some (.int k),some (.v (.int _ n))=>match P.underlying src with
   |some _=>some (.ok true (.val (.one (.v (.int k (k.wrap n))))) s.mem)
   |none=>none
  |_,_=>none
 |.makeSlice T l c=>match P.underlying T,EU s ctx l,EU s ctx c with
  |some (.slice e),some n,some m=>match CS P e,FK P e with
   |some τ,some z=>match Cl τ z.cells with
    |some (d,[])=>
     bif mA l c&&Nat.blt 0 (P.cellsOf e)&&Nat.blt 0 (P.bytesOf e)then
      some (.ok (decide (0<=n)&&decide (n*(P.bytesOf e:Int)<=EV)) (.val (.one (.own s.mem.length))) (s.mem++[.arr τ (ar n.toNat d)]))
     else bif Nat.blt 0 (P.cellsOf e)&&Nat.blt 0 (P.bytesOf e)then
      some (.ok (decide (0<=n)&&decide (n<=m)&&decide (m*(P.bytesOf e:Int)<=EV)) (.val (.one (.own s.mem.length))) (s.mem++[.acc τ (ar n.toNat d)]))
     else none
    |_=>none
   |_,_=>none
  |_,_,_=>none
 |.slice T x lo hi mx=>match NB C s ctx T x lo hi mx with
  |some (g,c)=>some (.ok g (.val (.one c)) s.mem)
  |none=>match SN C s ctx x lo mx with
  |some b=>(match P.underlying T with
   |some (.slice e)=>(match CS P e with
    |some τ=>(match aLZ s.mem τ b with
     |some xs=>(match(match hi with|none=>some (xs.length:Int)|some a=>EU s ctx a)with
      |some h=>some (.ok (decide (0<=h)&&decide (h<=(xs.length:Int))) (.val (.one (.own s.mem.length))) (s.mem.set b .gone++[.arr τ (xs.take h.toNat)]))
      |none=>none)
     |none=>none)
    |none=>none)
   |_=>none)
  |none=>match mx,P.underlying T,AR s ctx x with
  |none,some (.slice e),some c=>match CS P e with
   |some τ=>match Da s.mem c with
    |(c',mem')=>match M3 mem' τ c' with
     |some xs=>
      (match(match lo with|none=>some (0:Int)|some a=>EU s ctx a),(match hi with|none=>some (xs.length:Int)|some a=>EU s ctx a)with
       |some l,some h=>some (.ok (decide (0<=l)&&decide (l<=h)&&decide (h<=(xs.length:Int))) (.val (.one (.sl τ ((xs.take h.toNat).drop l.toNat)))) mem')
       |_,_=>none)
     |none=>none
   |none=>none
  |_,_,_=>none
 |.fieldAddr T x i=>match AR s ctx x,ZY P T i with
  |some (.ptr b off),some (d,_)=>match Ac s.mem b with
   |.raw _=>some (.ok true (.val (.one (.ptr b (off+d)))) s.mem)
   |_=>none
  |some (.eptr b j off),some (d,_)=>match Ac s.mem b with
   |.arr _ _=>some (.ok true (.val (.one (.eptr b j (off+d)))) s.mem)
   |_=>none
  |some (.iptr τ y off),some (d,_)=>some (.ok true (.val (.one (.iptr τ y (off+d)))) s.mem)
  |_,_=>none
 |.field T x i=>match EQ s ctx x,ZY P T i with
  |some (.agg cs),some (d,ft)=>match Hb P ft with
   |some true=>match Hu (P.cellsOf ft) (DR d cs)with
    |some l=>some (.ok true (.val (.agg l)) s.mem)
    |none=>none
   |some false=>match DR d cs with
    |c::_=>some (.ok true (.val (.one c)) s.mem)
    | []=>none
   |none=>none
  |_,_=>none
 |.indexAddr T x ix=>match P.underlying T,AR s ctx x,EU s ctx ix with
  |some (.array n e),some (.gptr g),some i=>match C.glob g,CS P e with
   |some ⟨τ,xs⟩,some τ'=>if τ'=τ then
     bif Nat.beq xs.length n then some (.ok (zK n (decide (0<=i)&&decide (i<(n:Int)))) (.val (.one (.iptr τ (xs.getD i.toNat τ.dflt) 0))) s.mem)else none
    else none
   |_,_=>none
  |some (.array n e),some (.ptr b 0),some i=>match Ac s.mem b,CS P e with
   |.arr τ xs,some τ'=>if τ'=τ then
     some (.ok (decide (0<=i)&&decide (i<(n:Int))&&decide (i<(xs.length:Int))) (.val (.one (.eptr b i.toNat 0))) s.mem)
    else none
   |_,_=>none
  |some (.slice e),some c,some i=>match CS P e with
   |some τ=>match c with
    |.own b=>match Ac s.mem b with
     |.arr τ' xs=>if τ'=τ then
       some (.ok (decide (0<=i)&&decide (i<(xs.length:Int))) (.val (.one (.eptr b i.toNat 0))) s.mem)
      else none
     |.acc τ' xs=>if τ'=τ then
       some (.ok (decide (0<=i)&&decide (i<(xs.length:Int))) (.val (.one (.iptr τ' (xs.getD i.toNat τ'.dflt) 0))) (s.mem.set b (.froz τ' xs)))
      else none
     |.froz τ' xs=>if τ'=τ then
       some (.ok (decide (0<=i)&&decide (i<(xs.length:Int))) (.val (.one (.iptr τ' (xs.getD i.toNat τ'.dflt) 0))) s.mem)
      else none
     |_=>none
    |.sl τ' xs=>if τ'=τ then
      some (.ok (decide (0<=i)&&decide (i<(xs.length:Int))) (.val (.one (.iptr τ' (xs.getD i.toNat τ'.dflt) 0))) s.mem)
     else none
    |.sub b lo n=>match Ac s.mem b with
     |.arr τ' _=>if τ'=τ then
       some (.ok (decide (0<=i)&&decide (i<(n:Int))) (.val (.one (.eptr b (lo+i.toNat) 0))) s.mem)
      else none
     |_=>none
    |_=>none
   |none=>none
  |_,_,_=>none
 |.index T x ix=>match P.underlying T,AR s ctx x,EU s ctx ix with
  |some .string,some (.v (.string str)),some i=>
   some (.ok (decide (0<=i)&&decide (i<(str.size:Int))) (.val (.one (.v (.int .u8 ((str.data.toList.getD i.toNat 0).toNat:Int))))) s.mem)
  |_,_,_=>none
 |.extract x i=>match ev s ctx x with
  |some (.tup l)=>match l[i]? with
   |some v=>some (.ok true (.val v) s.mem)
   |none=>none
  |some (.nxt c j r)=>match i with
   |0=>some (.ok true (.val (.one (.v (.bool c)))) s.mem)
   |1=>some (.ok c (.val (.one (.v (.int .i64 j)))) s.mem)
   |2=>some (.ok c (.val (.one (.v (.int .i32 r)))) s.mem)
   |_=>none
  |_=>none
 |.range T x=>match P.underlying T,AR s ctx x with
  |some .string,some (.v (.string str))=>some (.ok true (.val (.one (.ptr s.mem.length 0))) (s.mem++[.itr str 0]))
  |_,_=>none
 |.next x st=>match st,AR s ctx x with
  |true,some (.ptr b 0)=>match Ac s.mem b with
   |.itr str pos=>some (.ok true (.nxt (Nat.blt pos str.size) (pos:Int) ((Utf8.decode str pos).1:Int)) (s.mem.set b (.itr str (bif Nat.blt pos str.size then pos+(Utf8.decode str pos).2 else pos))))
   |_=>none
  |_,_=>none
 |.makeFunc fn first captured=>match fn,first.toList,captured.toList with
  |.func f,[],caps=>match D9 s ctx caps with
   |some vs=>match DX s.mem vs with
    |some cl=>some (.ok true (.val (.one (.fn f cl))) s.mem)
    |none=>none
   |none=>none
  |_,_,_=>none
 |.makeInterface T x=>match EQ s ctx x,P.underlying T with
  |some (.agg cs),some (.struct _)=>match aP cs with
   |some ns=>some (.ok true (.val (.one (.ifv (some (T,ns))))) s.mem)
   |none=>none
  |_,_=>none
 |.call c=>match c.callee with
  |.builtin .len=>match c.args.toList,c.argTypes.toList with
   | [x],[T]=>match P.underlying T with
    |some (.array n _)=>bif Nat.blt n 9223372036854775808 then some (.ok true (.val (.one (.v (.int .i64 (n:Int))))) s.mem)else none
    |some (.slice _)=>match AR s ctx x with
     |some a=>match a with
      |.v (.string _)=>none
      |.sub b _ n=>(match Ac s.mem b with
       |.arr _ _=>some (.ok true (.val (.one (.v (.int .i64 (n:Int))))) s.mem)
       |_=>none)
      |a=>match lenOf s.mem a with
       |some n=>some (.ok true (.val (.one (.v (.int .i64 (n:Int))))) s.mem)
       |none=>none
     |none=>none
    |some .string=>match AR s ctx x with
     |some (.v (.string str))=>some (.ok true (.val (.one (.v (.int .i64 (str.size:Int))))) s.mem)
     |_=>none
    |_=>none
   |_,_=>none
  |.builtin .min=>match c.args.toList with
   | [x,y]=>match AR s ctx x,AR s ctx y with
    |some (.v (.int k a)),some (.v (.int k' b))=>if k'=k then some (.ok true (.val (.one (.v (.int k (if b<a then b else a))))) s.mem)else none
    |_,_=>none
   |_=>none
  |.builtin .max=>match c.args.toList with
   | [x,y]=>match AR s ctx x,AR s ctx y with
    |some (.v (.int k a)),some (.v (.int k' b))=>if k'=k then some (.ok true (.val (.one (.v (.int k (if b>a then b else a))))) s.mem)else none
    |_,_=>none
   |_=>none
  |.builtin .complex=>match c.args.toList with
   | [x,y]=>match AR s ctx x,AR s ctx y with
    |some (.fl k a),some (.fl k' b)=>if k'=k then some (.ok true (.val (.one (.cx k a b))) s.mem)else none
    |_,_=>none
   |_=>none
  |.builtin .real=>match c.args.toList with
   | [x]=>match AR s ctx x with
    |some (.cx k a _)=>some (.ok true (.val (.one (.fl k a))) s.mem)
    |_=>none
   |_=>none
  |.builtin .imag=>match c.args.toList with
   | [x]=>match AR s ctx x with
    |some (.cx k _ b)=>some (.ok true (.val (.one (.fl k b))) s.mem)
    |_=>none
   |_=>none
  |.builtin .append=>match c.args.toList,c.argTypes.toList with
   | [x,y],T::T2::_=>match P.underlying T,P.underlying T2,AR s ctx x,AR s ctx y with
    |some (.slice e),some (.slice _),some a,some yc=>match CS P e with
     |some τ=>match Da s.mem yc with
      |(yc',mem')=>match M3 mem' τ yc',a with
       |some ys,.v (.slice none 0 0)=>
        some (.ok (WQ ys.length (P.bytesOf e)&&Nat.blt 0 (P.bytesOf e)&&cG P e) (.val (.one (.own mem'.length))) (mem'++[.acc τ ys]))
       |some ys,.own b=>match Ac mem' b with
        |.acc τ' xs=>match CR τ' τ xs with
         |some xs'=>some (.ok (WQ (xs'.length+ys.length) (P.bytesOf e)&&Nat.blt 0 (P.bytesOf e)&&cG P e) (.val (.one (.own b))) (mem'.set b (.acc τ (xs'++ys))))
         |none=>none
        |_=>none
       |_,_=>none
     |none=>none
    |_,_,_,_=>none
   |_,_=>none
  |.builtin .copy=>match c.args.toList,c.argTypes.toList with
   | [x,y],T::_=>match P.underlying T,AR s ctx x,AR s ctx y with
    |some (.slice e),some (.own b),some yc=>match CS P e with
     |some τ=>match Da s.mem yc with
      |(yc',mem')=>match M3 mem' τ yc',Ac mem' b with
       |some ys,.arr τ' xs=>match CR τ' τ xs with
        |some xs'=>some (.ok true (.val (.one (.v (.int .i64 ((min ys.length xs'.length:Nat):Int))))) (mem'.set b (.arr τ (ys.take xs'.length++xs'.drop ys.length))))
        |none=>none
       |_,_=>none
     |none=>none
    |some (.slice e),some (.sub b lo n),some yc=>match CS P e with
     |some τ=>match Da s.mem yc with
      |(yc',mem')=>match M3 mem' τ yc',Ac mem' b with
       |some ys,.arr τ' xs=>match CR τ' τ xs with
        |some xs'=>some (.ok true (.val (.one (.v (.int .i64 ((min ys.length n:Nat):Int))))) (mem'.set b (.arr τ (xs'.take lo++ys.take n++xs'.drop (lo+min ys.length n)))))
        |none=>none
       |_,_=>none
     |none=>none
    |_,_,_=>none
   |_,_=>none
  |.value fo=>match AR s ctx fo,D9 s ctx c.args.toList with
   |some (.fn f caps),some args=>
    (match(match caps,o.guard with | [],none=>C.lsum f s.mem args|_,_=>none)with
     |some L=>(match args with
      |z::rest=>(match Ba (KK s.mem L.lend z) L.ins rest with
       |(rest',m1)=>(match CM m1 L.ins rest' with
        |some (x,m2)=>(match TS m2 L.lend z with
         |some (b,xl,m3)=>(match CH (Ty m3 b L.lend (L.F (xl,x)).1) L.outs (L.F (xl,x)).2 with
          |some (vs,m4)=>some (.ok (L.pre (xl,x)) (ND vs) m4)
          |none=>none)
         |none=>none)
        |none=>none))
      | []=>none)
     |none=>match(match caps with | []=>C.sum f s.mem args|_=>none)with
     |some S=>(match Fy s.mem S args with
      |some (g,x,m)=>some (.ok g x m)
      |none=>none)
     |none=>bif ZH s.mem caps then some (.inl f (args++caps.map fun p=>.one (.ptr p.1 p.2)))else none)
   |some (.fnv v),some args=>(match Sh s.mem o.type args C.fns with
    |some S=>(match Fy s.mem (S.at v) args with
     |some (g,x,m)=>some (.ok g x m)
     |none=>none)
    |none=>none)
   |_,_=>none
  |.invoke q m=>match AR s ctx q,D9 s ctx c.args.toList with
   |some (.ifv d),some args=>(match Si s.mem m args C.meths with
    |some S=>(match Fy s.mem (S.at d) args with
     |some (g,x,m)=>some (.ok g x m)
     |none=>none)
    |none=>none)
   |_,_=>none
  |_=>none
 |_=>none
def IE:Op->Bool
 |.alloc _|.box _ _|.store _ _ _|.makeSlice _ _ _=>false
 |.call c=>match c.callee with
  |.builtin .append|.builtin .copy=>false
  |_=>true
 |.range _ _|.next _ _=>false
 |_=>true
def FE(d:Nat):List (Nat×Nat×Bool×TV)->Bool
 | []=>true
 |(e,g,_,_)::r=>!(Nat.beq e d)&&!(Nat.beq g d)&&FE d r
def SD(s:St)(o:Oper)(x:TV)(mem:Ai):Option St:=
 match o.dst with
 |none=>some {s with mem:=mem}
 |some d=>bif FE d s.cs&&Nat.blt d s.n then some {s with tm:=(d,x)::s.tm,mem:=mem}else none
def bX(o:Oper)(x:TV)(s:St)(mem:Ai):St×Ai:=
 match o.op with
 |.call c=>match c.callee with
  |.builtin .append=>match x with
   |.val (.one (.own b))=>({s with tm:=s.tm.map fun p=>(p.1,TC b p.2),cs:=s.cs.map fun p=>(p.1,p.2.1,p.2.2.1,TC b p.2.2.2)},mem.map (Se b))
   |_=>(s,mem)
  |_=>(s,mem)
 |_=>(s,mem)
def ET(ops:List Oper)(gi:Nat):Option Nat:=
 match ops[gi]? with
 |some o=>o.dst
 |none=>none
def DK(op:Op)(mem mem':Ai):Bool:=
 match op with
 |.call c=>match c.callee with
  |.builtin _=>true
  |_=>Nat.beq mem'.length mem.length
 |.slice _ _ _ _ _|.buildSlice _ _ _=>Nat.beq mem'.length mem.length
 |_=>true
def aS(op:Op)(mem mem':Ai):Bool:=
 match op with
 |.call c=>match c.callee with
  |.value _=>Nat.beq mem'.length (mem.length+1)
  |_=>false
 |.buildSlice _ _ _=>Nat.beq mem'.length (mem.length+1)
 |_=>false
inductive Step where
 |ok (g:Bool) (s:St)
 |inl (f:FuncId) (args:List SV)
 /-- under a guard: does it hold; the slots,the guard's wish -/
 |gin (c:Bool) (t d:Nat) (p:Bool) (f:FuncId) (args:List SV)
def step(C:Cfg)(ops:List Oper)(o:Oper)(s:St):Option Step:=
 match o.guard with
 |none=>match As C s [] o with
  |some (.ok g x mem)=>match bX o x s mem with
   |(s',mem')=>match SD s' o x mem' with
    |some s''=>some (.ok g s'')
    |none=>none
  |some (.inl f args)=>some (.inl f args)
  |none=>none
 |some (gi,p)=>match ET ops gi,o.dst with
  |some t,some d=>bif IE o.op&&FE d s.cs&&!(Nat.beq d t)&&Nat.blt d s.n then
    (match R9 s.tm s.cs t p,As C s (Kr s.cs t p) o with
     |some c,some (.ok g x mem)=>bif DK o.op s.mem mem then some (.ok (g||!c) {s with tm:=(d,.un)::s.tm,cs:=(d,t,p,x)::s.cs,mem:=mem})else none
     |some c,some (.inl f args)=>some (.gin c t d p f args)
     |_,_=>none)
   else none
  |_,_=>none
def BY(o:Oper):List Nat:=(o.after.toList.filter fun e=>Region.binds .any e).map (·.on)
def Gl:List (List Nat)->List Oper->List (List Nat)
 |acc,[]=>acc
 |acc,o::r=>Gl (acc++[(BY o).flatMap fun i=>i::(acc[i]?).getD []]) r
def aAa:List Operand->List Nat
 | []=>[]
 |.tmp t::r=>t::aAa r
 |_::r=>aAa r
def kR(ops:List Oper):Nat->Option (Nat×Bool)->List Nat
 |0,_=>[]
 |_+1,none=>[]
 |k+1,some (g,_)=>match ops[g]? with
  |some o=>match o.dst with
   |some t=>t::kR ops k o.guard
   |none=>kR ops k o.guard
  |none=>[]
def looks(ops:List Oper)(o:Oper):List Nat:=kR ops 12 o.guard++aAa o.op.operands.toList
def A5:Op->Nat
 |.move _|.assign _|.pick _ _ _|.binOp _ _ _ _ _|.unOp _ _ _|.convert _ _ _|.extract _ _|.build _ _|.field _ _ _|.makeInterface _ _=>0
 |.load _ _|.nilCheck _|.makeFunc _ _ _|.fieldAddr _ _ _|.buildSlice _ _ _|.indexAddr _ _ _|.index _ _ _|.slice _ _ _ _ _=>1
 |.store _ _ _|.alloc _|.box _ _=>2
 |.call c=>match c.callee with
  |.value _|.invoke _ _=>1
  |.builtin .len|.builtin .min|.builtin .max|.builtin .complex|.builtin .real|.builtin .imag=>1
  |_=>3
 |_=>3
inductive FP where
 |pure
 |rd (o:Option Nat)
 |wr (o:Option Nat)
 |mk (b:Nat)
def C2:FP->FP->Bool
 |.pure,_=>true
 |_,.pure=>true
 |.rd _,.rd _=>true
 |.rd (some b),.wr (some c)=>!(Nat.beq b c)
 |.wr (some b),.rd (some c)=>!(Nat.beq b c)
 |.wr (some b),.wr (some c)=>!(Nat.beq b c)
 |.rd (some b),.mk c=>!(Nat.beq b c)
 |.mk b,.rd (some c)=>!(Nat.beq b c)
 |.wr (some b),.mk c=>!(Nat.beq b c)
 |.mk b,.wr (some c)=>!(Nat.beq b c)
 |_,_=>false
def Hg(n:Nat):List Nat->Bool
 | []=>false
 |m::r=>Nat.beq m n||Hg n r
def M9(o:Oper)(l:List Nat):Bool:=
 match o.dst with
 |some d=>Hg d l
 |none=>false
def j1(x y:Oper):Bool:=
 match x.dst,y.dst with
 |some d,some e=>Nat.beq d e
 |_,_=>false
def xZ(ops:List Oper)(fps:List FP)(A:List (List Nat))(i j:Nat)(x y:Oper):Bool:=!(j1 x y)&&(Hg i ((A[j]?).getD [])||(!(M9 x (looks ops y))&&!(M9 y (looks ops x))&&C2 ((fps[i]?).getD (.wr none)) ((fps[j]?).getD (.wr none))))
def WA(ops:List Oper)(fps:List FP)(A:List (List Nat))(j:Nat)(y:Oper):Nat->List Oper->Bool
 |_,[]=>true
 |i,x::r=>(bif Nat.blt i j then xZ ops fps A i j x y&&WA ops fps A j y (i+1) r else true)
def Vp(j:Nat):List Nat->Bool
 | []=>true
 |i::r=>Nat.blt i j&&Vp j r
def lE(ops:List Oper)(fps:List FP)(A:List (List Nat)):Nat->List Oper->Bool
 |_,[]=>true
 |j,y::r=>Vp j (BY y)&&Nat.blt (A5 y.op) 3&&!(M9 y (looks ops y))&&WA ops fps A j y 0 ops&&(match y.guard with|some (g,_)=>Nat.blt g j|none=>true)&&lE ops fps A (j+1) r
def Wz(ops:List Oper)(fps:List FP):Bool:=lE ops fps (Gl [] ops) 0 ops
def C4(ops:List Oper)(o:Oper)(s:St):St:=
 {s with tm:=(looks ops o).map fun t=>(t,AX s.tm t),cs:=s.cs.filter fun e=>Hg e.1 (looks ops o)}
def FF:SC->Bool
 |.own _=>false
 |.sub _ _ _=>false
 |.ptr _ _=>false
 |.fn _ (_::_)=>false
 |_=>true
def AH:List SC->Bool
 | []=>true
 |c::r=>FF c&&AH r
def xW:TV->Bool
 |.un=>true
 |.val x=>AH x.cells
 |.tup l=>l.all fun x=>AH x.cells
 |.nxt _ _ _=>true
def De(s:St)(ctx:List (Nat×Bool)):List Operand->Bool
 | []=>true
 |x::r=>(match ev s ctx x with|some v=>xW v|none=>true)&&De s ctx r
def DG(s:St)(ctx:List (Nat×Bool))(op:Op):Bool:=
 match op with
 |.indexAddr _ x _=>match AR s ctx x with
  |some (.own b)=>match Ac s.mem b with
   |.acc _ _=>false
   |_=>true
  |_=>true
 |.buildSlice _ _ _=>De s ctx op.operands.toList
 |.slice _ x _ _ _=>De s ctx [x]
 |.call c=>match c.callee with
  |.builtin _=>true
  |_=>De s ctx op.operands.toList
 |_=>true
def aHV:SC->Option Nat
 |.ptr b _=>some b
 |.eptr b _ _=>some b
 |.own b=>some b
 |.sub b _ _=>some b
 |_=>none
def Ng(s:St)(ctx:List (Nat×Bool))(x:Operand):FP:=
 match AR s ctx x with
 |some c=>match aHV c with
  |some b=>.rd (some b)
  |none=>.pure
 |none=>.pure
def Ei(s:St)(ctx:List (Nat×Bool))(op:Op):FP:=
 match op with
 |.load _ x=>Ng s ctx x
 |.nilCheck x=>Ng s ctx x
 |.fieldAddr _ x _=>Ng s ctx x
 |.indexAddr _ x _=>Ng s ctx x
 |.index _ _ _=>.pure
 |.buildSlice _ _ _=>.pure
 |.makeFunc _ _ _=>.rd none
 |.store _ x y=>match AR s ctx x,EQ s ctx y with
  |some (.ptr b _),_=>.wr (some b)
  |some (.eptr b _ _),some v=>bif AH v.cells then .wr (some b)else .wr none
  |_,_=>.wr none
 |.alloc _=>.mk s.mem.length
 |.box _ _=>.mk s.mem.length
 |.call c=>match c.callee with
  |.value _=>.pure
  |.builtin .len=>match c.args.toList with
   | [x]=>Ng s ctx x
   |_=>.pure
  |_=>.pure
 |_=>.pure
def bC(C:Cfg)(s:St)(ctx:List (Nat×Bool))(op:Op):Option Nat:=
 match op with
 |.call c=>match c.callee with
  |.value fo=>match AR s ctx fo,D9 s ctx c.args.toList with
   |some (.fn f []),some (.one (.own b)::r)=>(match C.lsum f s.mem (.one (.own b)::r),C.sum f s.mem (.one (.own b)::r)with
    |none,some S=>(match S.ins with
     |(true,.slice _)::_=>bif r.all (fun z=>AH z.cells)then some b else none
     |_=>none)
    |_,_=>none)
   |_,_=>none
  |_=>none
 |_=>none
def aQ(C:Cfg)(s:St)(ctx:List (Nat×Bool))(op:Op):Option Nat:=
 match op with
 |.call c=>match c.callee with
  |.value fo=>match AR s ctx fo,D9 s ctx c.args.toList with
   |some (.fn f []),some (.one (.ptr b 0)::r)=>(match Ac s.mem b with
    |.raw cs=>bif AH cs&&r.all (fun z=>AH z.cells)then(match C.lsum f s.mem (.one (.ptr b 0)::r)with
     |some L=>(match L.lend with
      |.ref _=>some b
      |.win _=>none)
     |none=>none)else none
    |_=>none)
   |_,_=>none
  |_=>none
 |_=>none
def TF(C:Cfg)(ops:List Oper)(o:Oper)(s0:St):Option (FP×Bool×TV×Ai):=
 let s:=C4 ops o s0
 match o.guard with
 |none=>bif DG s [] o.op||Nat.beq (A5 o.op) 2 then
   (match As C s [] o with
    |some (.ok g x mem)=>bif DK o.op s.mem mem then some (Ei s [] o.op,g,x,mem)else(bif aS o.op s.mem mem then some (.mk s.mem.length,g,x,mem)else none)
    |_=>none)
  else(match bC C s [] o.op with
   |some b=>(match As C s [] o with
    |some (.ok g x mem)=>bif Nat.beq mem.length s.mem.length then some (.wr (some b),g,x,mem)else none
    |_=>none)
   |none=>(match aQ C s [] o.op with
    |some b=>(match As C s [] o with
     |some (.ok g x mem)=>bif Nat.beq mem.length s.mem.length then some (.wr (some b),g,x,mem)else none
     |_=>none)
    |none=>(match As C s [] o with
     |some (.ok g x mem)=>some (.wr none,g,x,mem)
     |_=>none)))
 |some (gi,p)=>match ET ops gi,o.dst with
  |some t,some d=>bif IE o.op&&!(Nat.beq d t)&&DG s (Kr s.cs t p) o.op then
    (match R9 s.tm s.cs t p,As C s (Kr s.cs t p) o with
     |some c,some (.ok g x mem)=>bif DK o.op s.mem mem then some (Ei s (Kr s.cs t p) o.op,g||!c,x,mem)else none
     |_,_=>none)
   else none
  |_,_=>none
def Io(ops:List Oper)(o:Oper)(s:St)(x:TV)(mem:Ai):St:=
 match o.dst with
 |none=>{s with mem:=mem}
 |some d=>match o.guard with
  |none=>{s with tm:=(d,x)::s.tm,mem:=mem}
  |some (gi,p)=>match ET ops gi with
   |some t=>{s with tm:=(d,.un)::s.tm,cs:=(d,t,p,x)::s.cs,mem:=mem}
   |none=>{s with mem:=mem}
def Sd(C:Cfg)(ops:List Oper):List Oper->St->Option (List FP×List Bool×St)
 | [],s=>some ([],[],s)
 |o::r,s=>match TF C ops o s with
  |some (fp,g,x,mem)=>bif(match o.dst with|some d=>Nat.blt d s.n|none=>true)then
    (match Sd C ops r (Io ops o s x mem)with
     |some (fps,gs,s'')=>some (fp::fps,g::gs,s'')
     |none=>none)
   else none
  |none=>none
def Af{α:Type}:List Bool->Option α->Option α
 | [],x=>x
 |g::gs,x=>bif g then Af gs x else none
def Iw(mem:Ai):SC->SC
 |.own b=>match Ac mem b with
  |.acc _ _=>.undef
  |_=>.own b
 |c=>c
def aIx(mem:Ai):SV->SV
 |.one c=>.one (Iw mem c)
 |.agg cs=>.agg (cs.map (Iw mem))
def TA(mem:Ai):TV->TV
 |.un=>.un
 |.val x=>.val (aIx mem x)
 |.tup l=>.tup (l.map (aIx mem))
 |.nxt c i r=>.nxt c i r
def ZU(s:St):St:=
 {s with tm:=s.tm.map (fun p=>(p.1,TA s.mem p.2)),cs:=s.cs.map fun p=>(p.1,p.2.1,p.2.2.1,TA s.mem p.2.2.2)}
def bH(s:St)(d t:Nat)(p:Bool)(x:TV)(mem:Ai):St:={s with tm:=(d,.un)::s.tm,cs:=(d,t,p,x)::s.cs,mem:=mem}
def bD6(P:Program)(T:TypeId):TV:=match FK P T with
 |some z=>.val z
 |none=>.un
section C9
variable {R:Type}
def Nw(C:Cfg)(inl:FuncId->List SV->Ai->(List SV->Ai->Option R)->Option R)(ops:List Oper):List Oper->St->(St->Option R)->Option R
 | [],s,k=>k s
 |o::r,s,k=>match step C ops o s with
  |some (.ok g s')=>bif g then Nw C inl ops r s' k else none
  |some (.inl f args)=>match o.guard with
   |none=>inl f args s.mem fun rs mem=>match SD (ZU s) o (ND rs) mem with
    |some s'=>Nw C inl ops r s' k
    |none=>none
   |some _=>none
  |some (.gin c t d p f args)=>bif c then inl f args s.mem (fun rs mem=>Nw C inl ops r (bH (ZU s) d t p (ND rs) mem) k)else Nw C inl ops r (bH s d t p (bD6 C.P o.type) s.mem) k
  |none=>none
def FB(s:St):Operand->St
 |.tmp t=>match AX s.tm t with
  |.val (.one (.own b))=>(match Da s.mem (.own b)with
   |(c,m)=>{s with tm:=(t,.val (.one c))::s.tm,mem:=m})
  |_=>s
 |_=>s
def Kk:List (Nat×Shape)->St->St
 | [],s=>s
 |(t,τ)::r,s=>match τ with
  |.unit=>Kk r (FB s (.tmp t))
  |_=>match AX s.tm t with
   |.val (.one (.v (.slice none 0 0)))=>Kk r {s with tm:=(t,.val (.one (.own s.mem.length)))::s.tm,mem:=s.mem++[.acc τ []] }
   |_=>Kk r s
def v4:List (Nat×Pat)->Nat->Option Pat
 | [],_=>none
 |(i,p)::r,k=>bif Nat.beq i k then some p else v4 r k
def WB(l:List (Nat×Pat))(ke:Nat->St->Option R)(id:Nat)(s:St)(m:Nat:=0):Option R:=
 match v4 l id with
 |some p=>match Ho p s m with
  |some y=>ke id (M4 p y m)
  |none=>none
 |none=>none
def lF(o:Option Pat)(kr:St->Option R)(s:St)(m:Nat:=0):Option R:=
 match o with
 |some p=>match Ho p s m with
  |some y=>kr (M4 p y m)
  |none=>none
 |none=>none
def CW{α β:Type}(φ:(α->Option β)->α->Option β):Nat->α->Option β
 |0,_=>none
 |n+1,x=>φ (CW φ n) x
def CP:Code->List Code
 |.seq a b=>CP a++CP b
 |.cond _ a b=>CP a++CP b
 |.block _ a=>CP a
 |.loop a=>a::CP a
 |_=>[]
def Db:Code->Nat
 |.region id _ _=>id
 |.seq a _=>Db a
 |.cond _ a _=>Db a
 |.block _ a=>Db a
 |.loop a=>Db a
 |_=>0
def wY:List Oper->Nat
 | []=>0
 |o::r=>bif Nat.blt (A5 o.op) 3 then wY r+1 else 0
def aV(o:Oper):Bool:=match o.guard with
 |none=>true
 |some _=>false
def jB(l:List Nat):Nat->Bool
 |0=>true
 |n+1=>Hg n l&&jB l n
def pU:Nat->List Oper->Bool
 |_,[]=>true
 |i,o::r=>aV o&&Hg i (BY o)&&Vp (i+1) (BY o)&&pU (i+1) r
def NC(H:List Oper)(n:Nat):List Oper->Bool
 | []=>true
 |o::r=>aV o&&jB ((BY o).flatMap fun i=>i::((Gl [] H)[i]?).getD []) n&&Vp n (BY o)&&pU n r
def Gq(f:Bool)(s:St)(o:Oper):St:=
 match o.op with
 |.call c=>(match c.callee with
  |.value _=>c.args.toList.foldl FB s
  |_=>s)
 |.move x=>bif f then FB s x else s
 |.slice _ x _ _ _=>bif f then FB s x else s
 |_=>s
def xI:Nat->List Oper->Nat->Nat
 |_,[],k=>k
 |i,o::r,k=>xI (i+1) r (match o.op with
  |.call c=>(match c.callee with
   |.value _=>i
   |_=>k)
  |_=>k)
def aJH:List Oper->Nat
 | []=>0
 |o::r=>bif Nat.blt (A5 o.op) 3&&(match o.op with|.slice _ _ _ _ _=>false|_=>true)then aJH r+1 else 0
def aVd(C:Cfg)(ops:List Oper)(s:St)(n:Nat)(f:Bool):Bool:=
 match Sd C (ops.take n) (ops.take n) ((ops.take n).foldl (Gq f) {s with cs:=[] })with
 |some (fps,_,_)=>Wz (ops.take n) fps&&NC (ops.take n) n (ops.drop n)
 |none=>false
def aIu(C:Cfg)(ops:List Oper)(s:St):List (Nat×Bool)->Nat×Bool
 | []=>(0,false)
 |(n,f)::r=>bif Nat.ble n ops.length&&aVd C ops s n f then(n,f)else aIu C ops s r
def aIs(C:Cfg)(ops:List Oper)(s:St):Nat×Bool:=aIu C ops s [(aJH ops,false),(wY ops,false),(wY ops,true),(xI 0 ops 0,false),(xI 0 ops 0,true)]
def kW(o:Oper):Bool:=match o.op with
 |.alloc _=>aV o
 |_=>false
def ZI:List Oper->Nat
 | []=>0
 |o::r=>bif kW o then 0 else ZI r+1
def uW:List Oper->Nat
 | []=>0
 |o::r=>bif kW o then uW r+1 else 0
def Fz:List Oper->List Nat
 | []=>[]
 |o::r=>match o.dst with
  |some d=>d::Fz r
  |none=>Fz r
def TX:List Nat->Bool
 | []=>true
 |d::r=>!(Hg d r)&&TX r
def jC:List Oper->Bool
 | []=>true
 |o::r=>kW o&&(match BY o with | []=>true|_=>false)&&(match o.dst with|some _=>true|none=>false)&&jC r
def Vv(ds:List Nat)(s:St):St:={s with tm:=ds.map (fun d=>(d,.un))++s.tm}
def Tx(P:Program):List Oper->St->Option St
 | [],s=>some s
 |o::r,s=>match o.op,o.dst with
  |.alloc T,some d=>bif Nat.blt d s.n then
    (match FK P T with
     |some z=>Tx P r {s with tm:=(d,.val (.one (.ptr s.mem.length 0)))::s.tm,mem:=s.mem++[.raw z.cells] }
     |none=>none)
   else none
  |_,_=>none
def jX(C:Cfg)(inl:FuncId->List SV->Ai->(List SV->Ai->Option R)->Option R)(ops:List Oper)(n k:Nat)(s:St)(kn:St->Option R):Option R:=
 bif Nat.blt 1 k&&Nat.ble (n+k) ops.length&&jC ((ops.drop n).take k)&&TX (Fz (ops.take (n+k)))then
  (match Sd C (ops.take n) (ops.take n) ((ops.take n).foldl (Gq false) (Vv (Fz ((ops.drop n).take k)) {s with cs:=[] }))with
   |some (fps,gs,s')=>bif Wz (ops.take n) fps&&NC (ops.take n) (n+k) (ops.drop (n+k))then
     Af gs (match Tx C.P ((ops.drop n).take k) {s' with cs:=[] }with
      |some s2=>Nw C inl ops (ops.drop (n+k)) s2 fun s''=>kn {s'' with cs:=[] }
      |none=>none)else none
   |none=>none)
 else none
def C9(C:Cfg)(inl:FuncId->List SV->Ai->(List SV->Ai->Option R)->Option R)(lp:Bool)(fid:FuncId):
  Code->St->(St->Option R)->(Nat->St->Option R)->(St->Option R)->Option R
 |.skip,s,kn,_,_=>kn s
 |.region _ ops false,s,kn,_,_=>Nw C inl ops.toList ops.toList {s with cs:=[] } fun s'=>kn {s' with cs:=[] }
 |.region _ ops true,s,kn,_,_=>match aIs C ops.toList s with
  |(n,f)=>match Sd C (ops.toList.take n) (ops.toList.take n) ((ops.toList.take n).foldl (Gq f) {s with cs:=[] })with
   |some (fps,gs,s')=>bif Nat.ble n ops.toList.length&&(Wz (ops.toList.take n) fps&&NC (ops.toList.take n) n (ops.toList.drop n))then
     Af gs (Nw C inl ops.toList (ops.toList.drop n) {s' with cs:=[] } fun s''=>kn {s'' with cs:=[] })else jX C inl ops.toList (ZI ops.toList) (uW (ops.toList.drop (ZI ops.toList))) s kn
   |none=>jX C inl ops.toList (ZI ops.toList) (uW (ops.toList.drop (ZI ops.toList))) s kn
 |.seq a b,s,kn,ke,kr=>C9 C inl lp fid a s (fun s'=>C9 C inl lp fid b s' kn ke kr) ke kr
 |.cond c a b,s,kn,ke,kr=>match AR s [] c with
  |some (.v (.bool t))=>bif t then C9 C inl lp fid a s kn ke kr else C9 C inl lp fid b s kn ke kr
  |_=>none
 |.block id a,s,kn,ke,kr=>C9 C inl lp fid a s kn (fun i s'=>bif Nat.beq i id then kn s' else ke i s') kr
 |.loop a,s,_,ke,kr=>match C.loop fid (Db a)with
  |none=>CW (fun L s'=>C9 C inl lp fid a {s' with cs:=[] } L ke kr) C.unroll s
  |some sp=>bif lp then
    (match Ho sp.pat (Kk sp.accs {s with cs:=[] }) sp.m0 with
     |some x=>sp.run x ke kr
     |none=>none)
   else none
 |.exit id,s,_,ke,_=>ke id s
 |.ret,s,_,_,kr=>kr s
 |_,_,_,_,_=>none
def SE(P:Program)(s:St):List ResultVar->Option (List SV)
 | []=>some []
 |.tmp t::r=>match AX s.tm t,SE P s r with
  |.val x,some l=>some (x::l)
  |_,_=>none
 |.cell a T::r=>match AX s.tm a,SE P s r with
  |.val (.one c),some l=>match M6 s.mem c,Hb P T with
   |some (cs,off),some true=>match Hu (P.cellsOf T) (DR off cs)with
    |some x=>some (.agg x::l)
    |none=>none
   |some (cs,off),some false=>match DR off cs with
    |x::_=>some (.one x::l)
    | []=>none
   |_,_=>none
  |_,_=>none
def Vq:Nat->List SV->List (Nat×TV)
 |_,[]=>[]
 |n,x::r=>(n,.val x)::Vq (n+1) r
def CN(P:Program)(fn:Func)(k:List SV->Ai->Option R)(s:St):Option R:=
 match SE P s fn.results.toList with
 |some rs=>k rs s.mem
 |none=>none
def ZO(C:Cfg)(inl:FuncId->List SV->Ai->(List SV->Ai->Option R)->Option R)(lp:Bool)(f:FuncId)(fn:Func)(m0:Nat)(args:List SV)(mem:Ai)(k:List SV->Ai->Option R):Option R:=
 match fn.body with
 | some c => bif Nat.ble args.length fn.ntmps && !(fn.name == "runtime.NumGoroutine") then C9 C inl lp f c { n := fn.ntmps, m0 := m0, tm := Vq 0 args, mem := mem, cs := [] } (CN C.P fn k) (fun _ _ => none) (CN C.P fn k) else none
 |none=>none
def IC(C:Cfg):Nat->FuncId->List SV->Ai->(List SV->Ai->Option R)->Option R
 |0,_,_,_,_=>none
 |d+1,f,args,mem,k=>match C.P.funcs[f]? with
  |some fn=>bif Nat.beq (fn.params.size+fn.nfree) args.length then ZO C (IC C d) (Nat.ble 2 d) f fn mem.length args mem k else none
  |none=>none
end C9
def TQ(C:Cfg)(d:Nat)(fid:FuncId)(body:Code)(sp:LoopSpec){R:Type}(ke:Nat->St->Option R)(kr:St->Option R)(L:sp.pat.D->Option R)(x:sp.pat.D):Option R:=
 C9 C (IC C d) true fid body (M4 sp.pat x sp.m0) (fun s'=>match Ho sp.pat (Kk sp.accs {s' with cs:=[] }) sp.m0 with
  |some y=>L y
  |none=>none) (fun id s=>WB sp.exits ke id s sp.m0) (fun s=>lF sp.ret kr s sp.m0)
def run(C:Cfg)(d:Nat)(f:FuncId)(fn:Func)(S T:Aa)(x:DenS S):Option (DenS T):=
 match CH [] S x with
 |some (args,m0)=>ZO C (IC C d) (Nat.ble 2 d) f fn 0 args m0 fun rs mem=>match Ba mem T rs with
  |(rs',m1)=>match CM m1 T rs' with
   |some (y,_)=>some y
   |none=>none
 |none=>none
def Z8:(k:LK)->k.D->SV×Ai
 |.win e,x=>(.one (.sub 0 x.2.1 x.2.2),[.arr e x.1])
 |.ref τ,x=>(.one (.ptr 0 0),[.raw (cellsOf τ x)])
def vT(mem:Ai):(k:LK)->Option k.B
 |.win e=>match Ac mem 0 with
  |.arr τ xs=>CR τ e xs
  |_=>none
 |.ref τ=>match Ac mem 0 with
  |.raw cs=>(match Cl τ cs with
   |some (x,[])=>some x
   |_=>none)
  |_=>none
def Em(C:Cfg)(d:Nat)(f:FuncId)(fn:Func)(k:LK)(S T:Aa)(x:k.D×DenS S):Option (k.B×DenS T):=
 match Z8 k x.1 with
 |(z,m)=>match CH m S x.2 with
  |some (args,m0)=>ZO C (IC C d) (Nat.ble 2 d) f fn 1 (z::args) m0 fun rs mem=>match Ba (KK mem k (.one (.ptr 0 0))) T rs with
   |(rs',m1)=>match CM m1 T rs' with
    |some (y,m2)=>(match vT m2 k with
     |some b=>some (b,y)
     |none=>none)
    |none=>none
  |none=>none
end Vx
namespace Vx
open Go Go.RowKit
theorem AF{α:Type}{c:Bool}{x:Option α}{y:α}(h:(bif c then x else none)=some y):c=true/\x=some y:=by
 cases c with
 |true=>exact⟨rfl,h⟩
 |false=>cases h
theorem DT{α:Type}{c:Prop}[Decidable c]{x:Option α}{y:α}(h:(if c then x else none)=some y):x=some y:=by
 split at h
 ·exact h
 ·cases h
theorem Bh{g g':Bool}{x x':TV}{m m':Ai}(h:some (Res.ok g x m)=some (Res.ok g' x' m')):m'=m:=by
 cases h;rfl
def BJ:Nat:=9223372036854775808
def scalar:Value->Prop
 |.agg _=>False
 |.tuple _=>False
 |_=>True
def Iy:FloatKind->Nat
 |.f32=>32
 |.f64=>64
def Gw(k:FloatKind)(o:Option Nat)(y:Value):Prop:=
 ∃b,y=.float k b/\b<2^Iy k/\(match o with
   |some b'=>b=b'
   |none=>(k.format.read b).isNaN=true)
def M5:Nat->Value
 |0=>.bool false
 |1=>.bool true
 |n+2=>.func (.func n) #[] #[]
def AM(w:World)(S:Nat->Prop):(τ:Shape)->Ab τ->List Value->Prop
 |.int k,n,cs=>cs=[.int k n]/\k.min<=n/\n<=k.max
 |.flt k,o,cs=>∃y,cs=[y]/\Gw k o y
 |.bool,b,cs=>cs=[.bool b]
 |.str,s,cs=>cs=[.string s]/\s.size<BJ
 |.fn,o,cs=>match o with
  |none=>cs=[.nilFunc]
  |some (f,ns)=>∃ps:List Value,cs=[.func (.func f) #[] ps.toArray]/\ps.length=ns.length /\
    ∀(i n:Nat),ns[i]? = some n->∃(r:Nat) (vs:Array Value) (T:TypeId) (fz:Nat×Nat),ps[i]? = some (il (some ⟨r,0,none⟩))/\S r/\w.heap[r]? = some (Obj.cells vs T fz)/\vs[0]? = some (M5 n)
 |.unit,_,cs=>cs=[]
 |.slice e,xs,cs=>∃A c,cs=[.slice A xs.length c]/\xs.length<=c/\c<BJ /\
   (xs≠[]->∃r o vs T fz,A=some ⟨r,o,none⟩/\S r/\w.heap[r]? = some (.cells vs T fz) /\
    ∀i x,xs[i]? = some x->∃ds,AM w S e x ds/\∀j d,ds[j]? = some d->vs[o+i*e.width+j]? = some d)
 |.pair a b,x,cs=>∃c1 c2,cs=c1++c2/\AM w S a x.1 c1/\AM w S b x.2 c2
 |.box a,x,cs=>∃r o vs T fz ds,cs=[.pointer (some ⟨r,o,none⟩)]/\S r/\w.heap[r]? = some (.cells vs T fz)/\AM w S a x ds/\∀j d,ds[j]? = some d->vs[o+j]? = some d
 |.ifc,d,cs=>match d with
  |none=>cs=[.nilIface]
  |some (T,ns)=>cs=[.iface T (.agg (ns.map (Value.int .i64)).toArray)]/\∀n∈ns,IntKind.i64.min<=n/\n<=IntKind.i64.max
 |.pfn,n,cs=>cs=[.func (.func n) #[] #[]]
 |.cx k,x,cs=>∃p q,cs=[.complex k p q]/\Gw k x.1 (.float k p)/\Gw k x.2 (.float k q)
theorem AM.len{w:World}{S:Nat->Prop}:∀{τ:Shape} {x:Ab τ} {cs:List Value},AM w S τ x cs->cs.length=τ.width
 |.int _,_,_,h=>by rw[h.1];rfl
 |.flt _,_,_,⟨_,h,_⟩=>by rw[h];rfl
 |.bool,_,_,h=>by rw[show _=_ from h];rfl
 |.str,_,_,h=>by rw[h.1];rfl
 |.fn,none,_,h=>by rw[show _=_ from h];rfl
 |.fn,some _,_,⟨_,h,_⟩=>by rw[h];rfl
 |.unit,_,_,h=>by rw[show _=_ from h];rfl
 |.slice _,_,_,⟨A,c,h,_⟩=>by rw[h];rfl
 |.pair a b,_,_,⟨c1,c2,h,h1,h2⟩=>by rw[h,dx,h1.len,h2.len];rfl
 |.box _,_,_,⟨_,_,_,_,_,_,h,_⟩=>by rw[h];rfl
 |.ifc,none,_,h=>by rw[show _=_ from h];rfl
 |.ifc,some _,_,⟨h,_⟩=>by rw[h];rfl
 |.pfn,_,_,h=>by rw[show _=_ from h];rfl
 |.cx _,_,_,⟨_,_,h,_⟩=>by rw[h];rfl
theorem AM.mono{w w':World}{S S':Nat->Prop}(hS:∀r,S r->S' r)(hH:∀r,S r->w'.heap[r]? = w.heap[r]?):
  ∀{τ:Shape} {x:Ab τ} {cs:List Value},AM w S τ x cs->AM w' S' τ x cs
 |.int _,_,_,h=>h
 |.flt _,_,_,h=>h
 |.bool,_,_,h=>h
 |.str,_,_,h=>h
 |.fn,none,_,h=>h
 |.fn,some _,_,⟨ps,h,h1,h2⟩=>⟨ps,h,h1,fun i n hi=>by
   obtain⟨r,vs,T,fz,e1,e2,e3,e4⟩:=h2 i n hi
   exact⟨r,vs,T,fz,e1,hS r e2,(hH r e2).trans e3,e4⟩⟩
 |.unit,_,_,h=>h
 |.box _,_,_,⟨r,o,vs,T,fz,ds,h,h1,h2,h3,h4⟩=>⟨r,o,vs,T,fz,ds,h,hS r h1,(hH r h1).trans h2,h3.mono hS hH,h4⟩
 |.ifc,none,_,h=>h
 |.ifc,some _,_,h=>h
 |.pfn,_,_,h=>h
 |.cx _,_,_,h=>h
 |.slice _,_,_,⟨A,c,h,h1,h2,h3⟩=>⟨A,c,h,h1,h2,fun hx=>by
   obtain⟨r,o,vs,T,fz,e1,e2,e3,e4⟩:=h3 hx
   refine⟨r,o,vs,T,fz,e1,hS r e2,(hH r e2).trans e3,fun i x hi=>?_⟩
   obtain⟨ds,d1,d2⟩:=e4 i x hi
   exact⟨ds,d1.mono hS hH,d2⟩⟩
 |.pair _ _,_,_,⟨c1,c2,h,h1,h2⟩=>⟨c1,c2,h,h1.mono hS hH,h2.mono hS hH⟩
theorem AM.scalar{w:World}{S:Nat->Prop}:∀{τ:Shape} {x:Ab τ} {cs:List Value},AM w S τ x cs->∀v∈cs,scalar v
 |.int _,_,_,h=>by rw[h.1];simp[Vx.scalar]
 |.flt _,_,_,⟨_,h,b,h1,_⟩=>by rw[h,h1];simp[Vx.scalar]
 |.bool,_,_,h=>by rw[show _=_ from h];simp[Vx.scalar]
 |.str,_,_,h=>by rw[h.1];simp[Vx.scalar]
 |.fn,none,_,h=>by rw[show _=_ from h];simp[Vx.scalar]
 |.fn,some _,_,⟨_,h,_⟩=>by rw[h];simp[Vx.scalar]
 |.box _,_,_,⟨_,_,_,_,_,_,h,_⟩=>by rw[h];simp[Vx.scalar]
 |.ifc,none,_,h=>by rw[show _=_ from h];simp[Vx.scalar]
 |.ifc,some _,_,⟨h,_⟩=>by rw[h];simp[Vx.scalar]
 |.pfn,_,_,h=>by rw[show _=_ from h];simp[Vx.scalar]
 |.cx _,_,_,⟨_,_,h,_⟩=>by rw[h];simp[Vx.scalar]
 |.unit,_,_,h=>by rw[show _=_ from h];simp
 |.slice _,_,_,⟨A,c,h,_⟩=>by rw[h];simp[Vx.scalar]
 |.pair a b,_,_,⟨c1,c2,h,h1,h2⟩=>by
  rw[h];intro v hv
  rcases List.mem_append.1 hv with hv|hv
  ·exact h1.scalar v hv
  ·exact h2.scalar v hv
structure Env where
 β:Nat->Option Nat
 κ:Nat->Nat
structure Sit where
 E:Env
 mem:Ai
 w:World
 S:Nat->Prop
def IQ:Value->Prop
 |.int k n=>k.min<=n/\n<=k.max
 |.string s=>s.size<BJ
 |.bool _=>True
 |.pointer none=>True
 |.slice none 0 0=>True
 |.nilFunc=>True
 |.nilIface=>True
 |_=>False
def xT(y:Value):Prop:=∃a,y=.pointer (some a)
theorem xT.scalar{y:Value}(h:xT y):scalar y:=by obtain⟨a,rfl⟩:=h;trivial
def Ay(σ:Sit):SC->Value->Prop
 |.undef,y=>scalar y
 |.v x,y=>y=x/\IQ x
 |.fl k o,y=>Gw k o y
 |.sl τ xs,y=>AM σ.w σ.S (.slice τ) xs [y]
 |.own b,y=>b<σ.mem.length/\scalar y/\match Ac σ.mem b with
   |.arr _ xs=>y=.slice ((σ.E.β b).map fun r=>⟨r,0,none⟩) xs.length (σ.E.κ b)
   |.acc _ xs=>y=.slice ((σ.E.β b).map fun r=>⟨r,0,none⟩) xs.length (σ.E.κ b)
   |.froz τ xs=>AM σ.w σ.S (.slice τ) xs [y]
   |_=>True
 |.ptr b off,y=>b<σ.mem.length/\xT y/\match Ac σ.mem b with
   |.gone=>True
   |.froz _ _=>True
   |.acc _ _=>True
   |_=>∃r,σ.E.β b=some r/\y=.pointer (some ⟨r,off,none⟩)
 |.eptr b i off,y=>b<σ.mem.length/\scalar y/\match Ac σ.mem b with
   |.arr τ xs=>i<xs.length/\∃r,σ.E.β b=some r/\y=.pointer (some ⟨r,i*τ.width+off,none⟩)
   |_=>True
 |.sub b lo n,y=>b<σ.mem.length/\scalar y/\match Ac σ.mem b with
   |.arr τ xs=>lo+n<=xs.length/\∃A c,y=.slice A n c/\n<=c/\c<BJ/\(0<n->∃r,σ.E.β b=some r/\A=some ⟨r,lo*τ.width,none⟩)
   |_=>True
 |.iptr τ x off,y=>∃r o vs T fz ds,y=.pointer (some ⟨r,o+off,none⟩)/\σ.S r/\σ.w.heap[r]? = some (.cells vs T fz) /\
   AM σ.w σ.S τ x ds/\∀j d,ds[j]? = some d->vs[o+j]? = some d
 |.gptr g,y=>y=.pointer (some ⟨g,0,none⟩)
 |.fnv o,y=>AM σ.w σ.S .fn o [y]
 |.ifv d,y=>AM σ.w σ.S .ifc d [y]
 |.cx k a b,y=>∃p q,y=.complex k p q/\Gw k a (.float k p)/\Gw k b (.float k q)
 |.fn f caps,y=>(∀p∈caps,p.1<σ.mem.length)/\scalar y/\((∃p∈caps,match Ac σ.mem p.1 with|.raw _=>False|_=>True) ∨
   ∃rs:List Nat,caps.map (fun p=>σ.E.β p.1)=rs.map some/\y=.func (.func f) #[] ((caps.zip rs).map fun q=>il (some ⟨q.2,q.1.2,none⟩)).toArray)
theorem Ay.scalar{σ:Sit}{c:SC}{y:Value}(h:Ay σ c y):scalar y:=by
 cases c with
 |undef=>exact h
 |v x=>obtain⟨rfl,h⟩:=h;cases y<;>simp_all [IQ,Vx.scalar]
 |fl k o=>obtain⟨b,rfl,_⟩:=h;trivial
 |sl τ xs=>exact AM.scalar h _ (by simp)
 |own b=>exact h.2.1
 |ptr b off=>exact h.2.1.scalar
 |eptr b i off=>exact h.2.1
 |sub b lo n=>exact h.2.1
 |iptr τ x off=>obtain⟨_,_,_,_,_,_,rfl,_⟩:=h;trivial
 |gptr g=>rw[show _=_ from h];trivial
 |fnv o=>exact AM.scalar h _ (by simp)
 |ifv o=>exact AM.scalar h _ (by simp)
 |cx k a b=>obtain⟨_,_,rfl,_⟩:=h;trivial
 |fn f caps=>exact h.2.1
inductive All2 {α β:Type} (R:α->β->Prop):List α->List β->Prop
 |nil:All2 R [] []
 |cons {a b as bs}:R a b->All2 R as bs->All2 R (a::as) (b::bs)
theorem All2.length{α β:Type}{R:α->β->Prop}:∀{as:List α} {bs:List β},All2 R as bs->as.length=bs.length
 |_,_,.nil=>rfl
 |_,_,.cons _ h=>by simp[h.length]
theorem All2.mono{α β:Type}{R R':α->β->Prop}(hR:∀a b,R a b->R' a b):∀{as:List α} {bs:List β},All2 R as bs->All2 R' as bs
 |_,_,.nil=>.nil
 |_,_,.cons h t=>.cons (hR _ _ h) (t.mono hR)
theorem All2.mapL{α α' β:Type}{R:α->β->Prop}{R':α'->β->Prop}(f:α->α')(hR:∀a b,R a b->R' (f a) b):∀{as:List α} {bs:List β},All2 R as bs->All2 R' (as.map f) bs
 |_,_,.nil=>.nil
 |_,_,.cons h t=>.cons (hR _ _ h) (t.mapL f hR)
theorem All2.append{α β:Type}{R:α->β->Prop}:∀{as:List α} {bs:List β} {as':List α} {bs':List β},All2 R as bs->All2 R as' bs'->All2 R (as++as') (bs++bs')
 |_,_,_,_,.nil,h=>h
 |_,_,_,_,.cons h t,h'=>.cons h (t.append h')
theorem All2.get{α β:Type}{R:α->β->Prop}:∀{as:List α} {bs:List β},All2 R as bs->∀{i:Nat} {a:α},as[i]? = some a->∃b,bs[i]? = some b/\R a b
 |_,_,.nil,i,a,h=>by simp at h
 |_,_,.cons h t,0,a,e=>by simp at e;subst e;exact⟨_,rfl,h⟩
 |_,_,.cons h t,i+1,a,e=>by simp at e;simpa using t.get e
theorem All2.split{α β:Type}{R:α->β->Prop}:∀{as as':List α} {bs:List β},All2 R (as++as') bs->∃b1 b2,bs=b1++b2/\All2 R as b1/\All2 R as' b2
 | [],_,bs,h=>⟨[],bs,rfl,.nil,h⟩
 |_::as,as',_,.cons h t=>by
  obtain⟨b1,b2,rfl,h1,h2⟩:=All2.split (as:=as) t
  exact⟨_::b1,b2,rfl,.cons h h1,h2⟩
theorem All2.of_get{α β:Type}{R:α->β->Prop}:∀{as:List α} {bs:List β},as.length=bs.length->(∀(i:Nat) (a:α),as[i]? = some a->∃b,bs[i]? = some b/\R a b)->All2 R as bs
 | [],[],_,_=>.nil
 | [],_::_,h,_=>by simp at h
 |_::_,[],h,_=>by simp at h
 |a::as,b::bs,h,hg=>by
  obtain⟨b',hb,hr⟩:=hg 0 a rfl
  simp at hb;subst hb
  exact .cons hr (All2.of_get (by simpa using h) fun i x hx=>by simpa using hg (i+1) x (by simpa using hx))
def Be(σ:Sit):SV->Value->Prop
 |.one c,y=>Ay σ c y
 |.agg cs,y=>∃ys:List Value,y=.agg ys.toArray/\All2 (Ay σ) cs ys
def A7(σ:Sit):TV->Value->Prop
 |.un,_=>True
 |.val x,y=>Be σ x y
 |.tup xs,y=>xs.length≠1/\∃ys:List Value,y=.tuple ys.toArray/\All2 (Be σ) xs ys
 |.nxt c i r,y=>match c with
  |true=>y=.tuple #[.bool true,.int .i64 i,.int .i32 r]/\IQ (.int .i64 i)/\IQ (.int .i32 r)
  |false=>y=.tuple #[.bool false]
def Bm(σ σ':Sit)(b:Nat):Prop:=
 match Ac σ.mem b with
 |.gone=>Ac σ'.mem b=.gone
 |.raw _=>(σ'.E.β b=σ.E.β b/\∃cs,Ac σ'.mem b=.raw cs)∨Ac σ'.mem b=.gone
 |.arr τ xs=>(σ'.E.β b=σ.E.β b/\σ'.E.κ b=σ.E.κ b/\∃xs':List (Ab τ),Ac σ'.mem b=.arr τ xs'/\xs'.length=xs.length) ∨
   (∃xs':List (Ab τ),Ac σ'.mem b=.froz τ xs'/\AM σ'.w σ'.S (.slice τ) xs' [.slice ((σ.E.β b).map fun r=>⟨r,0,none⟩) xs.length (σ.E.κ b)])∨Ac σ'.mem b=.gone
 |.acc τ xs=>(σ'.E.β b=σ.E.β b/\σ'.E.κ b=σ.E.κ b/\Ac σ'.mem b=.acc τ xs) ∨
   (Ac σ'.mem b=.froz τ xs/\AM σ'.w σ'.S (.slice τ) xs [.slice ((σ.E.β b).map fun r=>⟨r,0,none⟩) xs.length (σ.E.κ b)])∨Ac σ'.mem b=.gone
 |.froz τ xs=>Ac σ'.mem b=.froz τ xs
 |.itr _ _=>(σ'.E.β b=σ.E.β b/\∃s p,Ac σ'.mem b=.itr s p)∨Ac σ'.mem b=.gone
structure Goes (σ σ':Sit):Prop where
 stab:∀r,σ.S r->σ'.S r
 heap:∀r,σ.S r->σ'.w.heap[r]? = σ.w.heap[r]?
 len:σ.mem.length<=σ'.mem.length
 turns:∀b,b<σ.mem.length->Bm σ σ' b
theorem aLO{σ σ':Sit}(stab:∀r,σ.S r->σ'.S r)(heap:∀r,σ.S r->σ'.w.heap[r]? = σ.w.heap[r]?)(len:σ.mem.length<=σ'.mem.length)(B:Nat->Prop)
  (turns:∀b,b<σ.mem.length->Bm σ σ' b∨(B b/\∃τ xs τ' xs',Ac σ.mem b=.acc τ xs/\Ac σ'.mem b=.acc τ' xs')) {c:SC} {y:Value} (hc:Ay σ c y) (hB:∀b,c=.own b->¬B b):Ay σ' c y:=by
 cases c with
 |undef=>exact hc
 |v x=>exact hc
 |fl k o=>exact hc
 |sl τ xs=>exact AM.mono stab heap hc
 |own b=>
  obtain⟨hb,hs,hm⟩:=hc;refine⟨ak hb len,hs,?_⟩;have ht:=(turns b hb).resolve_right fun h=>hB b rfl h.1;unfold Bm at ht;split at hm
  ·rename_i τ xs e;rw[e]at ht;subst hm;rcases ht with⟨h1,h2,xs',h3,h4⟩|⟨xs',h1,h2⟩|h1
   ·rw[h3];simp only[h1,h2,h4]
   ·rw[h1];exact h2
   ·rw[h1];trivial
  ·rename_i τ xs e;rw[e]at ht;subst hm;rcases ht with⟨h1,h2,h3⟩|⟨h1,h2⟩|h1
   ·rw[h3];simp only[h1,h2]
   ·rw[h1];exact h2
   ·rw[h1];trivial
  ·rename_i τ xs e;rw[e]at ht;simp only at ht;rw[ht];exact AM.mono stab heap hm
  ·rename_i e1 e2 e3;cases e:Ac σ.mem b with
   |gone=>rw[e]at ht;simp only at ht;rw[ht];trivial
   |raw cs=>rw[e]at ht;simp only at ht;rcases ht with⟨_,cs',h2⟩|h2<;>(rw[h2];trivial)
   |arr τ xs=>exact absurd e (e1 τ xs)
   |acc τ xs=>exact absurd e (e2 τ xs)
   |froz τ xs=>exact absurd e (e3 τ xs)
   |itr str p=>rw[e]at ht;simp only at ht;rcases ht with⟨_,_,_,h2⟩|h2<;>(rw[h2];trivial)
 |ptr b off=>
  obtain⟨hb,hs,hm⟩:=hc;refine⟨ak hb len,hs,?_⟩;rcases turns b hb with ht|⟨_,_,_,_,_,_,e2⟩;case inr=>rw[e2];trivial
  unfold Bm at ht;cases e:Ac σ.mem b with
  |gone=>rw[e]at ht;simp only at ht;rw[ht];trivial
  |raw cs=>
   rw[e]at ht hm;simp only at ht hm;rcases ht with⟨h1,cs',h2⟩|h2
   ·rw[h2];obtain⟨r,hr,e⟩:=hm;exact⟨r,h1.trans hr,e⟩
   ·rw[h2];trivial
  |arr τ xs=>
   rw[e]at ht hm;simp only at ht hm;rcases ht with⟨h1,_,xs',h2,h3⟩|⟨_,h1,h2⟩|h1
   ·rw[h2];obtain⟨r,hr,e⟩:=hm;exact⟨r,h1.trans hr,e⟩
   ·rw[h1];trivial
   ·rw[h1];trivial
  |acc τ xs=>
   rw[e]at ht hm;simp only at ht hm;rcases ht with⟨h1,h2,h3⟩|⟨h1,h2⟩|h1
   ·rw[h3];trivial
   ·rw[h1];trivial
   ·rw[h1];trivial
  |froz τ xs=>rw[e]at ht;simp only at ht;rw[ht];trivial
  |itr str p=>
   rw[e]at ht hm;simp only at ht hm;rcases ht with⟨h1,_,_,h2⟩|h2
   ·rw[h2];obtain⟨r,hr,e⟩:=hm;exact⟨r,h1.trans hr,e⟩
   ·rw[h2];trivial
 |eptr b i off=>
  obtain⟨hb,hs,hm⟩:=hc;refine⟨ak hb len,hs,?_⟩;rcases turns b hb with ht|⟨_,_,_,_,_,_,e2⟩;case inr=>rw[e2];trivial
  unfold Bm at ht;cases e:Ac σ.mem b with
  |gone=>rw[e]at ht;simp only at ht;rw[ht];trivial
  |raw cs=>rw[e]at ht;simp only at ht;rcases ht with⟨_,cs',h2⟩|h2<;>(rw[h2];trivial)
  |arr τ xs=>
   rw[e]at ht hm;simp only at ht hm;rcases ht with⟨h1,_,xs',h2,h3⟩|⟨_,h1,h2⟩|h1
   ·rw[h2];obtain⟨hi,r,hr,e⟩:=hm;exact⟨by omega,r,h1.trans hr,e⟩
   ·rw[h1];trivial
   ·rw[h1];trivial
  |acc τ xs=>
   rw[e]at ht;simp only at ht;rcases ht with⟨h1,h2,h3⟩|⟨h1,h2⟩|h1
   ·rw[h3];trivial
   ·rw[h1];trivial
   ·rw[h1];trivial
  |froz τ xs=>rw[e]at ht;simp only at ht;rw[ht];trivial
  |itr str p=>rw[e]at ht;simp only at ht;rcases ht with⟨_,_,_,h2⟩|h2<;>(rw[h2];trivial)
 |sub b lo n=>
  obtain⟨hb,hs,hm⟩:=hc;refine⟨ak hb len,hs,?_⟩;rcases turns b hb with ht|⟨_,_,_,_,_,_,e2⟩;case inr=>rw[e2];trivial
  unfold Bm at ht;cases e:Ac σ.mem b with
  |gone=>rw[e]at ht;simp only at ht;rw[ht];trivial
  |raw cs=>rw[e]at ht;simp only at ht;rcases ht with⟨_,cs',h2⟩|h2<;>(rw[h2];trivial)
  |arr τ xs=>
   rw[e]at ht hm;simp only at ht hm;rcases ht with⟨h1,_,xs',h2,h3⟩|⟨_,h1,h2⟩|h1
   ·rw[h2];obtain⟨hi,A,c,g1,g2,g3,g4⟩:=hm;exact⟨by rw[h3];exact hi,A,c,g1,g2,g3,fun hn=>by obtain⟨r,hr,e⟩:=g4 hn;exact⟨r,h1.trans hr,e⟩⟩
   ·rw[h1];trivial
   ·rw[h1];trivial
  |acc τ xs=>
   rw[e]at ht;simp only at ht;rcases ht with⟨h1,h2,h3⟩|⟨h1,h2⟩|h1
   ·rw[h3];trivial
   ·rw[h1];trivial
   ·rw[h1];trivial
  |froz τ xs=>rw[e]at ht;simp only at ht;rw[ht];trivial
  |itr str p=>rw[e]at ht;simp only at ht;rcases ht with⟨_,_,_,h2⟩|h2<;>(rw[h2];trivial)
 |iptr τ x off=>
  obtain⟨r,o,vs,T,fz,ds,e,hS,hh,hd,hj⟩:=hc;exact⟨r,o,vs,T,fz,ds,e,stab r hS,(heap r hS).trans hh,hd.mono stab heap,hj⟩
 |gptr g=>exact hc
 |fnv o=>exact AM.mono stab heap hc
 |ifv o=>exact AM.mono stab heap hc
 |cx k a b=>exact hc
 |fn f caps=>
  obtain⟨hb,hs,hm⟩:=hc;refine⟨fun p hp=>ak (hb p hp) len,hs,?_⟩;by_cases hall:∀p∈caps,∃cs,Ac σ'.mem p.1=.raw cs
  ·have hwas:∀p∈caps,(∃cs,Ac σ.mem p.1=.raw cs)/\σ'.E.β p.1=σ.E.β p.1:=fun p hp=>by
    obtain⟨cs',e'⟩:=hall p hp;have ht:=(turns p.1 (hb p hp)).resolve_right fun⟨_,_,_,_,_,_,e2⟩=>by rw[e']at e2;cases e2
    unfold Bm at ht;cases e:Ac σ.mem p.1 with
    |gone=>rw[e]at ht;simp only at ht;rw[e']at ht;cases ht
    |raw cs=>
     rw[e]at ht;simp only at ht;rcases ht with⟨h1,_⟩|h2
     ·exact⟨⟨cs,rfl⟩,h1⟩
     ·rw[e']at h2;cases h2
    |arr τ xs=>
     rw[e]at ht;simp only at ht;rcases ht with⟨_,_,xs',h2,_⟩|⟨_,h1,_⟩|h1
     ·rw[e']at h2;cases h2
     ·rw[e']at h1;cases h1
     ·rw[e']at h1;cases h1
    |acc τ xs=>
     rw[e]at ht;simp only at ht;rcases ht with⟨_,_,h3⟩|⟨h1,_⟩|h1
     ·rw[e']at h3;cases h3
     ·rw[e']at h1;cases h1
     ·rw[e']at h1;cases h1
    |froz τ xs=>rw[e]at ht;simp only at ht;rw[e']at ht;cases ht
    |itr str p=>
     rw[e]at ht;simp only at ht;rcases ht with⟨_,_,_,h2⟩|h2
     ·rw[e']at h2;cases h2
     ·rw[e']at h2;cases h2
   rcases hm with⟨p,hp,hq⟩|⟨rs,h1,h2⟩
   ·obtain⟨⟨cs,e⟩,_⟩:=hwas p hp;rw[e]at hq;exact hq.elim
   ·refine .inr ⟨rs,?_,h2⟩;rw[←h1];exact List.map_congr_left fun p hp=>(hwas p hp).2
  ·refine .inl ?_;obtain⟨p,hp⟩:=Classical.not_forall.1 hall;obtain⟨hp,hn⟩:=Classical.not_imp.1 hp;refine⟨p,hp,?_⟩;cases e:Ac σ'.mem p.1 with
   |raw cs=>exact absurd ⟨cs,e⟩ hn
   |_=>trivial
theorem Goes.repC{σ σ':Sit}(h:Goes σ σ'){c:SC}{y:Value}(hc:Ay σ c y):Ay σ' c y:=
 aLO h.stab h.heap h.len (fun _=>False) (fun b hb=>.inl (h.turns b hb)) hc (fun _ _ h=>h)
theorem Goes.repV{σ σ':Sit}(h:Goes σ σ'){x:SV}{y:Value}(hc:Be σ x y):Be σ' x y:=by
 cases x with
 |one c=>exact h.repC hc
 |agg cs=>obtain⟨ys,e,ha⟩:=hc;exact⟨ys,e,ha.mono fun _ _=>h.repC⟩
theorem Goes.repT{σ σ':Sit}(h:Goes σ σ'){x:TV}{y:Value}(hc:A7 σ x y):A7 σ' x y:=by
 cases x with
 |un=>trivial
 |val x=>exact h.repV hc
 |tup xs=>obtain⟨h1,ys,e,ha⟩:=hc;exact⟨h1,ys,e,ha.mono fun _ _=>h.repV⟩
 |nxt c i r=>exact hc
theorem M7{σ:Sit}:∀{τ:Shape} {x:Ab τ} {ys:List Value},AM σ.w σ.S τ x ys->All2 (Ay σ) (cellsOf τ x) ys
 |.int k,n,_,h=>by rw[h.1];exact .cons ⟨rfl,h.2⟩ .nil
 |.flt k,o,_,⟨y,h,h1⟩=>by rw[h];exact .cons h1 .nil
 |.bool,b,_,h=>by rw[show _=_ from h];exact .cons ⟨rfl,trivial⟩ .nil
 |.str,s,_,h=>by rw[h.1];exact .cons ⟨rfl,h.2⟩ .nil
 |.fn,none,_,h=>by rw[show _=_ from h];exact .cons rfl .nil
 |.fn,some _,_,⟨ps,h,h1⟩=>by rw[h];exact .cons ⟨ps,rfl,h1⟩ .nil
 |.box _,x,_,⟨r,o,vs,T,fz,ds,h,h1⟩=>by rw[h];exact .cons ⟨r,o,vs,T,fz,ds,rfl,h1⟩ .nil
 |.ifc,none,_,h=>by rw[show _=_ from h];exact .cons rfl .nil
 |.ifc,some _,_,⟨h,h1⟩=>by rw[h];exact .cons ⟨rfl,h1⟩ .nil
 |.pfn,n,_,h=>by rw[show _=_ from h];exact .cons ⟨[],rfl,rfl,fun i n hi=>by simp at hi⟩ .nil
 |.cx k,x,_,⟨p,q,h,h1,h2⟩=>by rw[h];exact .cons ⟨p,q,rfl,h1,h2⟩ .nil
 |.unit,_,_,h=>by rw[show _=_ from h];exact .nil
 |.slice e,xs,_,h=>by
  obtain⟨A,c,h0,h1⟩:=h
  rw[h0];exact .cons ⟨A,c,rfl,h1⟩ .nil
 |.pair a b,x,_,⟨c1,c2,h0,h1,h2⟩=>by
  rw[h0];exact(M7 h1).append (M7 h2)
theorem vH{w:World}{S:Nat->Prop}{e' e:Shape}{xs:List (Ab e')}{ys:List (Ab e)}(h:CR e' e xs=some ys){y:Value}
  (hd:AM w S (.slice e') xs [y]):AM w S (.slice e) ys [y]:=by
 unfold CR at h;split at h
 ·rename_i he;subst he;cases h;exact hd
 ·cases h
theorem Iu{e' e:Shape}{xs:List (Ab e')}{ys:List (Ab e)}(h:CR e' e xs=some ys):∃he:e'=e,ys=he▸xs:=by
 unfold CR at h;split at h
 ·rename_i he;cases h;exact⟨he,rfl⟩
 ·cases h
theorem aUG{e' e:Shape}{x:Ab e'}{y:Ab e}(h:vG e' e x=some y):∃he:e'=e,y=he▸x:=by
 unfold vG at h;split at h
 ·rename_i he;cases h;exact⟨he,rfl⟩
 ·cases h
theorem k9{w:World}{S:Nat->Prop}(τ:Shape):AM w S (.slice τ) [] [.slice none 0 0]:=
 ⟨none,0,rfl,bj _,by unfold BJ;omega,fun h=>absurd rfl h⟩
theorem Ns{σ:Sit}:∀{τ:Shape} {cs:List SC} {ys:List Value} {x:Ab τ} {r:List SC},All2 (Ay σ) cs ys->Cl τ cs=some (x,r) ->
  ∃y1 y2,ys=y1++y2/\AM σ.w σ.S τ x y1/\All2 (Ay σ) r y2
 |.int k,[],_,_,_,_,h=>by simp[Cl]at h
 |.int k,c::cs,_,x,r,.cons hc ht,h=>by
  simp only[Cl]at h
  split at h
  ·rename_i k' n
   split at h
   ·rename_i hk
    cases h
    obtain⟨rfl,h1⟩:=hc
    exact⟨[_],_,rfl,⟨by rw[hk],by rw[←hk];exact h1⟩,ht⟩
   ·cases h
  ·cases h
 |.flt k,[],_,_,_,_,h=>by simp[Cl]at h
 |.flt k,c::cs,_,x,r,.cons hc ht,h=>by
  simp only[Cl]at h
  split at h
  ·rename_i k' o
   split at h
   ·rename_i hk
    subst hk
    cases h
    exact⟨[_],_,rfl,⟨_,rfl,hc⟩,ht⟩
   ·cases h
  ·cases h
 |.bool,[],_,_,_,_,h=>by simp[Cl]at h
 |.bool,c::cs,_,x,r,.cons hc ht,h=>by
  simp only[Cl]at h
  split at h
  ·cases h
   obtain⟨rfl,h1⟩:=hc
   exact⟨[_],_,rfl,rfl,ht⟩
  ·cases h
 |.str,[],_,_,_,_,h=>by simp[Cl]at h
 |.str,c::cs,_,x,r,.cons hc ht,h=>by
  simp only[Cl]at h
  split at h
  ·cases h
   obtain⟨rfl,h1⟩:=hc
   exact⟨[_],_,rfl,⟨rfl,h1⟩,ht⟩
  ·cases h
 |.fn,[],_,_,_,_,h=>by simp[Cl]at h
 |.fn,c::cs,_,x,r,.cons hc ht,h=>by
  simp only[Cl]at h
  split at h
  ·cases h
   obtain⟨rfl,h1⟩:=hc
   exact⟨[_],_,rfl,rfl,ht⟩
  ·cases h
   obtain⟨_,_,h1⟩:=hc
   rcases h1 with⟨p,hp,_⟩|⟨rs,h1,rfl⟩
   ·simp at hp
   ·exact⟨[_],_,rfl,⟨[],by simp,rfl,fun i n hi=>by simp at hi⟩,ht⟩
  ·cases h
   exact⟨[_],_,rfl,hc,ht⟩
  ·cases h
 |.box a,[],_,_,_,_,h=>by simp[Cl]at h
 |.box a,c::cs,_,x,r,.cons hc ht,h=>by
  simp only[Cl]at h
  split at h
  ·split at h
   ·rename_i hcast
    cases h
    obtain⟨he,rfl⟩:=aUG hcast
    subst he
    obtain⟨r,o,vs,T,fz,ds,h,h1⟩:=hc
    exact⟨[_],_,rfl,⟨r,o,vs,T,fz,ds,by rw[h];rfl,h1⟩,ht⟩
   ·cases h
  ·cases h
 |.cx k,[],_,_,_,_,h=>by simp[Cl]at h
 |.cx k,c::cs,_,x,r,.cons hc ht,h=>by
  simp only[Cl]at h
  split at h
  ·split at h
   ·rename_i hk;subst hk;cases h
    obtain⟨p,q,rfl,h1,h2⟩:=hc
    exact⟨[_],_,rfl,⟨p,q,rfl,h1,h2⟩,ht⟩
   ·cases h
  ·cases h
 |.pfn,[],_,_,_,_,h=>by simp[Cl]at h
 |.pfn,c::cs,_,x,r,.cons hc ht,h=>by
  simp only[Cl]at h
  split at h
  ·cases h
   obtain⟨_,_,h1⟩:=hc
   rcases h1 with⟨p,hp,_⟩|⟨rs,h1,rfl⟩
   ·simp at hp
   ·exact⟨[_],_,rfl,by simp[AM],ht⟩
  ·cases h
   obtain⟨ps,e,h1,_⟩:=hc
   have:ps=[]:=cg h1
   subst this
   exact⟨[_],_,rfl,e,ht⟩
  ·cases h
 |.ifc,[],_,_,_,_,h=>by simp[Cl]at h
 |.ifc,c::cs,_,x,r,.cons hc ht,h=>by
  simp only[Cl]at h
  split at h
  ·cases h
   obtain⟨rfl,h1⟩:=hc
   exact⟨[_],_,rfl,rfl,ht⟩
  ·cases h
   exact⟨[_],_,rfl,hc,ht⟩
  ·cases h
 |.unit,cs,ys,x,r,ha,h=>by
  simp only[Cl]at h
  cases h
  exact⟨[],ys,rfl,rfl,ha⟩
 |.slice e,[],_,_,_,_,h=>by simp[Cl]at h
 |.slice e,c::cs,_,x,r,.cons hc ht,h=>by
  simp only[Cl]at h
  split at h
  ·split at h
   ·rename_i hcast
    cases h
    exact⟨[_],_,rfl,vH hcast hc,ht⟩
   ·cases h
  ·cases h
   obtain⟨rfl,h1⟩:=hc
   exact⟨[_],_,rfl,k9 e,ht⟩
  ·cases h
 |.pair a b,cs,ys,x,r,ha,h=>by
  simp only[Cl]at h
  split at h
  ·cases h
  ·rename_i x1 r1 h1
   split at h
   ·cases h
   ·rename_i x2 r2 h2
    cases h
    obtain⟨y1,y2,rfl,d1,a1⟩:=Ns ha h1
    obtain⟨y3,y4,rfl,d2,a2⟩:=Ns a1 h2
    exact⟨y1++y3,y4,by simp,⟨y1,y3,rfl,d1,d2⟩,a2⟩
def Rows(w:World)(S:Nat->Prop)(e:Shape)(vs:Array Value)(o:Nat)(xs:List (Ab e)):Prop:=∀i x,xs[i]? = some x->∃ds,AM w S e x ds/\∀j d,ds[j]? = some d->vs[o+i*e.width+j]? = some d
theorem x6{σ:Sit}{τ:Shape}:∀{n:Nat} {cs:List SC} {ys:List Value} {xs:List (Ab τ)},All2 (Ay σ) cs ys->TZ τ n cs=some xs ->
  xs.length=n/\ys.length=n*τ.width/\∀i x,xs[i]? = some x->∃ds,AM σ.w σ.S τ x ds/\∀j d,ds[j]? = some d->ys[i*τ.width+j]? = some d
 |0,[],_,xs,.nil,h=>by simp[TZ]at h;subst h;simp
 |0,_::_,_,xs,_,h=>by simp[TZ]at h
 |n+1,cs,ys,xs,ha,h=>by
  simp only[TZ]at h
  split at h
  ·cases h
  ·rename_i x r h1
   split at h
   ·cases h
   ·rename_i xs' h2
    cases h
    obtain⟨y1,y2,rfl,d1,a1⟩:=Ns ha h1
    obtain⟨l1,l2,l3⟩:=x6 a1 h2
    have hw:=d1.len
    refine⟨by simp[l1],by rw[dx,l2,hw,jl];omega,fun i z hi=>?_⟩
    cases i with
    |zero=>
     simp at hi;subst hi
     refine⟨y1,d1,fun j d hj=>?_⟩
     rw[fd,dm,cd (au.1 hj).1]
     exact hj
    |succ i=>
     obtain⟨ds,e1,e2⟩:=l3 i z (by simpa using hi)
     refine⟨ds,e1,fun j d hj=>?_⟩
     rw[bv (by rw[hw,jl];omega)]
     rw[show(i+1)*τ.width+j-y1.length=i*τ.width+j by rw[hw,jl];omega]
     exact e2 j d hj
end Vx
namespace Vx
open Go Go.RowKit
def KF:Blk->Prop
 |.raw _=>True
 |.arr _ _=>True
 |.acc _ _=>True
 |.itr _ _=>True
 |_=>False
def Sit.owned(σ:Sit)(b r:Nat):Prop:=KF (Ac σ.mem b)/\σ.E.β b=some r
def AA(σ:Sit)(b:Nat):Prop:=
 match Ac σ.mem b with
 |.gone=>True
 |.froz _ _=>True
 |.raw cs=>∃r vs T,σ.E.β b=some r/\σ.w.heap[r]? = some (.cells vs T (0,0))/\All2 (Ay σ) cs vs.toList
 |.itr s p=>s.size<BJ/\∃r,σ.E.β b=some r/\σ.w.heap[r]? = some (.stringIter s p)
 |.arr τ xs=>xs.length<=σ.E.κ b/\σ.E.κ b<BJ/\((σ.E.β b=none/\σ.E.κ b=0) ∨
   ∃r vs T,σ.E.β b=some r/\σ.w.heap[r]? = some (.cells vs T (0,0))/\vs.size=σ.E.κ b*τ.width/\Rows σ.w σ.S τ vs 0 xs)
 |.acc τ xs=>xs.length<=σ.E.κ b/\σ.E.κ b<BJ/\((σ.E.β b=none/\σ.E.κ b=0) ∨
   ∃r vs T,σ.E.β b=some r/\σ.w.heap[r]? = some (.cells vs T (0,0))/\vs.size=σ.E.κ b*τ.width/\Rows σ.w σ.S τ vs 0 xs)
theorem jE{σ:Sit}{b r:Nat}{τ:Shape}{xs:List (Ab τ)}(he:AA σ b)(e:Ac σ.mem b=.arr τ xs)(hr:σ.E.β b=some r):
  xs.length<=σ.E.κ b/\σ.E.κ b<BJ/\∃vs T,σ.w.heap[r]? = some (.cells vs T (0,0))/\vs.size=σ.E.κ b*τ.width/\Rows σ.w σ.S τ vs 0 xs:=by
 unfold AA at he;rw[e]at he;obtain⟨h1,h2,h3⟩:=he;rcases h3 with⟨h4,_⟩|⟨r',vs,T,h4,h5,h6,h7⟩
 ·rw[hr]at h4;cases h4
 ·rw[hr]at h4;cases h4;exact⟨h1,h2,vs,T,h5,h6,h7⟩
theorem uZ{σ:Sit}{b:Nat}{τ:Shape}{xs:List (Ab τ)}(he:AA σ b)(e:Ac σ.mem b=.arr τ xs)(hn:0<xs.length):∃r,σ.E.β b=some r:=by
 unfold AA at he;rw[e]at he;obtain⟨h1,h2,h3⟩:=he;rcases h3 with⟨_,h4⟩|⟨r,vs,T,h4,_⟩
 ·omega
 ·exact⟨r,h4⟩
structure Base where
 w:World
 M:Nat->Prop
def Base.new(B:Base)(r:Nat):Prop:=B.w.heap.size<=r∨B.M r
structure Low (B:Base) (w':World):Prop where
 os:w'.os=B.w.os
 tape:w'.tape=B.w.tape
 output:w'.output=B.w.output
 size:B.w.heap.size<=w'.heap.size
 block:∀k,k<B.w.heap.size->¬B.M k->w'.heap[k]? = B.w.heap[k]?
theorem Low.step{B:Base}{w w':World}(h:Low B w)(hos:w'.os=w.os)(htape:w'.tape=w.tape)(hout:w'.output=w.output)(hsize:w.heap.size<=w'.heap.size)(hb:∀k,k<w.heap.size->¬B.new k->w'.heap[k]? = w.heap[k]?):Low B w' :=
 ⟨hos.trans h.os,htape.trans h.tape,hout.trans h.output,fw h.size hsize,fun k hk hM=>(hb k (ak hk h.size) (fun hn=>hn.elim (fun h=>by omega) hM)).trans (h.block k hk hM)⟩
theorem Low.alloc{B:Base}{w:World}(h:Low B w)(o:Obj):Low B (w.alloc o):=
 h.step rfl rfl rfl (by simp) fun k hk _=>Below.heap_alloc w o k hk
theorem Low.drew{B:Base}{w:World}(h:Low B w):Low B w.drew:=⟨h.os,h.tape,h.output,h.size,h.block⟩
structure Ok (base:Base) (S0:Nat->Prop) (σ:Sit):Prop where
 below:Low base σ.w
 stab0:∀r,S0 r->σ.S r
 stab:∀r,σ.S r->r<σ.w.heap.size/\(S0 r∨base.new r)
 ent:∀b,AA σ b
 own:∀b r,σ.owned b r->base.new r/\r<σ.w.heap.size/\¬σ.S r
 inj:∀b b' r,σ.owned b r->σ.owned b' r->b=b'
theorem Rows.mono{w w':World}{S S':Nat->Prop}(hS:∀r,S r->S' r)(hH:∀r,S r->w'.heap[r]? = w.heap[r]?){e:Shape}{vs:Array Value}{o:Nat}{xs:List (Ab e)}
  (h:Rows w S e vs o xs):Rows w' S' e vs o xs:=fun i x hi=>by
 obtain⟨ds,h1,h2⟩:=h i x hi
 exact⟨ds,h1.mono hS hH,h2⟩
theorem Dr{mem:Ai}{b:Nat}(h:Ac mem b≠.gone):b<mem.length:=by
 unfold Ac at h;rcases aq b mem.length with h' | h'
 ·exact h'
 ·rw[du h']at h;exact absurd rfl h
theorem Hc{mem l:Ai}{b:Nat}(h:b<mem.length):Ac (mem++l) b=Ac mem b:=by
 unfold Ac;rw[cd h]
theorem Is{mem:Ai}{e:Blk}:Ac (mem++[e]) mem.length=e:=by
 unfold Ac;simp
theorem R8{mem:Ai}{e:Blk}{b:Nat}(h:mem.length<b):Ac (mem++[e]) b=.gone:=by
 unfold Ac;rw[du (by simp;omega)];rfl
theorem B4{mem:Ai}{e:Blk}{b b':Nat}(hb:b<mem.length):Ac (mem.set b e) b'=if b'=b then e else Ac mem b':=by
 unfold Ac;by_cases h:b'=b
 ·subst h;rw[if_pos rfl,List.getElem?_set_self hb];rfl
 ·rw[if_neg h,List.getElem?_set_ne (fun e=>h e.symm)]
theorem aUC{mem:Ai}{b:Nat}(h:mem.length<=b):Ac mem b=.gone:=by
 unfold Ac;rw[du h];rfl
theorem bP{mem:Ai}{b:Nat}{e:Blk}(h:Ac mem b=e)(hn:e≠.gone):mem.set b e=mem:=by
 have hlt:b<mem.length:=Dr (by rw[h];exact hn);apply List.ext_getElem?;intro i;rw[mu];split
 ·rename_i hbi;subst hbi;unfold Ac at h;rw[ay hlt]at h⊢;rw[←h];simp[hlt]
 ·rfl
theorem Bm.refl{σ σ':Sit}{b:Nat}(hm:Ac σ'.mem b=Ac σ.mem b)(hb:σ'.E.β b=σ.E.β b)(hk:σ'.E.κ b=σ.E.κ b):Bm σ σ' b:=by
 unfold Bm;cases e:Ac σ.mem b with
 |gone=>simp only;rw[hm,e]
 |raw cs=>exact .inl ⟨hb,cs,hm.trans e⟩
 |arr τ xs=>exact .inl ⟨hb,hk,xs,hm.trans e,rfl⟩
 |acc τ xs=>exact .inl ⟨hb,hk,hm.trans e⟩
 |froz τ xs=>exact hm.trans e
 |itr s p=>exact .inl ⟨hb,s,p,hm.trans e⟩
theorem Goes.refl(σ:Sit):Goes σ σ:=⟨fun _ h=>h,fun _ _=>rfl,bj _,fun _ _=>Bm.refl rfl rfl rfl⟩
theorem AA.keep{σ σ':Sit}(hg:Goes σ σ'){b:Nat}(hm:Ac σ'.mem b=Ac σ.mem b)(hb:σ'.E.β b=σ.E.β b)(hk:σ'.E.κ b=σ.E.κ b)
  (hh:∀r,σ.owned b r->σ'.w.heap[r]? = σ.w.heap[r]?) (h:AA σ b):AA σ' b:=by
 unfold AA at h⊢;rw[hm];cases e:Ac σ.mem b with
 |gone=>trivial
 |froz τ xs=>trivial
 |itr s p=>
  rw[e]at h;obtain⟨h0,r,h1,h2⟩:=h;exact⟨h0,r,hb.trans h1,(hh r ⟨by rw[e];trivial,h1⟩).trans h2⟩
 |raw cs=>
  rw[e]at h;obtain⟨r,vs,T,h1,h2,h3⟩:=h;exact⟨r,vs,T,hb.trans h1,(hh r ⟨by rw[e];trivial,h1⟩).trans h2,h3.mono fun _ _=>hg.repC⟩
 |arr τ xs=>
  rw[e]at h;obtain⟨h0,h00,h⟩:=h;refine⟨by rw[hk];exact h0,by rw[hk];exact h00,?_⟩;rcases h with⟨h1,h2⟩|⟨r,vs,T,h1,h2,h3,h4⟩
  ·exact .inl ⟨hb.trans h1,hk.trans h2⟩
  ·exact .inr ⟨r,vs,T,hb.trans h1,(hh r ⟨by rw[e];trivial,h1⟩).trans h2,by rw[hk];exact h3,h4.mono hg.stab hg.heap⟩
 |acc τ xs=>
  rw[e]at h;obtain⟨h0,h00,h⟩:=h;refine⟨by rw[hk];exact h0,by rw[hk];exact h00,?_⟩;rcases h with⟨h1,h2⟩|⟨r,vs,T,h1,h2,h3,h4⟩
  ·exact .inl ⟨hb.trans h1,hk.trans h2⟩
  ·exact .inr ⟨r,vs,T,hb.trans h1,(hh r ⟨by rw[e];trivial,h1⟩).trans h2,by rw[hk];exact h3,h4.mono hg.stab hg.heap⟩
theorem aUn{w:World}{S:Nat->Prop}{τ:Shape}{xs:List (Ab τ)}{r:Nat}{vs:Array Value}{T:TypeId}{fz:Nat×Nat}{c:Nat}(hS:S r)(hh:w.heap[r]? = some (.cells vs T fz))
  (hr:Rows w S τ vs 0 xs) (hc:xs.length<=c) (hl:c<BJ):AM w S (.slice τ) xs [.slice (some ⟨r,0,none⟩) xs.length c]:=
 ⟨_,c,rfl,hc,hl,fun _=>⟨r,0,vs,T,fz,rfl,hS,hh,hr⟩⟩
theorem kC{base:Base}{S0:Nat->Prop}{σ:Sit}(ho:Ok base S0 σ){b:Nat}{τ:Shape}{xs:List (Ab τ)}(he:Ac σ.mem b=.arr τ xs∨Ac σ.mem b=.acc τ xs):
  ∃σ':Sit,σ'.mem=σ.mem.set b (.froz τ xs)/\σ'.w=σ.w/\σ'.E=σ.E/\Ok base S0 σ'/\Goes σ σ':=by
 have hlt:b<σ.mem.length:=Dr (by rcases he with h|h<;>rw[h]<;>simp);refine⟨⟨σ.E,σ.mem.set b (.froz τ xs),σ.w,fun r=>σ.S r∨σ.E.β b=some r⟩,rfl,rfl,rfl,?_⟩;have howned:∀r,σ.E.β b=some r->σ.owned b r:=fun r hr=>⟨by rcases he with h|h<;>rw[h]<;>trivial,hr⟩
 have hent:=ho.ent b;have hread:AM σ.w (fun r=>σ.S r∨σ.E.β b=some r) (.slice τ) xs [.slice ((σ.E.β b).map fun r=>⟨r,0,none⟩) xs.length (σ.E.κ b)]:=by
  have hent':xs.length<=σ.E.κ b/\σ.E.κ b<BJ/\((σ.E.β b=none/\σ.E.κ b=0) ∨
   ∃r vs T,σ.E.β b=some r/\σ.w.heap[r]? = some (.cells vs T (0,0))/\vs.size=σ.E.κ b*τ.width/\Rows σ.w σ.S τ vs 0 xs):=by
   unfold AA at hent
   rcases he with h|h
   ·rw[h]at hent;exact hent
   ·rw[h]at hent;exact hent
  obtain⟨h0,h00,h5⟩:=hent';rcases h5 with⟨h1,h2⟩|⟨r',vs,T,h1,h2,h3,h4⟩
  ·have:xs=[]:=cg (by omega);subst this;rw[h1,h2];exact k9 τ
  ·rw[h1];exact aUn (.inr rfl) h2 (h4.mono (fun _ h=>.inl h) fun _ _=>rfl) h0 h00
 have hg:Goes σ ⟨σ.E,σ.mem.set b (.froz τ xs),σ.w,fun r=>σ.S r∨σ.E.β b=some r⟩:=by
  refine⟨fun r h=>.inl h,fun _ _=>rfl,by simp,fun b' hb'=>?_⟩;by_cases hbb:b'=b
  ·subst hbb;have hset:Ac (σ.mem.set b' (.froz τ xs)) b'=.froz τ xs:=by rw[B4 hlt,if_pos rfl]
   unfold Bm;rcases he with h|h
   ·rw[h];exact .inr (.inl ⟨xs,hset,hread⟩)
   ·rw[h];exact .inr (.inl ⟨hset,hread⟩)
  ·exact Bm.refl (by simp only;rw[B4 hlt,if_neg hbb]) rfl rfl
 refine⟨⟨ho.below,fun r h=>.inl (ho.stab0 r h),fun r h=>?_,fun b'=>?_,fun b' r h=>?_,fun b1 b2 r h1 h2=>?_⟩,hg⟩
 ·rcases h with h|h
  ·exact ho.stab r h
  ·have:=ho.own b r (howned r h);exact⟨this.2.1,.inr this.1⟩
 ·by_cases hbb:b'=b
  ·subst hbb;unfold AA;simp only;rw[B4 hlt,if_pos rfl];trivial
  ·exact AA.keep hg (by simp only;rw[B4 hlt,if_neg hbb]) rfl rfl (fun _ _=>rfl) (ho.ent b')
 ·obtain⟨h1,h2⟩:=h;simp only at h1 h2;rw[B4 hlt]at h1;split at h1
  ·exact h1.elim
  ·rename_i hne;have hh:=ho.own b' r ⟨h1,h2⟩;refine⟨hh.1,hh.2.1,fun hs=>?_⟩;rcases hs with hs|hs
   ·exact hh.2.2 hs
   ·exact hne (ho.inj b' b r ⟨h1,h2⟩ (howned r hs))
 ·obtain⟨h3,h4⟩:=h1;obtain⟨h5,h6⟩:=h2;simp only at h3 h4 h5 h6;rw[B4 hlt]at h3 h5;split at h3
  ·exact h3.elim
  ·split at h5
   ·exact h5.elim
   ·exact ho.inj b1 b2 r ⟨h3,h4⟩ ⟨h5,h6⟩
theorem Goes.trans{σ σ' σ'':Sit}(h:Goes σ σ')(h':Goes σ' σ''):Goes σ σ'':=by
 refine⟨fun r hr=>h'.stab r (h.stab r hr),fun r hr=>(h'.heap r (h.stab r hr)).trans (h.heap r hr),fw h.len h'.len,fun b hb=>?_⟩;have t1:=h.turns b hb;have t2:=h'.turns b (ak hb h.len);unfold Bm at t1 t2⊢;cases e:Ac σ.mem b with
 |gone=>rw[e]at t1;simp only at t1;rw[t1]at t2;exact t2
 |raw cs=>
  rw[e]at t1;simp only at t1;rcases t1 with⟨h1,cs',h2⟩|h2
  ·rw[h2]at t2;rcases t2 with⟨g1,g2⟩|g2
   ·exact .inl ⟨g1.trans h1,g2⟩
   ·exact .inr g2
  ·rw[h2]at t2;exact .inr t2
 |arr τ xs=>
  rw[e]at t1;simp only at t1;rcases t1 with⟨h1,h1',xs',h2,h3⟩|⟨xs',h1,h2⟩|h1
  ·rw[h2]at t2;rcases t2 with⟨g1,g1',xs'',g2,g3⟩|⟨xs'',g1,g2⟩|g1
   ·exact .inl ⟨g1.trans h1,g1'.trans h1',xs'',g2,g3.trans h3⟩
   ·refine .inr (.inl ⟨xs'',g1,?_⟩);rw[h1,h1',h3]at g2;exact g2
   ·exact .inr (.inr g1)
  ·rw[h1]at t2;exact .inr (.inl ⟨xs',t2,h2.mono h'.stab h'.heap⟩)
  ·rw[h1]at t2;exact .inr (.inr t2)
 |acc τ xs=>
  rw[e]at t1;simp only at t1;rcases t1 with⟨h1,h2,h3⟩|⟨h1,h2⟩|h1
  ·rw[h3]at t2;rcases t2 with⟨g1,g2,g3⟩|⟨g1,g2⟩|g1
   ·exact .inl ⟨g1.trans h1,g2.trans h2,g3⟩
   ·refine .inr (.inl ⟨g1,?_⟩);rw[h1,h2]at g2;exact g2
   ·exact .inr (.inr g1)
  ·rw[h1]at t2;exact .inr (.inl ⟨t2,h2.mono h'.stab h'.heap⟩)
  ·rw[h1]at t2;exact .inr (.inr t2)
 |froz τ xs=>rw[e]at t1;simp only at t1;rw[t1]at t2;exact t2
 |itr s p=>
  rw[e]at t1;simp only at t1;rcases t1 with⟨h1,s',p',h2⟩|h2
  ·rw[h2]at t2;rcases t2 with⟨g1,g2⟩|g2
   ·exact .inl ⟨g1.trans h1,g2⟩
   ·exact .inr g2
  ·rw[h2]at t2;exact .inr t2
end Vx
namespace Vx
open Go Go.RowKit
theorem aVD{base:Base}{S0:Nat->Prop}{σ:Sit}(ho:Ok base S0 σ){b:Nat}{cs:List SC}(he:Ac σ.mem b=.raw cs):
  ∃(σ':Sit) (r:Nat) (vs:Array Value) (T:TypeId),σ'.mem=σ.mem.set b .gone/\σ'.w=σ.w/\σ'.E=σ.E/\Ok base S0 σ'/\Goes σ σ'/\σ.E.β b=some r/\σ'.S r/\σ.w.heap[r]? = some (.cells vs T (0,0))/\All2 (Ay σ) cs vs.toList:=by
 have hlt:b<σ.mem.length:=Dr (by rw[he];simp);have hent:=ho.ent b;unfold AA at hent;rw[he]at hent;obtain⟨r,vs,T,h1,h2,h3⟩:=hent;have howned:σ.owned b r:=⟨by rw[he];trivial,h1⟩
 have hset:Ac (σ.mem.set b .gone) b=.gone:=by rw[B4 hlt,if_pos rfl]
 have hold:∀b' q,KF (Ac (σ.mem.set b .gone) b')->σ.E.β b'=some q->σ.owned b' q/\b'≠b:=fun b' q g1 g2=>by
  rw[B4 hlt]at g1;split at g1
  ·exact g1.elim
  ·rename_i hne;exact⟨⟨g1,g2⟩,hne⟩
 have hg:Goes σ ⟨σ.E,σ.mem.set b .gone,σ.w,fun q=>σ.S q∨q=r⟩:=by
  refine⟨fun r h=>.inl h,fun _ _=>rfl,by simp,fun b' hb'=>?_⟩;by_cases hbb:b'=b
  ·subst hbb;unfold Bm;rw[he];exact .inr hset
  ·exact Bm.refl (by simp only;rw[B4 hlt,if_neg hbb]) rfl rfl
 refine⟨⟨σ.E,σ.mem.set b .gone,σ.w,fun q=>σ.S q∨q=r⟩,r,vs,T,rfl,rfl,rfl,⟨ho.below,fun r h=>.inl (ho.stab0 r h),fun q h=>?_,fun b'=>?_,fun b' q h=>?_,fun b1 b2 q g1 g2=>?_⟩,hg,h1,.inr rfl,h2,h3⟩
 ·rcases h with h|rfl
  ·exact ho.stab q h
  ·have:=ho.own b q howned;exact⟨this.2.1,.inr this.1⟩
 ·by_cases hbb:b'=b
  ·subst hbb;unfold AA;simp only;rw[hset];trivial
  ·exact AA.keep hg (by simp only;rw[B4 hlt,if_neg hbb]) rfl rfl (fun _ _=>rfl) (ho.ent b')
 ·obtain⟨k1,k2⟩:=hold b' q h.1 h.2;have:=ho.own b' q k1;refine⟨this.1,this.2.1,fun hs=>?_⟩;rcases hs with hs|rfl
  ·exact this.2.2 hs
  ·exact k2 (ho.inj b' b q k1 howned)
 ·exact ho.inj b1 b2 q (hold b1 q g1.1 g1.2).1 (hold b2 q g2.1 g2.2).1
theorem aUF{σ:Sit}{cs:List SC}{n:Nat}(h:vF cs=some n){vs:Array Value}(ha:All2 (Ay σ) cs vs.toList):vs[0]? = some (M5 n):=by
 have key:∀{c y},cs=[c]->Ay σ c y->vs.toList=[y]->y=M5 n->vs[0]? = some (M5 n):=fun {c y} _ _ hv hy=>by
  rw[←jy,hv,hy];rfl
 unfold vF at h;split at h
 ·rename_i c;generalize hvs:vs.toList=l at ha;cases ha with
  |cons hc ht=>
   rename_i y l';cases ht;split at h
   ·cases h;refine key rfl hc hvs ?_;rename_i b;obtain⟨rfl,_⟩:=hc;cases b<;>rfl
   ·cases h;refine key rfl hc hvs ?_;obtain⟨_,_,h1⟩:=hc;rcases h1 with⟨p,hp,_⟩|⟨rs,h1,rfl⟩
    ·simp at hp
    ·simp[M5]
   ·cases h;refine key rfl hc hvs ?_;obtain⟨ps,e,h1,_⟩:=hc;have:ps=[]:=cg h1;subst this;simpa[M5]using e
   ·cases h
 ·cases h
theorem aH4{base:Base}{S0:Nat->Prop}:∀{l:List (Nat×Nat)} {σ:Sit},Ok base S0 σ->∀{ns:List Nat} {m:Ai},It σ.mem l=some (ns,m) ->
  (∀p∈l,∃cs,Ac σ.mem p.1=.raw cs)/\∃(σ':Sit) (rs:List Nat),σ'.mem=m/\σ'.w=σ.w/\σ'.E=σ.E/\Ok base S0 σ'/\Goes σ σ'/\l.map (fun p=>σ.E.β p.1)=rs.map some/\(l.zip rs).length=ns.length /\
   ∀(i n:Nat),ns[i]? = some n->∃(r:Nat) (vs:Array Value) (T:TypeId) (fz:Nat×Nat),((l.zip rs).map fun q=>il (some ⟨q.2,q.1.2,none⟩))[i]? = some (il (some ⟨r,0,none⟩))/\σ'.S r/\σ'.w.heap[r]? = some (Obj.cells vs T fz)/\vs[0]? = some (M5 n)
 | [],σ,ho,ns,m,h=>by
  simp only[It]at h
  cases h
  exact⟨fun p hp=>by simp at hp,σ,[],rfl,rfl,rfl,ho,Goes.refl σ,rfl,rfl,fun i n hi=>by simp at hi⟩
 |(b,off+1)::l,σ,ho,ns,m,h=>by simp[It]at h
 |(b,0)::l,σ,ho,ns,m,h=>by
  simp only[It]at h
  split at h
  ·rename_i cs e
   split at h
   ·rename_i n ns' m' e1 e2
    cases h
    obtain⟨σ1,r,vs,T,a1,a2,a3,a4,a5,a6,a7,a8,a9⟩:=aVD ho e
    rw[←a1]at e2
    obtain⟨b1,σ2,rs,c1,c2,c3,c4,c5,c6,c7,c8⟩:=aH4 a4 e2
    have hlt:b<σ.mem.length:=Dr (by rw[e];simp)
    refine⟨fun p hp=>?_,σ2,r::rs,c1,c2.trans a2,c3.trans a3,c4,a5.trans c5,?_,?_,fun i n' hi=>?_⟩
    ·rcases cn.1 hp with rfl|hp
     ·exact⟨cs,e⟩
     ·obtain⟨cs',e'⟩:=b1 p hp
      rw[a1,B4 hlt]at e'
      split at e'
      ·cases e'
      ·exact⟨cs',e'⟩
    ·rw[a3]at c6
     simp only[List.map_cons,a6,c6]
    ·simp only[List.zip_cons_cons,fq,c7]
    ·cases i with
     |zero=>
      simp at hi
      subst hi
      exact⟨r,vs,T,(0,0),by simp,c5.stab r a7,by rw[c2,a2];exact a8,aUF e1 a9⟩
     |succ i=>
      obtain⟨r',vs',T',fz,k1,k2,k3,k4⟩:=c8 i n' (by simpa using hi)
      exact⟨r',vs',T',fz,by simpa using k1,k2,k3,k4⟩
   ·cases h
  ·cases h
theorem Sl{base:Base}{S0:Nat->Prop}{σ:Sit}(ho:Ok base S0 σ){c c':SC}{mem':Ai}(h:Da σ.mem c=(c',mem')):
  ∃σ':Sit,σ'.mem=mem'/\σ'.w=σ.w/\σ'.E=σ.E/\Ok base S0 σ'/\Goes σ σ'/\∀y,Ay σ c y->Ay σ' c' y:=by
 have triv:∀{d:SC},(∀y,Ay σ c y->Ay σ d y)->(d,σ.mem)=(c',mem')->∃σ':Sit,σ'.mem=mem'/\σ'.w=σ.w/\σ'.E=σ.E/\Ok base S0 σ'/\Goes σ σ'/\∀y,Ay σ c y->Ay σ' c' y:=
  fun hd e=>by cases e;exact⟨σ,rfl,rfl,rfl,ho,Goes.refl σ,hd⟩
 cases c with
 |own b=>
  simp only[Da]at h;cases e:Ac σ.mem b with
  |gone=>rw[e]at h;exact triv (d:=.undef) (fun y hy=>hy.2.1) h
  |raw cs=>rw[e]at h;exact triv (d:=.undef) (fun y hy=>hy.2.1) h
  |itr str q=>rw[e]at h;exact triv (d:=.undef) (fun y hy=>hy.2.1) h
  |arr τ xs=>
   rw[e]at h;simp only at h;cases h;obtain⟨σ',h1,h2,h3,h4,h5⟩:=kC ho (.inl e);refine⟨σ',h1,h2,h3,h4,h5,fun y hy=>?_⟩;have:=h5.repC hy;obtain⟨_,_,h6⟩:=this;rw[h1,B4 (Dr (by rw[e];simp)),if_pos rfl]at h6;exact h6
  |acc τ xs=>
   rw[e]at h;simp only at h;cases h;obtain⟨σ',h1,h2,h3,h4,h5⟩:=kC ho (.inr e);refine⟨σ',h1,h2,h3,h4,h5,fun y hy=>?_⟩;have:=h5.repC hy;obtain⟨_,_,h6⟩:=this;rw[h1,B4 (Dr (by rw[e];simp)),if_pos rfl]at h6;exact h6
  |froz τ xs=>
   rw[e]at h;refine triv (fun y hy=>?_) h;obtain⟨_,_,h6⟩:=hy;rw[e]at h6;exact h6
 |undef=>exact triv (fun _ h=>h) h
 |v x=>exact triv (fun _ h=>h) h
 |fl k o=>exact triv (fun _ h=>h) h
 |sl τ xs=>exact triv (fun _ h=>h) h
 |ptr b off=>exact triv (fun _ h=>h) h
 |eptr b i off=>exact triv (fun _ h=>h) h
 |sub b lo n=>exact triv (fun _ h=>h) h
 |iptr τ x off=>exact triv (fun _ h=>h) h
 |gptr g=>exact triv (fun _ h=>h) h
 |fnv o=>exact triv (fun _ h=>h) h
 |ifv o=>exact triv (fun _ h=>h) h
 |cx k x y=>exact triv (fun _ h=>h) h
 |fn f caps=>
  cases caps with
  |nil=>exact triv (fun _ h=>h) h
  |cons p caps=>
   simp only[Da]at h;cases e:It σ.mem (p::caps)with
   |none=>rw[e]at h;exact triv (d:=.fn f (p::caps)) (fun _ h=>h) h
   |some q=>
    obtain⟨ns,m⟩:=q;rw[e]at h;cases h;obtain⟨b1,σ',rs,c1,c2,c3,c4,c5,c6,c7,c8⟩:=aH4 ho e;refine⟨σ',c1,c2,c3,c4,c5,fun y hy=>?_⟩;obtain⟨_,_,hy⟩:=hy;rcases hy with⟨p',hp',hq⟩|⟨rs',g1,rfl⟩
    ·obtain⟨cs,e'⟩:=b1 p' hp';rw[e']at hq;exact hq.elim
    ·have:rs'=rs:=by
      have h1:=g1.symm.trans c6;exact(List.map_inj_right fun _ _ h=>jz h).1 h1
     subst this;exact⟨_,rfl,by rw[List.length_map];exact c7,c8⟩
theorem Z4{base:Base}{S0:Nat->Prop}:∀{cs:List SC} {σ:Sit},Ok base S0 σ->∀{cs':List SC} {mem':Ai},ES σ.mem cs=(cs',mem') ->
  ∃σ':Sit,σ'.mem=mem'/\σ'.w=σ.w/\σ'.E=σ.E/\Ok base S0 σ'/\Goes σ σ'/\∀ys,All2 (Ay σ) cs ys->All2 (Ay σ') cs' ys
 | [],σ,ho,cs',mem',h=>by
  simp only[ES]at h;cases h
  exact⟨σ,rfl,rfl,rfl,ho,Goes.refl σ,fun ys h=>by cases h;exact .nil⟩
 |c::cs,σ,ho,cs',mem',h=>by
  simp only[ES]at h
  cases e1:Da σ.mem c with
  |mk c1 m1=>
   rw[e1]at h;simp only at h
   obtain⟨σ1,a1,a2,a3,a4,a5,a6⟩:=Sl ho e1
   cases e2:ES m1 cs with
   |mk c2 m2=>
    rw[e2]at h;simp only at h;cases h
    rw[←a1]at e2
    obtain⟨σ2,b1,b2,b3,b4,b5,b6⟩:=Z4 a4 e2
    refine⟨σ2,b1,b2.trans a2,b3.trans a3,b4,a5.trans b5,fun ys hy=>?_⟩
    cases hy with
    |cons h1 h2=>exact .cons (b5.repC (a6 _ h1)) (b6 _ (h2.mono fun _ _=>a5.repC))
theorem aIY{base:Base}{S0:Nat->Prop}{σ:Sit}(ho:Ok base S0 σ){x x':SV}{mem':Ai}(h:FA σ.mem x=(x',mem')):
  ∃σ':Sit,σ'.mem=mem'/\σ'.w=σ.w/\σ'.E=σ.E/\Ok base S0 σ'/\Goes σ σ'/\∀y,Be σ x y->Be σ' x' y:=by
 cases x with
 |one c=>
  simp only[FA]at h;cases e1:Da σ.mem c with
  |mk c1 m1=>
   rw[e1]at h;simp only at h;cases h;obtain⟨σ1,a1,a2,a3,a4,a5,a6⟩:=Sl ho e1;exact⟨σ1,a1,a2,a3,a4,a5,a6⟩
 |agg cs=>
  simp only[FA]at h;cases e1:ES σ.mem cs with
  |mk c1 m1=>
   rw[e1]at h;simp only at h;cases h;obtain⟨σ1,a1,a2,a3,a4,a5,a6⟩:=Z4 ho e1;exact⟨σ1,a1,a2,a3,a4,a5,fun y ⟨ys,e,hy⟩=>⟨ys,e,a6 ys hy⟩⟩
def AD{α:Type}(f:Nat->α)(b:Nat)(x:α):Nat->α:=fun i=>if i=b then x else f i
def Sit.push(σ:Sit)(e:Blk)(o:Obj)(k:Nat):Sit:={E:={β:=AD σ.E.β σ.mem.length (some σ.w.heap.size),κ:=AD σ.E.κ σ.mem.length k},mem:=σ.mem++[e],w:=σ.w.alloc o,S:=σ.S}
def Sit.name(σ:Sit)(e:Blk):Sit:={E:={β:=AD σ.E.β σ.mem.length none,κ:=AD σ.E.κ σ.mem.length 0},mem:=σ.mem++[e],w:=σ.w,S:=σ.S}
theorem Nl{w:World}{o:Obj}{r:Nat}(h:r<w.heap.size):(w.alloc o).heap[r]? = w.heap[r]?:=Below.heap_alloc w o r h
theorem WK{base:Base}{S0:Nat->Prop}{σ:Sit}(ho:Ok base S0 σ)(e:Blk)(o:Obj)(k:Nat):Goes σ (σ.push e o k):=by
 refine⟨fun _ h=>h,fun r hr=>Nl (ho.stab r hr).1,by simp[Sit.push],fun b hb=>?_⟩;exact Bm.refl (Hc hb) (by simp[Sit.push,AD];omega) (by simp[Sit.push,AD];omega)
theorem xO(σ:Sit)(e:Blk):Goes σ (σ.name e):=by
 refine⟨fun _ h=>h,fun r hr=>rfl,by simp[Sit.name],fun b hb=>?_⟩;exact Bm.refl (Hc hb) (by simp[Sit.name,AD];omega) (by simp[Sit.name,AD];omega)
theorem bF{base:Base}{S0:Nat->Prop}{σ:Sit}(ho:Ok base S0 σ)(e:Blk)(o:Obj)(k:Nat)(hat:AA (σ.push e o k) σ.mem.length):Ok base S0 (σ.push e o k):=by
 have hg:=WK ho e o k;have hlt:∀b,KF (Ac (σ.push e o k).mem b)->b≠σ.mem.length->KF (Ac σ.mem b)/\b<σ.mem.length:=fun b h hne=>by
  rcases aq b σ.mem.length with h' | h'
  ·simp only[Sit.push]at h;rw[Hc h']at h;exact⟨h,h'⟩
  ·simp only[Sit.push]at h;rw[R8 (by omega)]at h;exact h.elim
 have hold:∀b r,(σ.push e o k).owned b r->b≠σ.mem.length->σ.owned b r:=fun b r h hne=>by
  obtain⟨h1,h2⟩:=h;obtain⟨h3,h4⟩:=hlt b h1 hne;exact⟨h3,by simpa[Sit.push,AD,hne]using h2⟩
 have hnew:∀r,(σ.push e o k).owned σ.mem.length r->r=σ.w.heap.size:=fun r h=>by
  have:=h.2;simp[Sit.push,AD]at this;omega
 refine⟨ho.below.alloc o,ho.stab0,fun r h=>?_,fun b=>?_,fun b r h=>?_,fun b b' r h h'=>?_⟩
 ·have:=ho.stab r h;exact⟨by simp only[Sit.push,ga];omega,this.2⟩
 ·by_cases hb:b=σ.mem.length
  ·rw[hb];exact hat
  ·rcases aq b σ.mem.length with h' | h'
   ·refine AA.keep hg (Hc h') (by simp[Sit.push,AD,hb]) (by simp[Sit.push,AD,hb]) (fun r hr=>Nl (ho.own b r hr).2.1) (ho.ent b)
   ·unfold AA;simp only[Sit.push];rw[R8 (by omega)];trivial
 ·by_cases hb:b=σ.mem.length
  ·subst hb;rw[hnew r h];exact⟨.inl ho.below.size,by simp[Sit.push],fun hs=>absurd (ho.stab _ hs).1 (by omega)⟩
  ·have:=ho.own b r (hold b r h hb);exact⟨this.1,by simp only[Sit.push,ga];omega,this.2.2⟩
 ·by_cases hb:b=σ.mem.length<;>by_cases hb':b'=σ.mem.length
  ·rw[hb,hb']
  ·subst hb;have h1:=hnew r h;have:=(ho.own b' r (hold b' r h' hb')).2.1;omega
  ·subst hb';have h1:=hnew r h';have:=(ho.own b r (hold b r h hb)).2.1;omega
  ·exact ho.inj b b' r (hold b r h hb) (hold b' r h' hb')
theorem aKG{base:Base}{S0:Nat->Prop}{σ:Sit}(ho:Ok base S0 σ)(τ:Shape):Ok base S0 (σ.name (.acc τ [])):=by
 have hg:=xO σ (.acc τ []);have hold:∀b r,(σ.name (.acc τ [])).owned b r->σ.owned b r:=fun b r h=>by
  obtain⟨h1,h2⟩:=h;by_cases hb:b=σ.mem.length
  ·subst hb;simp[Sit.name,AD]at h2
  ·rcases aq b σ.mem.length with h' | h'
   ·simp only[Sit.name]at h1;rw[Hc h']at h1;exact⟨h1,by simpa[Sit.name,AD,hb]using h2⟩
   ·simp only[Sit.name]at h1;rw[R8 (by omega)]at h1;exact h1.elim
 refine⟨ho.below,ho.stab0,ho.stab,fun b=>?_,fun b r h=>ho.own b r (hold b r h),fun b b' r h h'=>ho.inj b b' r (hold b r h) (hold b' r h')⟩;by_cases hb:b=σ.mem.length
 ·subst hb;unfold AA;simp only[Sit.name];rw[Is];simp[AD,BJ]
 ·rcases aq b σ.mem.length with h' | h'
  ·exact AA.keep hg (Hc h') (by simp[Sit.name,AD,hb]) (by simp[Sit.name,AD,hb]) (fun r hr=>rfl) (ho.ent b)
  ·unfold AA;simp only[Sit.name];rw[R8 (by omega)];trivial
def CX(w:World)(r:Nat)(o:Obj):World:={w with heap:=w.heap.setIfInBounds r o}
theorem Nm{w:World}{r r':Nat}{o:Obj}(h:r'≠r):(CX w r o).heap[r']? = w.heap[r']?:=by
 simp only[CX];rw[Array.getElem?_setIfInBounds_ne (fun e=>h e.symm)]
theorem TN{w:World}{r:Nat}{o:Obj}(h:r<w.heap.size):(CX w r o).heap[r]? = some o:=by
 simp only[CX];rw[Array.getElem?_setIfInBounds_self_of_lt h]
theorem bR{w:World}{r:Nat}{o:Obj}:(CX w r o).heap.size=w.heap.size:=by simp[CX]
theorem bDZ{w:World}{r:Nat}{o o':Obj}:CX (CX w r o) r o'=CX w r o':=by
 simp only[CX];congr 1;exact Array.setIfInBounds_setIfInBounds ..
theorem bDd{w:World}{r i:Nat}{vs:Array Value}{T:TypeId}{fz:Nat×Nat}{v:Value}(h:w.heap[r]? = some (.cells vs T fz)):
  w.setCell ⟨r,i,none⟩ v=CX w r (.cells (vs.setIfInBounds i v) T fz):=by
 have hlt:=(cz.1 h).1;have he:=(cz.1 h).2;simp only[World.setCell,CX];congr 1;apply qv
 ·simp
 ·intro j h1 h2;rw[Array.getElem_modify,mg (by simpa using h1)];by_cases hj:r=j
  ·subst hj;rw[if_pos rfl,if_pos rfl,he];rfl
  ·rw[if_neg hj,if_neg hj]
theorem jK{w:World}{r i:Nat}{vs:Array Value}{T:TypeId}{fz:Nat×Nat}(h:w.heap[r]? = some (.cells vs T fz)):w.cell? ⟨r,i,none⟩=vs[i]?:=by
 simp[World.cell?,h]
theorem aVE{w:World}{r i:Nat}{vs:Array Value}{T:TypeId}(h:w.heap[r]? = some (.cells vs T (0,0))):w.frozen? ⟨r,i,none⟩=false:=by
 simp[World.frozen?,h]
def CK(vs:Array Value):Nat->List Value->Array Value
 |_,[]=>vs
 |o,v::l=>CK (vs.setIfInBounds o v) (o+1) l
theorem bG:∀(l:List Value) (vs:Array Value) (o:Nat),(CK vs o l).size=vs.size
 | [],_,_=>rfl
 |_::l,vs,o=>by rw[CK,bG l];simp
theorem Kl(r o n:Nat):(⟨r,o,none⟩:Addr).add n=⟨r,o+n,none⟩:=by
 unfold Addr.add;split
 ·rename_i h;subst h;rfl
 ·rfl
theorem bCw{P:Program}{w:World}{r i:Nat}{vs:Array Value}{T:TypeId}{v:Value}(h:w.heap[r]? = some (.cells vs T (0,0)))(hi:i<vs.size)(hv:scalar v):
  (store ⟨r,i,none⟩ v).run P w=.ok () (CX w r (.cells (vs.setIfInBounds i v) T (0,0))):=by
 have hc:w.cell? ⟨r,i,none⟩=some vs[i]:=by rw[jK h];simp[hi]
 have hf:=aVE (i:=i) h;unfold store;cases v<;>first|exact hv.elim|(rw[←bDd h];simp[Sem.run,hc,hf])
theorem bN{P:Program}{r o:Nat}{T:TypeId}:∀(l:List Value) (i:Nat) (w:World) (vs:Array Value),w.heap[r]? = some (.cells vs T (0,0)) ->
  o+i+l.length<=vs.size->(∀v∈l,scalar v)->(storeCells ⟨r,o,none⟩ l i).run P w=.ok () (CX w r (.cells (CK vs (o+i) l) T (0,0)))
 | [],i,w,vs,h,_,_=>by
  have hlt:=(cz.1 h).1
  have he:=(cz.1 h).2
  have:CX w r (.cells vs T (0,0))=w:=by
   unfold CX
   have:w.heap.setIfInBounds r (.cells vs T (0,0))=w.heap:=by
    apply qv
    ·simp
    ·intro j h1 h2
     rw[mg (by simpa using h1)]
     split
     ·rename_i hj;subst hj;exact he.symm
     ·rfl
   rw[this]
  simp[storeCells,CK,this]
 |v::l,i,w,vs,h,hsz,hv=>by
  have hlt:=(cz.1 h).1
  simp only[fq]at hsz
  simp only[storeCells,bu,Kl]
  rw[bCw h (by omega) (hv v (by simp))]
  simp only[ax]
  rw[bN l (i+1) _ (vs.setIfInBounds (o+i) v) (TN hlt) (by simp;omega) (fun x hx=>hv x (by simp[hx])),bDZ]
  rw[CK,gh]
theorem bCu{P:Program}{w:World}{r o n:Nat}{vs:Array Value}{T:TypeId}{fz:Nat×Nat}(h:w.heap[r]? = some (.cells vs T fz))(hn:o+n<=vs.size):
  (loadCells ⟨r,o,none⟩ n).run P w=.ok ((vs.toList.drop o).take n).toArray w:=by
 have hl:((vs.toList.drop o).take n).length=n:=by simp;omega
 have:=run_loadCells_list (P:=P) (w:=w) ⟨r,o,none⟩ ((vs.toList.drop o).take n) (fun j v hj=>by
  rw[Kl,jK h];have hj':=(au.1 hj).1;rw[ck (by omega),di]at hj;simpa using hj)
 rw[hl]at this;exact this
def Sit.store(σ:Sit)(b r:Nat)(e:Blk)(vs:Array Value)(T:TypeId):Sit:={E:=σ.E,mem:=σ.mem.set b e,w:=CX σ.w r (.cells vs T (0,0)),S:=σ.S}
theorem mH{base:Base}{S0:Nat->Prop}{σ:Sit}(ho:Ok base S0 σ){b r:Nat}(hb:σ.owned b r){e:Blk}{vs:Array Value}{T:TypeId}
  (hk:match Ac σ.mem b with
   |.raw _=>∃cs,e=.raw cs
   |.arr τ xs=>∃xs':List (Ab τ),e=.arr τ xs'/\xs'.length=xs.length
   |_=>False)
  (hat:Goes σ (σ.store b r e vs T)->AA (σ.store b r e vs T) b):Ok base S0 (σ.store b r e vs T)/\Goes σ (σ.store b r e vs T):=by
 have hlt:b<σ.mem.length:=Dr (by intro h;have:=hb.1;rw[h]at this;exact this)
 have hrs:=ho.own b r hb
 have hoe:KF e:=by
  split at hk
  ·obtain⟨cs,rfl⟩:=hk;trivial
  ·obtain⟨xs,rfl,_⟩:=hk;trivial
  ·exact hk.elim
 have hg:Goes σ (σ.store b r e vs T):=by
  refine⟨fun _ h=>h,fun r' hr'=>Nm (fun e=>hrs.2.2 (e▸hr')),by simp[Sit.store],fun b' hb'=>?_⟩
  by_cases hbb:b'=b
  ·subst hbb
   have hset:Ac (σ.store b' r e vs T).mem b'=e:=by simp only[Sit.store];rw[B4 hlt,if_pos rfl]
   unfold Bm
   split at hk
   ·rename_i e1;rw[e1];obtain⟨cs,rfl⟩:=hk;exact .inl ⟨rfl,cs,hset⟩
   ·rename_i e1;rw[e1];obtain⟨xs,rfl,hl⟩:=hk;exact .inl ⟨rfl,rfl,xs,hset,hl⟩
   ·exact hk.elim
  ·exact Bm.refl (by simp only[Sit.store];rw[B4 hlt,if_neg hbb]) rfl rfl
 have hold:∀b' r',(σ.store b r e vs T).owned b' r'->σ.owned b' r':=fun b' r' h=>by
  obtain⟨h1,h2⟩:=h
  simp only[Sit.store]at h1 h2
  rw[B4 hlt]at h1
  split at h1
  ·rename_i hbb;subst hbb;exact⟨hb.1,h2⟩
  ·exact⟨h1,h2⟩
 refine⟨⟨ho.below.step rfl rfl rfl (by simp[Sit.store,CX]) (fun k _ hn=>Nm (fun e=>hn (e▸hrs.1))),ho.stab0,fun r' h=>?_,fun b'=>?_,fun b' r' h=>?_,fun b1 b2 r' h1 h2=>ho.inj b1 b2 r' (hold _ _ h1) (hold _ _ h2)⟩,hg⟩
 ·have:=ho.stab r' h;exact⟨by simp only[Sit.store,bR];exact this.1,this.2⟩
 ·by_cases hbb:b'=b
  ·subst hbb;exact hat hg
  ·refine AA.keep hg (by simp only[Sit.store];rw[B4 hlt,if_neg hbb]) rfl rfl (fun r' hr'=>Nm (fun e=>hbb (ho.inj b' b r (e▸hr') hb))) (ho.ent b')
 ·have:=ho.own b' r' (hold _ _ h);exact⟨this.1,by simp only[Sit.store,bR];exact this.2.1,this.2.2⟩
end Vx
namespace Vx
open Go Go.RowKit
theorem aKB(k:IntKind):k.min<=0/\0<=k.max:=by cases k<;>decide
theorem aXs{k:IntKind}{n:Int}(h:lD k n=true):k.min<=n/\n<=k.max:=by
 cases k<;>simp[lD]at h<;>simp[mh,lk,im,gy]<;>omega
def Up(σ:Sit)(a:Act)(cs:List (Nat×Nat×Bool×TV)):Prop:=∀d g p x,(d,g,p,x)∈cs->(a.tmps.getD g undef=.bool p->A7 σ x (a.tmps.getD d undef))/\(a.tmps.getD g undef≠.bool p->a.tmps.getD d undef=undef)
structure RelT (σ:Sit) (s:St) (a:Act):Prop where
 size:a.tmps.size=s.n
 defers:a.defers=[]
 mem:σ.mem=s.mem
 tm:∀t,A7 σ (AX s.tm t) (a.tmps.getD t undef)
 cs:Up σ a s.cs
def Bb(a:Act)(ctx:List (Nat×Bool)):Prop:=∀t p,(t,p)∈ctx->a.tmps.getD t undef=.bool p
theorem Up.tail{σ:Sit}{a:Act}{e:Nat×Nat×Bool×TV}{cs:List (Nat×Nat×Bool×TV)}(h:Up σ a (e::cs)):Up σ a cs:=
 fun d g p x hm=>h d g p x (gm _ hm)
theorem aJG:∀{l:List (Nat×Bool)} {g:Nat} {q:Bool},Wl l g q=true->(g,q)∈l
 | [],_,_,h=>by simp[Wl]at h
 |(t,p)::r,g,q,h=>by
  simp only[Wl,Bool.or_eq_true,af]at h
  rcases h with⟨h1,h2⟩|h
  ·have:t=g:=ah h1
   subst this
   have:p=q:=by cases p<;>cases q<;>simp_all [pb]
   subst this
   exact jv
  ·exact gm _ (aJG h)
theorem aJy:∀{cs:List (Nat×Nat×Bool×TV)} {t g:Nat} {p:Bool} {x:TV},Z7 cs t=some ((g,p),x)->(t,g,p,x)∈cs
 | [],_,_,_,_,h=>by simp[Z7]at h
 |(d,g',p',x')::r,t,g,p,x,h=>by
  simp only[Z7]at h
  cases hb:Nat.beq d t with
  |true=>
   rw[hb]at h;simp at h
   have:d=t:=ah hb
   obtain⟨⟨rfl,rfl⟩,rfl⟩:=h
   subst this
   exact jv
  |false=>rw[hb]at h;exact gm _ (aJy h)
theorem aN5(b:Bool):undef≠.bool b:=by unfold undef;intro h;cases h
theorem ZS{σ:Sit}{s:St}{a:Act}(ht:∀t,A7 σ (AX s.tm t) (a.tmps.getD t undef)):∀{cs:List (Nat×Nat×Bool×TV)},Up σ a cs->∀{t:Nat} {p c:Bool},R9 s.tm cs t p=some c ->
  (c=true↔a.tmps.getD t undef=.bool p)
 | [],_,t,p,c,h=>by
  simp only[R9]at h
  have:=ht t
  split at h
  ·rename_i b e
   cases h
   rw[e]at this
   obtain⟨h1,_⟩:=this
   rw[h1]
   cases p<;>cases b<;>simp[pb]
  ·cases h
 |(d,g,q,x)::r,hc,t,p,c,h=>by
  simp only[R9]at h
  cases hb:Nat.beq d t with
  |false=>rw[hb]at h;exact ZS ht hc.tail h
  |true=>
   rw[hb]at h
   have:d=t:=ah hb
   subst this
   simp only[cond_true]at h
   split at h
   ·rename_i b
    split at h
    ·rename_i c' hc'
     cases h
     have ih:=ZS ht hc.tail hc'
     have hd:=hc d g q _ jv
     by_cases hg:a.tmps.getD g undef=.bool q
     ·have hc'':c'=true:=ih.2 hg
      obtain⟨h1,_⟩:=hd.1 hg
      rw[h1,hc'']
      cases p<;>cases b<;>simp[pb]
     ·have:c'=false:=by cases c' with|false=>rfl|true=>exact absurd (ih.1 rfl) hg
      rw[hd.2 hg,this]
      simp[aN5]
    ·cases h
   ·cases h
theorem ZQ{σ:Sit}{a:Act}:∀{cs:List (Nat×Nat×Bool×TV)},Up σ a cs->∀{t:Nat} {p:Bool},a.tmps.getD t undef=.bool p->Bb a (Kr cs t p)
 | [],_,t,p,h=>by
  intro t' p' hm
  simp only[Kr,List.mem_singleton,cu]at hm
  obtain⟨rfl,rfl⟩:=hm
  exact h
 |(d,g,q,x)::r,hc,t,p,h=>by
  simp only[Kr]
  cases hb:Nat.beq d t with
  |false=>exact ZQ hc.tail h
  |true=>
   have:d=t:=ah hb
   subst this
   have hd:=hc d g q _ jv
   have hg:a.tmps.getD g undef=.bool q:=by
    refine Classical.byContradiction fun hn=>?_
    rw[hd.2 hn]at h
    exact aN5 p h
   intro t' p' hm
   simp only[cond_true,cn,cu]at hm
   rcases hm with⟨rfl,rfl⟩|hm
   ·exact h
   ·exact ZQ hc.tail hg t' p' hm
theorem aL6{σ:Sit}{v:Value}{c:SC}(h:WR v=some c):Ay σ c v:=by
 unfold WR at h;split at h
 ·cases h;exact⟨rfl,trivial⟩
 ·rename_i k n;cases hb:lD k n with
  |false=>rw[hb]at h;cases h
  |true=>rw[hb]at h;cases h;exact⟨rfl,aXs hb⟩
 ·rename_i b;cases hb:Nat.blt b 4294967296 with
  |false=>rw[hb]at h;cases h
  |true=>rw[hb]at h;cases h;exact⟨b,rfl,by simpa[Iy]using hb,rfl⟩
 ·rename_i b;cases hb:Nat.blt b 18446744073709551616 with
  |false=>rw[hb]at h;cases h
  |true=>rw[hb]at h;cases h;exact⟨b,rfl,by simpa[Iy]using hb,rfl⟩
 ·rename_i p q;obtain⟨hb,h⟩:=AF h;cases h;simp only[af]at hb;exact⟨p,q,rfl,⟨p,rfl,by simpa[Iy]using hb.1,rfl⟩,⟨q,rfl,by simpa[Iy]using hb.2,rfl⟩⟩
 ·rename_i s;cases hb:Nat.blt s.size 9223372036854775808 with
  |false=>rw[hb]at h;cases h
  |true=>rw[hb]at h;cases h;exact⟨rfl,by simpa[BJ,IQ]using hb⟩
 ·cases h;exact⟨rfl,trivial⟩
 ·cases h;exact⟨rfl,trivial⟩
 ·cases h;exact⟨rfl,trivial⟩
 ·cases h;exact⟨rfl,trivial⟩
 ·rename_i f first captured
  split at h
  ·rename_i h1 h2;cases h;refine⟨by simp,trivial,.inr ⟨[],rfl,?_⟩⟩;have e1:first=#[]:=fu.1 (h1.trans rfl)
   have e2:captured=#[]:=fu.1 (h2.trans rfl);rw[e1,e2];rfl
  ·cases h
 ·cases h
theorem aL8{σ:Sit}:∀{l:List Value} {cs:List SC},SK l=some cs->All2 (Ay σ) cs l
 | [],_,h=>by simp[SK]at h;subst h;exact .nil
 |v::r,_,h=>by
  simp only[SK]at h
  split at h
  ·rename_i c cs h1 h2
   cases h
   exact .cons (aL6 h1) (aL8 h2)
  ·cases h
theorem zX{σ:Sit}{v:Value}{x:SV}(h:cB v=some x):Be σ x v:=by
 unfold cB at h;split at h
 ·rename_i cs;split at h
  ·rename_i l h1;cases h;exact⟨cs.toList,by simp,aL8 h1⟩
  ·cases h
 ·split at h
  ·rename_i c h1;cases h;exact aL6 h1
  ·cases h
theorem VC{σ:Sit}{s:St}{a:Act}{ctx:List (Nat×Bool)}(hr:RelT σ s a)(hx:Bb a ctx){x:Operand}{v:TV}(h:ev s ctx x=some v):A7 σ v (a.eval x):=by
 cases x with
 |tmp t=>
  simp only[ev]at h;split at h
  ·rename_i g p y e;cases hb:Wl ctx g p with
   |false=>rw[hb]at h;cases h
   |true=>
    rw[hb]at h;cases h;exact(hr.cs _ _ _ _ (aJy e)).1 (hx _ _ (aJG hb))
  ·cases h;exact hr.tm t
 |const v=>
  simp only[ev]at h;split at h
  ·rename_i y e;cases h;exact zX e
  ·cases h
 |global g=>simp only[ev]at h;cases h;rfl
 |func f=>
  simp only[ev]at h;cases h;exact⟨by simp,trivial,.inr ⟨[],rfl,rfl⟩⟩
theorem Bk{σ:Sit}{s:St}{a:Act}{ctx:List (Nat×Bool)}(hr:RelT σ s a)(hx:Bb a ctx){x:Operand}{c:SC}(h:AR s ctx x=some c):Ay σ c (a.eval x):=by
 unfold AR at h;split at h
 ·rename_i c' e;cases h;exact VC hr hx e
 ·cases h
theorem He{σ:Sit}{s:St}{a:Act}{ctx:List (Nat×Bool)}(hr:RelT σ s a)(hx:Bb a ctx){x:Operand}{c:SV}(h:EQ s ctx x=some c):Be σ c (a.eval x):=by
 unfold EQ at h;split at h
 ·rename_i c' e;cases h;exact VC hr hx e
 ·cases h
theorem TE{σ:Sit}{s:St}{a:Act}{ctx:List (Nat×Bool)}(hr:RelT σ s a)(hx:Bb a ctx):∀{l:List Operand} {cs:List SV},D9 s ctx l=some cs->All2 (Be σ) cs (l.map a.eval)
 | [],_,h=>by simp[D9]at h;subst h;exact .nil
 |x::r,_,h=>by
  simp only[D9]at h
  split at h
  ·rename_i v vs h1 h2
   cases h
   exact .cons (He hr hx h1) (TE hr hx h2)
  ·cases h
theorem j7{σ:Sit}{s:St}{a:Act}{ctx:List (Nat×Bool)}(hr:RelT σ s a)(hx:Bb a ctx):∀{l:List (Nat×Operand)} {cs:List (Nat×SV)},Gn s ctx l=some cs ->
  All2 (fun p q=>p.1=q.1/\Be σ p.2 q.2) cs (l.map fun p=>(p.1,a.eval p.2))
 | [],_,h=>by simp[Gn]at h;subst h;exact .nil
 |(i,x)::r,_,h=>by
  simp only[Gn]at h
  split at h
  ·rename_i v vs h1 h2
   cases h
   exact .cons ⟨rfl,He hr hx h1⟩ (j7 hr hx h2)
  ·cases h
theorem Sp{σ:Sit}{s:St}{a:Act}{ctx:List (Nat×Bool)}(hr:RelT σ s a)(hx:Bb a ctx){x:Operand}{n:Int}(h:EU s ctx x=some n):
  ∃k,a.eval x=.int k n/\k.min<=n/\n<=k.max:=by
 unfold EU at h;split at h
 ·rename_i k m e;cases h;obtain⟨h1,h2⟩:=Bk hr hx e;exact⟨k,h1,h2⟩
 ·cases h
theorem Be.cells{σ:Sit}{x:SV}{y:Value}(h:Be σ x y):All2 (Ay σ) x.cells y.cells.toList:=by
 cases x with
 |one c=>
  have hs:=Ay.scalar h;have:y.cells=#[y]:=by cases y<;>first|rfl|exact hs.elim
  rw[this];exact .cons h .nil
 |agg cs=>
  obtain⟨ys,rfl,ha⟩:=h;simpa[Value.cells,SV.cells]using ha
theorem Hv{σ:Sit}(k:IntKind)(n:Int):Ay σ (.v (.int k (k.wrap n))) (.int k (k.wrap n)):=⟨rfl,wrap_within k n⟩
theorem bDe{k:IntKind}{x:Int}(h:k.min<=x/\x<=k.max)(n:Nat):k.min<=x.fdiv (2^n)/\x.fdiv (2^n)<=k.max:=by
 have hp:(0:Int)<2^n:=Int.pow_pos (by omega);have hm:=aKB k;rw[Int.fdiv_eq_ediv_of_nonneg _ (Int.le_of_lt hp)];refine⟨?_,?_⟩
 ·refine(Int.le_ediv_iff_mul_le hp).2 ?_;refine lm ?_ h.1;have:=Int.mul_le_mul_of_nonpos_left (a:=k.min) (b:=2^n) (c:=1) hm.1 (by omega);omega
 ·rcases pg 0 x with hx|hx
  ·exact lm (Int.ediv_le_self _ hx) h.2
  ·have:x/2^n<=0:=Int.ediv_nonpos_of_nonpos_of_neg hx hp;omega
theorem aNW{x:Int}(y:Int)(h:0<=x):x.tmod y<=x:=by
 have h1:=Int.natAbs_tmod x y;have h2:=Nat.mod_le x.natAbs y.natAbs;omega
theorem bDN{k:IntKind}{x y:Int}(h:k.min<=x/\x<=k.max):k.min<=x.tmod y/\x.tmod y<=k.max:=by
 have hm:=aKB k;rcases pg 0 x with hx|hx
 ·have h1:=po y hx;have h2:x.tmod y<=x:=aNW _ hx;omega
 ·have h1:x.tmod y<=0:=by
   have:=po y (a:=-x) (by omega);rw[qo]at this;omega
  have h2:x<=x.tmod y:=by
   have:=aNW (x:=-x) y (by omega);rw[qo]at this;omega
  omega
end Vx
namespace Vx
open Go Go.RowKit
theorem bCt{P:Program}{w:World}{op:BinOp}{T:TypeId}{X Y:Operand}{k k':IntKind}{a b:Int}{f:Unit->Sem Value}:
  (eqGuard op T X Y (.int k a) (.int k' b) >>= f).run P w=(f ()).run P w:=by
 cases op<;>rfl
theorem aL2{P:Program}{w:World}{op:BinOp}{T:TypeId}{X Y:Operand}{a b:Bool}{f:Unit->Sem Value}:
  (eqGuard op T X Y (.bool a) (.bool b) >>= f).run P w=(f ()).run P w:=by
 cases op<;>rfl
theorem zH{P:Program}{w:World}{op:BinOp}{T:TypeId}{X Y:Operand}{a b:ByteArray}{f:Unit->Sem Value}:
  (eqGuard op T X Y (.string a) (.string b) >>= f).run P w=(f ()).run P w:=by
 cases op<;>rfl
theorem bM{P:Program}{w:World}{op:BinOp}{T:TypeId}{X Y:Operand}{k k':FloatKind}{a b:Nat}{f:Unit->Sem Value}:
  (eqGuard op T X Y (.float k a) (.float k' b) >>= f).run P w=(f ()).run P w:=by
 cases op<;>rfl
theorem aL3{P:Program}{w:World}{op:BinOp}{T:TypeId}{X Y:Operand}{k k':FloatKind}{a b a' b':Nat}{f:Unit->Sem Value}:
  (eqGuard op T X Y (.complex k a a') (.complex k' b b') >>= f).run P w=(f ()).run P w:=by
 cases op<;>rfl
theorem aL1{P:Program}{w:World}{T:TypeId}{a b:Bool}(h:P.underlying T=some .bool):(Op.equal T (.bool a) (.bool b)).run P w=.ok (a==b) w:=by
 unfold Op.equal Op.maxDepth Op.equalIn;simp[underlying,h]
theorem aUz{P:Program}{σ:Sit}{op:BinOp}{T:TypeId}{k k':IntKind}{x y:Int}{r:SC}{w:World}
  (hx:k.min<=x/\x<=k.max) (hy:k'.min<=y/\y<=k'.max) (h:R6 op (.v (.int k x)) (.v (.int k' y))=some (true,r)) :
  ∃v,(binOp op T (.int k x) (.int k' y)).run P w=.ok v w/\Ay σ r v:=by
 have hneg:(match k'.signed with|true=>decide (0<=y)|false=>true)=true->¬y<0:=fun hg=>by
  cases hs:k'.signed with
  |true=>rw[hs]at hg;simp at hg;omega
  |false=>
   have:k'.min=0:=by simp[mh,hs]
   omega
 by_cases hop:op=.shl
 ·subst hop;simp only[R6,ab,cu]at h;obtain⟨h1,rfl⟩:=h;exact⟨_,by simp[binOp,Op.shift,hneg h1],Hv k _⟩
 by_cases hop':op=.shr
 ·subst hop';simp only[R6,ab,cu]at h;obtain⟨h1,rfl⟩:=h;exact⟨_,by simp[binOp,Op.shift,hneg h1];rfl,rfl,bDe hx _⟩
 by_cases hk:k'=k
 ·subst hk;cases op<;>simp only[R6,if_pos,ab,cu,bne_iff_ne]at h;case shl=>exact absurd rfl hop
  case shr=>exact absurd rfl hop'
  case quo=>
   obtain⟨h1,rfl⟩:=h;exact⟨_,by simp[binOp,Op.intDiv,h1],Hv k' _⟩
  case rem=>
   obtain⟨h1,rfl⟩:=h;exact⟨_,by simp[binOp,Op.intDiv,h1],rfl,bDN hx⟩
  case add=>obtain⟨_,rfl⟩:=h;exact⟨_,by simp[binOp,Op.intArith],Hv k' _⟩
  case sub=>obtain⟨_,rfl⟩:=h;exact⟨_,by simp[binOp,Op.intArith],Hv k' _⟩
  case mul=>obtain⟨_,rfl⟩:=h;exact⟨_,by simp[binOp,Op.intArith],Hv k' _⟩
  case and=>obtain⟨_,rfl⟩:=h;exact⟨_,by simp[binOp,Op.intBits],Hv k' _⟩
  case or=>obtain⟨_,rfl⟩:=h;exact⟨_,by simp[binOp,Op.intBits],Hv k' _⟩
  case xor=>obtain⟨_,rfl⟩:=h;exact⟨_,by simp[binOp,Op.intBits],Hv k' _⟩
  case andNot=>obtain⟨_,rfl⟩:=h;exact⟨_,by simp[binOp,Op.intBits],Hv k' _⟩
  case eql=>obtain⟨_,rfl⟩:=h;exact⟨_,by simp[binOp,Op.intCmp],rfl,trivial⟩
  case neq=>obtain⟨_,rfl⟩:=h;exact⟨_,by simp[binOp,Op.intCmp],rfl,trivial⟩
  case lss=>obtain⟨_,rfl⟩:=h;exact⟨_,by simp[binOp,Op.intCmp],rfl,trivial⟩
  case leq=>obtain⟨_,rfl⟩:=h;exact⟨_,by simp[binOp,Op.intCmp],rfl,trivial⟩
  case gtr=>obtain⟨_,rfl⟩:=h;exact⟨_,by simp[binOp,Op.intCmp],rfl,trivial⟩
  case geq=>obtain⟨_,rfl⟩:=h;exact⟨_,by simp[binOp,Op.intCmp],rfl,trivial⟩
 ·cases op<;>simp[R6,hk]at h<;>simp_all
theorem qD(k:FloatKind)(neg:Bool){r:Nat}(h:r<k.format.signWeight):k.format.word neg r<2^Iy k:=by
 cases k
 ·have h:r<2147483648:=h;show(if neg=true then 2147483648+r else r)<4294967296;split<;>omega
 ·have h:r<9223372036854775808:=h;show(if neg=true then 9223372036854775808+r else r)<18446744073709551616;split<;>omega
theorem aJL(k:FloatKind)(n:Nat):k.format.infRung+n%k.format.binade<k.format.signWeight:=by
 cases k
 ·show 2139095040+n%8388608<2147483648;omega
 ·show 9218868437227405312+n%4503599627370496<9223372036854775808;omega
theorem bDY(k:FloatKind)(d:Ieee.Datum):k.format.write d<2^Iy k:=by
 have h0:=aJL k 0;rw[Nat.zero_mod,Nat.add_zero]at h0;cases d with
 |infinity s=>exact qD k s h0
 |nan s t=>exact qD k s (aJL k t)
 |number s m e=>
  show k.format.nearest s m e<_;unfold Ieee.Format.nearest;split
  ·exact qD k s (by omega)
  ·exact qD k s (ao (Nat.min_le_right _ _) h0)
theorem aXf(k:FloatKind)(x y t:Nat):Gw k none (.float k ((Question.nanBits k x y).cut t)):=by
 refine⟨_,rfl,?_,?_⟩
 ·cases k
  ·show t%2*2147483648+2139095040+1+t/2%8388607<4294967296;omega
  ·show t%2*9223372036854775808+9218868437227405312+1+t/2%4503599627370495<18446744073709551616;omega
 ·cases k
  ·show(Ieee.single.read (t%2*2147483648+2139095040+1+t/2%8388607)).isNaN=true;unfold Ieee.Format.read;have e:(t%2*2147483648+2139095040+1+t/2%8388607)%Ieee.single.signWeight=2139095040+1+t/2%8388607:=by
    show(t%2*2147483648+2139095040+1+t/2%8388607)%2147483648=_;omega
   have h1:¬(2139095040+1+t/2%8388607<Ieee.single.binade):=by
    show ¬(2139095040+1+t/2%8388607<8388608);omega
   have h2:¬(2139095040+1+t/2%8388607<Ieee.single.infRung):=by
    show ¬(2139095040+1+t/2%8388607<2139095040);omega
   have h3:¬(2139095040+1+t/2%8388607=Ieee.single.infRung):=by
    show ¬(2139095040+1+t/2%8388607=2139095040);omega
   dsimp only;rw[e,if_neg h1,if_neg h2,if_neg h3];rfl
  ·show(Ieee.double.read (t%2*9223372036854775808+9218868437227405312+1+t/2%4503599627370495)).isNaN=true;unfold Ieee.Format.read;have e:(t%2*9223372036854775808+9218868437227405312+1+t/2%4503599627370495)%Ieee.double.signWeight=9218868437227405312+1+t/2%4503599627370495:=by
    show(t%2*9223372036854775808+9218868437227405312+1+t/2%4503599627370495)%9223372036854775808=_;omega
   have h1:¬(9218868437227405312+1+t/2%4503599627370495<Ieee.double.binade):=by
    show ¬(9218868437227405312+1+t/2%4503599627370495<4503599627370496);omega
   have h2:¬(9218868437227405312+1+t/2%4503599627370495<Ieee.double.infRung):=by
    show ¬(9218868437227405312+1+t/2%4503599627370495<9218868437227405312);omega
   have h3:¬(9218868437227405312+1+t/2%4503599627370495=Ieee.double.infRung):=by
    show ¬(9218868437227405312+1+t/2%4503599627370495=9218868437227405312);omega
   dsimp only;rw[e,if_neg h1,if_neg h2,if_neg h3];rfl
theorem aKJ{d:Ieee.Datum}(h:d.isNaN=true):∃s t,d=.nan s t:=by
 cases d with
 |nan s t=>exact⟨s,t,rfl⟩
 |_=>cases h
def xB:BinOp->Bool
 |.add|.sub|.mul|.quo=>true
 |_=>false
theorem aIV{op:BinOp}{k:FloatKind}{a b:Nat}(h:(k.format.read a).isNaN=true∨(k.format.read b).isNaN=true):IB op k a b=none:=by
 have key:k.format.add a b=none/\k.format.sub a b=none/\k.format.mul a b=none/\k.format.div a b=none:=by
  unfold Ieee.Format.add Ieee.Format.sub Ieee.Format.mul Ieee.Format.div;rcases h with h|h
  ·obtain⟨s,t,e⟩:=aKJ h;rw[e];exact⟨rfl,rfl,rfl,rfl⟩
  ·obtain⟨s,t,e⟩:=aKJ h;rw[e];cases k.format.read a<;>exact⟨rfl,rfl,rfl,rfl⟩
 unfold IB;split
 ·exact key.1
 ·exact key.2.1
 ·exact key.2.2.1
 ·exact key.2.2.2
theorem aVx{op:BinOp}{k:FloatKind}{a b r:Nat}(h:IB op k a b=some r):r<2^Iy k:=by
 have key:∀{o:Option Ieee.Datum},o.map k.format.write=some r->r<2^Iy k:=fun {o} h=>by
  cases o with
  |none=>cases h
  |some d=>cases h;exact bDY k d
 unfold IB at h;split at h
 ·exact key h
 ·exact key h
 ·exact key h
 ·exact key h
theorem Sk{op:BinOp}{k:FloatKind}{x y:Option Nat}{a b:Nat}(h1:match x with|some b'=>a=b' | none=>(k.format.read a).isNaN=true)(h2:match y with|some b'=>b=b' | none=>(k.format.read b).isNaN=true):
  Nf op k x y=IB op k a b:=by
 cases x with
 |none=>rw[aIV (.inl h1)];rfl
 |some x=>
  cases y with
  |none=>rw[aIV (.inr h2)];rfl
  |some y=>simp only at h1 h2;subst h1;subst h2;rfl
theorem ZL{P:Program}{op:BinOp}{k:FloatKind}{a b:Nat}{w:World}(hop:xB op=true):
  ∃v n,(Op.floatArith op k a b).run P w=.ok v {w with drawn:=n}/\Gw k (IB op k a b) v:=by
 have key:∀o:Option Nat,(∀r,o=some r->r<2^Iy k)->∃v n,(match o with|some r=>pure (.float k r)|none=>(do pure (.float k (←choose (.nanBits k a b)))):Sem Value).run P w=.ok v {w with drawn:=n}/\Gw k o v:=by
  intro o ho;cases o with
  |some r=>exact⟨_,w.drawn,rfl,_,rfl,ho r rfl,rfl⟩
  |none=>exact⟨_,w.drawn+1,rfl,aXf k a b _⟩
 have hlt:∀r,IB op k a b=some r->r<2^Iy k:=fun r h=>aVx h;cases op<;>first|(cases hop;done)|exact key _ hlt
theorem aIh{P:Program}{op:BinOp}{k:FloatKind}{a b:Nat}{w:World}(hop:xB op=true):
  ∃r n,(Op.Complex.arith op k a b).run P w=.ok r {w with drawn:=n}/\Gw k (IB op k a b) (.float k r):=by
 obtain⟨v,n,g1,g2⟩:=ZL (P:=P) (op:=op) (k:=k) (a:=a) (b:=b) (w:=w) hop;obtain⟨r,rfl,g3⟩:=g2;refine⟨r,n,?_,r,rfl,g3⟩;unfold Op.Complex.arith;rw[bu,g1];rfl
theorem aIi{P:Program}{op:BinOp}{k:FloatKind}{a b a' b':Nat}{w:World}(hop:xB op=true)(o2:op=.add∨op=.sub):
  ∃r r' n,(Op.complexOp op k a a' b b').run P w=.ok (.complex k r r') {w with drawn:=n}/\Gw k (IB op k a b) (.float k r)/\Gw k (IB op k a' b') (.float k r'):=by
 obtain⟨r,n,g1,g2⟩:=aIh (P:=P) (op:=op) (k:=k) (a:=a) (b:=b) (w:=w) hop;obtain⟨r',n',g1',g2'⟩:=aIh (P:=P) (op:=op) (k:=k) (a:=a') (b:=b') (w:={w with drawn:=n}) hop;refine⟨r,r',n',?_,g2,g2'⟩;rcases o2 with rfl|rfl
 ·simp only[Op.complexOp,bu,g1,g1',ax,de]
 ·simp only[Op.complexOp,bu,g1,g1',ax,de]
theorem aUy{P:Program}{σ:Sit}{op:BinOp}{T:TypeId}{X Y:Operand}{c d r:SC}{y z:Value}{w:World}(hT:xC P T=true∨∀b,c≠.v (.bool b))
  (hc:Ay σ c y) (hd:Ay σ d z) (h:R6 op c d=some (true,r)) :
  ∃v n,(do eqGuard op T X Y y z;binOp op T y z:Sem Value).run P w=.ok v {w with drawn:=n}/\Ay σ r v:=by
 have plain:(∃v,(do eqGuard op T X Y y z;binOp op T y z:Sem Value).run P w=.ok v w/\Ay σ r v)->∃v n,(do eqGuard op T X Y y z;binOp op T y z:Sem Value).run P w=.ok v {w with drawn:=n}/\Ay σ r v:=
  fun⟨v,h1,h2⟩=>⟨v,w.drawn,h1,h2⟩
 unfold R6 at h;split at h
 ·rename_i k x k' y';obtain⟨rfl,hx⟩:=hc;obtain⟨rfl,hy⟩:=hd;obtain⟨v,h1,h2⟩:=aUz (P:=P) (σ:=σ) (T:=T) (w:=w) hx hy h;exact plain ⟨v,by rw[bCt];exact h1,h2⟩
 ·rename_i x y';obtain⟨rfl,_⟩:=hc;obtain⟨rfl,_⟩:=hd;have hT':P.underlying T=some .bool:=by
   rcases hT with h1|h1
   ·unfold xC at h1;split at h1
    ·assumption
    ·cases h1
   ·exact absurd rfl (h1 x)
  cases op<;>simp only[ab,cu,reduceCtorEq]at h;case eql=>obtain⟨_,rfl⟩:=h;exact plain ⟨_,by rw[aL2];simp only[binOp,bu,aL1 hT',ax,de],rfl,trivial⟩
  case neq=>obtain⟨_,rfl⟩:=h;exact plain ⟨_,by rw[aL2];simp only[binOp,bu,aL1 hT',ax,de],rfl,trivial⟩
 ·rename_i x y';obtain⟨rfl,_⟩:=hc;obtain⟨rfl,_⟩:=hd;cases op<;>simp only[ab,cu,reduceCtorEq]at h;case add=>
   obtain⟨hb,rfl⟩:=h;have h2:x.size+y'.size<9223372036854775808:=by simpa using hb
   refine plain ⟨.string (x++y'),?_,rfl,by simpa[IQ,BJ]using h2⟩;rw[zH];show(Op.stringOp .add x y').run P w=_;simp only[Op.stringOp];rw[if_neg (by simp only[lk,im,gy];simp;omega)];rfl
  case eql=>obtain⟨_,rfl⟩:=h;exact plain ⟨_,by rw[zH];rfl,rfl,trivial⟩
  case neq=>obtain⟨_,rfl⟩:=h;exact plain ⟨_,by rw[zH];rfl,rfl,trivial⟩
 ·rename_i k x k' y';obtain⟨b1,rfl,_,h1⟩:=hc;obtain⟨b2,rfl,_,h2⟩:=hd;by_cases hk:k'=k
  ·subst hk;have ho:k'.format.order b1 b2=IA k' x y':=by
    cases x with
    |none=>
     simp only[IA];unfold Ieee.Format.order;cases hq:k'.format.read b1<;>rw[hq]at h1<;>first|(simp[Ieee.Datum.isNaN]at h1;done)|rfl
    |some x=>
     simp only at h1;subst h1;cases y' with
     |none=>
      simp only[IA];unfold Ieee.Format.order;cases hq:k'.format.read b2<;>rw[hq]at h2<;>first|(simp[Ieee.Datum.isNaN]at h2;done)|(cases k'.format.read b1<;>rfl)
     |some y'=>simp only at h2;subst h2;rfl
   have hr:∀op',op'=op->(binOp op T (.float k' b1) (.float k' b2))=(match op' with|.add|.sub|.mul|.quo=>Op.floatArith op' k' b1 b2|_=>Op.floatCmp op' k' b1 b2):=fun op' e=>by
    subst e;cases op'<;>simp[binOp]
   cases op<;>simp only[if_pos,ab,cu,reduceCtorEq]at h;all_goals obtain⟨_,rfl⟩:=h
   case add=>obtain⟨v,n,g1,g2⟩:=ZL (P:=P) (op:=.add) (k:=k') (a:=b1) (b:=b2) (w:=w) rfl;exact⟨v,n,by rw[bM,hr _ rfl];exact g1,by rw[Sk h1 h2];exact g2⟩
   case sub=>obtain⟨v,n,g1,g2⟩:=ZL (P:=P) (op:=.sub) (k:=k') (a:=b1) (b:=b2) (w:=w) rfl;exact⟨v,n,by rw[bM,hr _ rfl];exact g1,by rw[Sk h1 h2];exact g2⟩
   case mul=>obtain⟨v,n,g1,g2⟩:=ZL (P:=P) (op:=.mul) (k:=k') (a:=b1) (b:=b2) (w:=w) rfl;exact⟨v,n,by rw[bM,hr _ rfl];exact g1,by rw[Sk h1 h2];exact g2⟩
   case quo=>obtain⟨v,n,g1,g2⟩:=ZL (P:=P) (op:=.quo) (k:=k') (a:=b1) (b:=b2) (w:=w) rfl;exact⟨v,n,by rw[bM,hr _ rfl];exact g1,by rw[Sk h1 h2];exact g2⟩
   all_goals refine plain ⟨_,by rw[bM,hr _ rfl];simp only[Op.floatCmp,ho];rfl,rfl,trivial⟩
  ·rw[if_neg hk]at h;cases h
 ·rename_i k x x' k' y y';obtain⟨p1,q1,rfl,⟨_,e1,_,h1⟩,⟨_,e1',_,h1'⟩⟩:=hc;obtain⟨p2,q2,rfl,⟨_,e2,_,h2⟩,⟨_,e2',_,h2'⟩⟩:=hd;cases e1;cases e1';cases e2;cases e2';by_cases hk:k'=k
  ·subst hk;have hr:∀op',op'=op->(op'=.add∨op'=.sub)->binOp op T (.complex k' p1 q1) (.complex k' p2 q2)=Op.complexOp op' k' p1 q1 p2 q2:=fun op' e e2=>by
    subst e;rcases e2 with rfl|rfl<;>simp[binOp]
   cases op<;>simp only[if_pos,ab,cu,reduceCtorEq]at h;case add=>
    obtain⟨_,rfl⟩:=h;obtain⟨r,r',n,g1,g2,g3⟩:=aIi (P:=P) (op:=.add) (k:=k') (a:=p1) (b:=p2) (a':=q1) (b':=q2) (w:=w) rfl (.inl rfl);exact⟨_,n,by rw[aL3,hr _ rfl (.inl rfl)];exact g1,r,r',rfl,by rw[Sk h1 h2];exact g2,by rw[Sk h1' h2'];exact g3⟩
   case sub=>
    obtain⟨_,rfl⟩:=h;obtain⟨r,r',n,g1,g2,g3⟩:=aIi (P:=P) (op:=.sub) (k:=k') (a:=p1) (b:=p2) (a':=q1) (b':=q2) (w:=w) rfl (.inr rfl);exact⟨_,n,by rw[aL3,hr _ rfl (.inr rfl)];exact g1,r,r',rfl,by rw[Sk h1 h2];exact g2,by rw[Sk h1' h2'];exact g3⟩
  ·rw[if_neg hk]at h;cases h
 ·cases h
theorem bDR{P:Program}{σ:Sit}{op:UnOp}{c r:SC}{y:Value}{w:World}(hc:Ay σ c y)(h:unV op c=some r):
  ∃v,(Op.unary op y).run P w=.ok v w/\Ay σ r v:=by
 unfold unV at h;split at h
 ·obtain⟨rfl,hx⟩:=hc;split at h
  ·cases h;exact⟨_,by simp[Op.unary,Op.intArith],Hv _ _⟩
  ·cases h;exact⟨_,by simp[Op.unary,Op.intBits],Hv _ _⟩
  ·cases h
 ·obtain⟨rfl,hx⟩:=hc;split at h
  ·cases h;exact⟨_,by simp[Op.unary],rfl,trivial⟩
  ·cases h
 ·cases h
theorem aYR{op:BinOp}{a b:SC}{r:Bool}(h:yO op a b=some r):b=.v (.pointer none)/\((∃p o,a=.ptr p o)/\(op=.eql/\r=false∨op=.neq/\r=true)∨a=.v (.pointer none)/\(op=.eql/\r=true∨op=.neq/\r=false)):=by
 cases b with
 |v x=>
  cases x with
  |pointer q=>
   cases q with
   |none=>
    cases a with
    |ptr p o=>cases op<;>first|(cases h;done)|(cases h;exact⟨rfl,.inl ⟨⟨_,_,rfl⟩,by simp⟩⟩)
    |v u=>
     cases u with
     |pointer v=>
      cases v with
      |none=>cases op<;>first|(cases h;done)|(cases h;exact⟨rfl,.inr ⟨rfl,by simp⟩⟩)
      |some _=>cases h
     |_=>cases h
    |_=>cases h
   |some _=>cases h
  |_=>cases h
 |_=>cases h
theorem bCr{P:Program}{w:World}{T e:TypeId}(d:Nat)(p:Option Addr)(hT:P.underlying T=some (.pointer e)):(Op.equalIn (d+1) T (.pointer p) (.pointer none)).run P w=.ok p.isNone w:=by
 cases p with
 |none=>simp[Op.equalIn,underlying,hT]
 |some p=>simp[Op.equalIn,underlying,hT]
theorem aYS{P:Program}{σ:Sit}{w:World}{op:BinOp}{T e:TypeId}{X Y:Operand}{a b:SC}{y z:Value}{r:Bool}(hT:P.underlying T=some (.pointer e))(ha:Ay σ a y)(hb:Ay σ b z)(h:yO op a b=some r):
  (do eqGuard op T X Y y z;binOp op T y z:Sem Value).run P w=.ok (.bool r) w:=by
 have key:∀(p:Option Addr),(Op.equal T (.pointer p) (.pointer none)).run P w=.ok p.isNone w:=fun p=>by
  unfold Op.equal Op.maxDepth;exact bCr 9999 p hT
 have h0:=aYR h;clear h;obtain⟨rfl,h⟩:=h0;have hz:z=.pointer none:=hb.1;subst hz;rcases h with⟨⟨p,o,rfl⟩,h⟩|⟨rfl,h⟩
 ·obtain⟨_,⟨q,rfl⟩,_⟩:=ha;have:=key (some q);rcases h with⟨rfl,rfl⟩|⟨rfl,rfl⟩
  ·simp[eqGuard,binOp,this]
  ·simp[eqGuard,binOp,this]
 ·have hy:y=.pointer none:=ha.1;subst hy;have:=key none;rcases h with⟨rfl,rfl⟩|⟨rfl,rfl⟩
  ·simp[eqGuard,binOp,this]
  ·simp[eqGuard,binOp,this]
end Vx
namespace Vx
open Go Go.RowKit
theorem zZ:∀{n:Nat} {l r:List SC},Hu n l=some r->r=l.take n/\n<=l.length
 |0,l,r,h=>by simp[Hu]at h;subst h;simp
 |n+1,[],r,h=>by simp[Hu]at h
 |n+1,c::l,r,h=>by
  simp only[Hu]at h
  split at h
  ·rename_i l' e
   cases h
   obtain⟨h1,h2⟩:=zZ e
   exact⟨by simp[h1],by simp;omega⟩
  ·cases h
theorem ZV:∀{n:Nat} {l:List SC},DR n l=l.drop n
 |0,l=>by simp[DR]
 |n+1,[]=>by simp[DR]
 |n+1,c::l=>by simp[DR,ZV]
theorem Wp:∀{n:Nat} {l:List SC},FC n l=true->l.length=n
 |0,[],_=>rfl
 |0,_::_,h=>by simp[FC]at h
 |n+1,[],h=>by simp[FC]at h
 |n+1,c::l,h=>by simp only[FC]at h;simp[Wp h]
theorem All2.take{α β:Type}{R:α->β->Prop}:∀{as:List α} {bs:List β} (n:Nat),All2 R as bs->All2 R (as.take n) (bs.take n)
 |_,_,0,_=>by simp;exact .nil
 |_,_,n+1,.nil=>by simp;exact .nil
 |_,_,n+1,.cons h t=>by simpa using .cons h (t.take n)
theorem All2.drop{α β:Type}{R:α->β->Prop}:∀{as:List α} {bs:List β} (n:Nat),All2 R as bs->All2 R (as.drop n) (bs.drop n)
 |_,_,0,h=>by simpa using h
 |_,_,n+1,.nil=>by simp;exact .nil
 |_,_,n+1,.cons h t=>by simpa using t.drop n
theorem mC:∀{n:Nat} {new old r:List SC},splice n new old=some r->r=old.take n++new++old.drop (n+new.length)/\n+new.length<=old.length
 |0,[],old,r,h=>by simp[splice]at h;subst h;simp
 |0,_::_,[],r,h=>by simp[splice]at h
 |0,c::new,_::old,r,h=>by
  simp only[splice]at h
  split at h
  ·rename_i l e
   cases h
   obtain⟨h1,h2⟩:=mC e
   refine⟨?_,by simp;omega⟩
   simp at h1
   simp[h1]
  ·cases h
 |n+1,[],[],r,h=>by simp[splice]at h
 |n+1,_::_,[],r,h=>by simp[splice]at h
 |n+1,new,c::old,r,h=>by
  simp only[splice]at h
  split at h
  ·rename_i l e
   cases h
   obtain⟨h1,h2⟩:=mC e
   refine⟨?_,by simp;omega⟩
   rw[h1]
   simp[show n+1+new.length=(n+new.length)+1 by omega]
  ·cases h
theorem WL:∀(l:List Value) (vs:Array Value) (o:Nat),o+l.length<=vs.size->(CK vs o l).toList=vs.toList.take o++l++vs.toList.drop (o+l.length)
 | [],vs,o,_=>by simp[CK]
 |v::l,vs,o,h=>by
  simp only[fq]at h
  rw[CK,WL l _ (o+1) (by simp;omega)]
  simp only[Array.toList_setIfInBounds]
  have h1:(vs.toList.set o v).take (o+1)=vs.toList.take o++[v]:=by
   rw[List.take_set,List.take_succ_eq_append_getElem (by simp;omega)]
   rw[List.set_append_right _ _ (by simp;omega)]
   simp[Nat.min_eq_left (show o<=vs.size by omega)]
  have h2:(vs.toList.set o v).drop (o+1+l.length)=vs.toList.drop (o+(v::l).length):=by
   rw[List.drop_set_of_lt (by omega)]
   simp[show o+1+l.length=o+(l.length+1) by omega]
  rw[h1,h2]
  simp
theorem All2.splice{R:SC->Value->Prop}{n:Nat}{new old r:List SC}{vs:Array Value}{ys:List Value}(h:Vx.splice n new old=some r)(ho:All2 R old vs.toList)(hn:All2 R new ys):
  All2 R r (CK vs n ys).toList/\n+ys.length<=vs.size:=by
 obtain⟨h1,h2⟩:=mC h;have l1:=hn.length;have l2:=ho.length;have hle:n+ys.length<=vs.size:=by simp at l2;omega
 refine⟨?_,hle⟩;rw[WL _ _ _ hle,h1,←l1];exact((ho.take n).append hn).append (ho.drop _)
theorem aIU:∀(l:List Value) (k:Nat) (cs:Array Value) (off:Nat),(l.zipIdx k).foldl (fun cs p=>cs.setIfInBounds (off+p.2) p.1) cs=CK cs (off+k) l
 | [],_,_,_=>rfl
 |v::l,k,cs,off=>by
  simp only[List.zipIdx_cons,List.foldl_cons,CK]
  rw[aIU l (k+1) _ off]
  rfl
theorem vZ{R:SC->Value->Prop}(AY:Nat->Option (Nat×Nat)):∀{ps:List (Nat×SV)} {qs:List (Nat×Value)} {old r:List SC} {vs:Array Value},IN AY ps old=some r->All2 R old vs.toList ->
  All2 (fun p q=>p.1=q.1/\All2 R p.2.cells q.2.cells.toList) ps qs->∃vs',Instr.fill AY vs qs=some vs'/\All2 R r vs'.toList
 | [],_,old,r,vs,h,ho,.nil=>by
  simp only[IN]at h;cases h
  exact⟨vs,rfl,ho⟩
 |(i,x)::ps,_,old,r,vs,h,ho,.cons (b:=(i',y)) hp ht=>by
  obtain⟨rfl,hp⟩:=hp
  simp only[IN]at h
  cases hpl:AY i with
  |none=>rw[hpl]at h;cases h
  |some q=>
   obtain⟨off,size⟩:=q
   rw[hpl]at h
   simp only at h
   cases hl:FC size x.cells with
   |false=>rw[hl]at h;cases h
   |true=>
    rw[hl]at h
    simp only[cond_true]at h
    split at h
    ·rename_i old' e
     have hx:=Wp hl
     have hle:=All2.length hp
     obtain⟨h1,h2⟩:=All2.splice e ho hp
     have hsz:y.cells.size=size:=by simp at hle;omega
     have hfold:y.cells.zipIdx.foldl (fun cs (c,j)=>cs.setIfInBounds (off+j) c) vs=CK vs off y.cells.toList:=by
      rw[←Array.foldl_toList,Array.toList_zipIdx]
      exact aIU y.cells.toList 0 vs off
     obtain⟨vs',h3,h4⟩:=vZ AY h h1 ht
     refine⟨vs',?_,h4⟩
     simp only[Instr.fill,hpl]
     rw[if_neg (by simp at h2;simp[hsz];omega)]
     rw[hfold]
     exact h3
    ·cases h
theorem cH{P:Program}{σ:Sit}{T:TypeId}{x:SV}(h:FK P T=some x):∃z,Be σ x z/\∀w,(zeroValue T).run P w=.ok z w:=by
 unfold FK at h;split at h
 ·rename_i i e;split at h
  ·rename_i z e2;exact⟨z,zX h,fun w=>by simp[zeroValue,typeInfo,e,e2]⟩
  ·cases h
 ·cases h
theorem Cz{P:Program}{T:TypeId}{d:TypeDesc}(h:P.underlying T=some d)(w:World):(underlying T).run P w=.ok d w:=by
 simp[underlying,h]
theorem jA{P:Program}{T:TypeId}{b:Bool}(h:Hb P T=some b)(w:World):(isAgg T).run P w=.ok b w:=by
 unfold Hb at h;unfold isAgg;split at h
 ·rename_i e;cases h;simp[underlying,e]
 ·rename_i e;cases h;simp[underlying,e]
 ·rename_i d e1 e2 e3;cases h;simp only[bu,Cz e3,ax];cases d<;>first|rfl|exact absurd e3 (e1 _)|exact absurd e3 (e2 _ _)
 ·cases h
theorem E6{P:Program}{T:TypeId}{w:World}(h:∃i,P.info? T=some i):(oi T).run P w=.ok (P.cellsOf T) w:=by
 obtain⟨i,h⟩:=h;simp[oi,typeInfo,h,ka]
theorem aM{P:Program}{T:TypeId}{d:TypeDesc}(h:P.underlying T=some d):∃i,P.info? T=some i:=by
 unfold Program.underlying at h;cases e:P.info? T with
 |some i=>exact⟨i,rfl⟩
 |none=>rw[e]at h;cases h
theorem aHD{P:Program}{T:TypeId}{b:Bool}(h:Hb P T=some b):∃d,P.underlying T=some d:=by
 unfold Hb at h;split at h
 ·exact⟨_,by assumption⟩
 ·exact⟨_,by assumption⟩
 ·exact⟨_,by assumption⟩
 ·cases h
def qR(σ:Sit)(cs:List SC)(off:Nat)(y:Value):Prop:=∃r o vs T fz ds,y=.pointer (some ⟨r,o+off,none⟩)/\σ.w.heap[r]? = some (.cells vs T fz)/\All2 (Ay σ) cs ds/\∀(j:Nat) (d:Value),ds[j]? = some d->vs[o+j]? = some d
theorem ZP{base:Base}{S0:Nat->Prop}{σ:Sit}(ho:Ok base S0 σ){c:SC}{y:Value}{cs:List SC}{off:Nat}(hc:Ay σ c y)(h:M6 σ.mem c=some (cs,off)):qR σ cs off y:=by
 unfold M6 at h;split at h
 ·rename_i b off';split at h
  ·rename_i cs' e;cases h;obtain⟨_,_,hm⟩:=hc;rw[e]at hm;obtain⟨r,hr,rfl⟩:=hm;have he:=ho.ent b;unfold AA at he;rw[e]at he;obtain⟨r',vs,T,h1,h2,h3⟩:=he;rw[hr]at h1;cases h1;exact⟨r,0,vs,T,(0,0),vs.toList,by simp,h2,h3,fun j d hj=>by simpa using hj⟩
  ·cases h
 ·rename_i b i off';split at h
  ·rename_i τ xs e;cases h;obtain⟨_,_,hm⟩:=hc;rw[e]at hm;obtain⟨hi,r,hr,rfl⟩:=hm;obtain⟨_,_,vs,T,h2,h3,h4⟩:=jE (ho.ent b) e hr;have hx:xs[i]? = some (xs.getD i τ.dflt):=by
    rw[al,ay hi];rfl
   obtain⟨ds,d1,d2⟩:=h4 i _ hx;exact⟨r,i*τ.width,vs,T,(0,0),ds,rfl,h2,M7 d1,fun j d hj=>by simpa using d2 j d hj⟩
  ·cases h
 ·rename_i τ x off';cases h;obtain⟨r,o,vs,T,fz,ds,rfl,_,h2,h3,h4⟩:=hc;exact⟨r,o,vs,T,fz,ds,rfl,h2,M7 h3,h4⟩
 ·cases h
theorem aJ0{P:Program}{σ:Sit}{T:TypeId}{cs l:List SC}{off:Nat}{y:Value}(hl:qR σ cs off y)(hT:Hb P T=some true)(h:Hu (P.cellsOf T) (DR off cs)=some l):
  ∃v,(Instr.loadAt T y).run P σ.w=.ok v σ.w/\Be σ (.agg l) v:=by
 obtain⟨r,o,vs,T',fz,ds,rfl,h2,h3,h4⟩:=hl;obtain⟨h5,h6⟩:=zZ h;rw[ZV]at h5 h6;have hlen:=h3.length;have hn:P.cellsOf T<=(ds.drop off).length:=by simp at h6⊢;omega
 have hcells:=run_loadCells_list (P:=P) (w:=σ.w) ⟨r,o+off,none⟩ ((ds.drop off).take (P.cellsOf T)) (fun j v hj=>by
  rw[Kl,jK h2];have hj':=(au.1 hj).1;rw[ck (by simp at hj';omega),di]at hj;rw[gh];exact h4 _ _ hj)
 rw[show((ds.drop off).take (P.cellsOf T)).length=P.cellsOf T by rw[List.length_take];omega]at hcells;refine⟨.agg ((ds.drop off).take (P.cellsOf T)).toArray,?_,⟨_,rfl,?_⟩⟩
 ·unfold Instr.loadAt loadVar Instr.sureAddr;obtain⟨d,hd⟩:=aHD hT;simp[jA hT,E6 (aM hd),hcells]
 ·rw[h5];exact(h3.drop off).take _
theorem aJ1{P:Program}{σ:Sit}{T:TypeId}{cs l:List SC}{c:SC}{off:Nat}{y:Value}(hl:qR σ cs off y)(hT:Hb P T=some false)(h:DR off cs=c::l):
  ∃v,(Instr.loadAt T y).run P σ.w=.ok v σ.w/\Ay σ c v:=by
 obtain⟨r,o,vs,T',fz,ds,rfl,h2,h3,h4⟩:=hl;rw[ZV]at h;have hc:cs[off]? = some c:=by
  have:=congrArg (fun l=>l[0]?) h;simpa using this
 obtain⟨v,hv,hR⟩:=h3.get hc;refine⟨v,?_,hR⟩;unfold Instr.loadAt loadVar Instr.sureAddr;have:σ.w.cell? ⟨r,o+off,none⟩=some v:=by rw[jK h2];exact h4 off v hv
 simp[jA hT,this]
theorem x7{P:Program}{T:TypeId}{cs l:List SC}{σ:Sit}{ys:List Value}{d:Nat}(ha:All2 (Ay σ) cs ys)(hT:Hb P T=some true)(h:Hu (P.cellsOf T) (DR d cs)=some l)(w:World):
  ∃v,(part T ys.toArray d).run P w=.ok v w/\Be σ (.agg l) v:=by
 obtain⟨h5,h6⟩:=zZ h;rw[ZV]at h5 h6;obtain⟨dd,hd⟩:=aHD hT;refine⟨.agg (ys.toArray.extract d (d+P.cellsOf T)),?_,⟨(ys.drop d).take (P.cellsOf T),?_,?_⟩⟩
 ·unfold part;simp[jA hT,E6 (aM hd)]
 ·simp
 ·rw[h5];exact(ha.drop d).take _
theorem x8{P:Program}{T:TypeId}{cs l:List SC}{c:SC}{σ:Sit}{ys:List Value}{d:Nat}(ha:All2 (Ay σ) cs ys)(hT:Hb P T=some false)(h:DR d cs=c::l)(w:World):
  ∃v,(part T ys.toArray d).run P w=.ok v w/\Ay σ c v:=by
 rw[ZV]at h;have hc:cs[d]? = some c:=by
  have:=congrArg (fun l=>l[0]?) h;simpa using this
 obtain⟨v,hv,hR⟩:=ha.get hc;refine⟨v,?_,hR⟩;unfold part;simp[jA hT,hv]
theorem aVk{P:Program}{σ:Sit}{w:World}{d:Nat}{T:TypeId}{a b:SC}{u v:Value}{x:Bool}(ha:Ay σ a u)(hb:Ay σ b v)(e1:vV P T a b=some x):(Op.equalIn (d+1) T u v).run P w=.ok x w:=by
 unfold vV at e1;split at e1
 ·split at e1
  ·rename_i e;split at e1
   ·rename_i hk;subst hk;cases e1;obtain⟨rfl,_⟩:=ha;obtain⟨rfl,_⟩:=hb;exact run_equalIn_int w d _ _ _ _ _ e
   ·cases e1
  ·cases e1
 ·split at e1
  ·rename_i e;cases e1;obtain⟨rfl,_⟩:=ha;obtain⟨rfl,_⟩:=hb;exact run_equalIn_bool' w d _ _ _ e
  ·cases e1
 ·cases e1
theorem vW{P:Program}{σ:Sit}{w:World}:∀(k d:Nat) (fs:List Field) {as bs:List SC} {xs ys:List Value} {r:Bool},
  All2 (Ay σ) as xs->All2 (Ay σ) bs ys->Na P k fs as bs=some r->(Op.eqFields (d+k) xs.toArray ys.toArray fs).run P w=.ok r w
 |0,_,_,_,_,_,_,_,_,_,h=>by simp[Na]at h
 |k+1,d,[],_,_,_,_,_,_,_,h=>by simp only[Na]at h;cases h;simp[Op.eqFields]
 |k+1,d,f::fs,as,bs,xs,ys,r,ha,hb,h=>by
  simp only[Na]at h
  obtain⟨h2,h⟩:=AF h
  simp only[bne_iff_ne]at h2
  split at h
  ·rename_i x r' e1 e2
   have ih:=vW (w:=w) k (d+1) fs ha hb e2
   rw[show d+1+k=d+(k+1) by omega]at ih
   have key:∃u v,(part f.type xs.toArray f.offset).run P w=.ok u w/\(part f.type ys.toArray f.offset).run P w=.ok v w/\(Op.equalIn (d+(k+1)) f.type u v).run P w=.ok x w:=by
    split at e1
    ·rename_i hT
     split at e1
     ·rename_i gs hu
      cases hs:P.stoodInHeld f.type with
      |true=>rw[hs]at e1;cases e1
      |false=>
       rw[hs]at e1
       simp only[cond_false]at e1
       split at e1
       ·rename_i a b ea eb
        obtain⟨u,p1,q1⟩:=x7 ha hT ea w
        obtain⟨v,p2,q2⟩:=x7 hb hT eb w
        refine⟨u,v,p1,p2,?_⟩
        obtain⟨us,rfl,q1⟩:=q1
        obtain⟨vs,rfl,q2⟩:=q2
        have hf:P.fieldsOf f.type=gs:=by simp[nd,hu]
        rw[show d+(k+1)=d+k+1 by omega,run_equalIn_struct w (d+k) _ _ _ (by rw[hf];exact hu) hs,hf]
        exact vW k d gs.toList q1 q2 e1
       ·cases e1
     ·cases e1
    ·rename_i hT
     split at e1
     ·rename_i a _ b _ ea eb
      obtain⟨u,p1,q1⟩:=x8 ha hT ea w
      obtain⟨v,p2,q2⟩:=x8 hb hT eb w
      exact⟨u,v,p1,p2,aVk (d:=d+k) q1 q2 e1⟩
     ·cases e1
    ·cases e1
   obtain⟨u,v,p1,p2,p3⟩:=key
   have hr:r=(x&&r'):=by
    cases fs with
    |nil=>
     simp only at h;cases h
     cases k<;>simp[Na]at e2
     subst e2;simp
    |cons _ _=>simp only at h;cases h;rfl
   simp only[Op.eqFields,if_pos h2,bu,p1,p2,ax,p3]
   rw[hr]
   cases x
   ·simp
   ·simpa using ih
  ·cases h
theorem aIB{P:Program}{σ:Sit}{w:World}{T:TypeId}{X Y:Operand}{fs:Array Field}{a b:List SC}{y z:Value}{r:Bool}(hT:P.underlying T=some (.struct fs))
  (h1:P.eqGuardType P.depth T=false) (h2:P.stoodInHeld T=false) (ha:Be σ (.agg a) y) (hb:Be σ (.agg b) z) (h:Na P 40 fs.toList a b=some r) :
  (do eqGuard .eql T X Y y z;binOp .eql T y z:Sem Value).run P w=.ok (.bool r) w/\(do eqGuard .neq T X Y y z;binOp .neq T y z:Sem Value).run P w=.ok (.bool !r) w:=by
 obtain⟨xs,rfl,ha⟩:=ha;obtain⟨ys,rfl,hb⟩:=hb;have he:(Op.equal T (.agg xs.toArray) (.agg ys.toArray)).run P w=.ok r w:=by
  unfold Op.equal Op.maxDepth;rw[run_equalIn_struct w 9999 T _ _ (by simp[nd,hT]) h2];have hf:P.fieldsOf T=fs:=by simp[nd,hT]
  rw[hf];exact vW 40 9959 fs.toList ha hb h
 constructor
 ·simp[eqGuard,binOp,h1,he]
 ·simp[eqGuard,binOp,h1,he]
end Vx
namespace Vx
open Go Go.RowKit
def Ha:Blk->Prop
 |.acc _ _=>True
 |_=>False
structure Moves (f:SC->SC) (σ σ':Sit):Prop where
 stab:∀r,σ.S r->σ'.S r
 heap:∀r,σ.S r->σ'.w.heap[r]? = σ.w.heap[r]?
 rep:∀c y,Ay σ c y->Ay σ' (f c) y
 len:σ.mem.length<=σ'.mem.length
 noacc:∀b,b<σ.mem.length->Ha (Ac σ'.mem b)->Ha (Ac σ.mem b)
theorem Goes.noacc{σ σ':Sit}(h:Goes σ σ')(b:Nat)(hb:b<σ.mem.length)(ha:Ha (Ac σ'.mem b)):Ha (Ac σ.mem b):=by
 have ht:=h.turns b hb;unfold Bm at ht;cases e:Ac σ.mem b with
 |gone=>rw[e]at ht;simp only at ht;rw[ht]at ha;exact ha
 |raw cs=>rw[e]at ht;rcases ht with⟨_,cs',h2⟩|h2<;>(rw[h2]at ha;exact ha)
 |arr τ xs=>
  rw[e]at ht;rcases ht with⟨_,_,xs',h2,_⟩|⟨xs',h2,_⟩|h2
  ·rw[h2]at ha;exact ha
  ·rw[h2]at ha;exact ha
  ·rw[h2]at ha;exact ha
 |acc τ xs=>trivial
 |froz τ xs=>rw[e]at ht;simp only at ht;rw[ht]at ha;exact ha
 |itr s p=>rw[e]at ht;rcases ht with⟨_,_,_,h2⟩|h2<;>(rw[h2]at ha;exact ha)
theorem Goes.moves{σ σ':Sit}(h:Goes σ σ'):Moves id σ σ':=⟨h.stab,h.heap,fun _ _=>h.repC,h.len,h.noacc⟩
def By(C:Cfg)(base:Base)(S0:Nat->Prop)(f:SC->SC)(σ:Sit)(a:Act)(o:Oper)(x:TV)(mem':Ai):Prop:=∀(K:Act->World->Prop) (Q:Exit->Act->World->Prop),(∀(v:Value) (σ':Sit),Ok base S0 σ'->Moves f σ σ'->σ'.mem=mem'->A7 σ' x v->K (a.put o.dst v) σ'.w)->o.wp C.P a σ.w K Q
theorem AO{C:Cfg}{base:Base}{S0:Nat->Prop}{f:SC->SC}{σ σ':Sit}{a:Act}{o:Oper}{x:TV}{mem':Ai}{v:Value}
  (hex:(execOp a.eval o).run C.P σ.w=.ok (.value v) σ'.w) (ho:Ok base S0 σ') (hm:Moves f σ σ') (hmem:σ'.mem=mem') (hr:A7 σ' x v):By C base S0 f σ a o x mem':=by
 intro K Q hK;unfold Oper.wp;rw[hex];exact hK v σ' ho hm hmem hr
theorem aJD{C:Cfg}{base:Base}{S0:Nat->Prop}{f:SC->SC}{σ σ':Sit}{a:Act}{o:Oper}{x:TV}{mem':Ai}
  (hex:(execOp a.eval o).run C.P σ.w=.ok .skip σ'.w) (ho:Ok base S0 σ') (hm:Moves f σ σ') (hmem:σ'.mem=mem') (hr:A7 σ' x undef):By C base S0 f σ a o x mem':=by
 intro K Q hK;unfold Oper.wp;rw[hex];exact hK undef σ' ho hm hmem hr
theorem Bx{P:Program}{s:Sem Value}{w w':World}{v:Value}(h:s.run P w=.ok v w'):(do pure (Next.value (←s)):Sem Next).run P w=.ok (.value v) w':=by
 simp[h]
variable {C:Cfg}{base:Base}{S0:Nat->Prop}{σ:Sit}{s:St}{a:Act}{ctx:List (Nat×Bool)}{o:Oper}
theorem aYb(hr:RelT σ s a)(hx:Bb a ctx){t:Nat}{A B:Operand}{cb x y:Bool}(hc:AR s ctx (.tmp t)=some (.v (.bool cb)))(hA:AR s ((t,true)::ctx) A=some (.v (.bool x)))
  (hB:AR s ((t,false)::ctx) B=some (.v (.bool y))):a.eval (.tmp t)=.bool cb/\(if cb then a.eval A else a.eval B)=.bool (bif cb then x else y):=by
 have h1:a.eval (.tmp t)=.bool cb:=(Bk hr hx hc).1;refine⟨h1,?_⟩;have hctx:∀b,cb=b->Bb a ((t,b)::ctx):=fun b hb t' p hm=>by
  rcases cn.1 hm with h|h
  ·cases h;rw[←hb];exact h1
  ·exact hx t' p h
 cases cb with
 |true=>exact(Bk hr (hctx true rfl) hA).1
 |false=>exact(Bk hr (hctx false rfl) hB).1
theorem So{w:World}{o:Obj}:(w.alloc o).heap[w.heap.size]? = some o:=by
 show(w.heap.push o)[w.heap.size]? = _;simp
theorem aLK(ho:Ok base S0 σ){T:TypeId}{x:SV}{z:Value}(hz:Be σ x z):Ok base S0 (σ.push (.raw x.cells) (.cells z.cells T) 0)/\Goes σ (σ.push (.raw x.cells) (.cells z.cells T) 0) /\
  Ay (σ.push (.raw x.cells) (.cells z.cells T) 0) (.ptr σ.mem.length 0) (.pointer (some ⟨σ.w.heap.size,0,none⟩)):=by
 have hg:=WK ho (.raw x.cells) (.cells z.cells T) 0;have hblk:Ac (σ.push (.raw x.cells) (.cells z.cells T) 0).mem σ.mem.length=.raw x.cells:=Is;have hheap:(σ.push (.raw x.cells) (.cells z.cells T) 0).w.heap[σ.w.heap.size]? = some (.cells z.cells T (0,0)):=So;refine⟨bF ho _ _ _ ?_,hg,?_⟩
 ·unfold AA;rw[hblk];exact⟨σ.w.heap.size,z.cells,T,by simp[Sit.push,AD],hheap,hz.cells.mono fun _ _=>hg.repC⟩
 ·refine⟨by simp[Sit.push],⟨_,rfl⟩,?_⟩;rw[hblk];exact⟨σ.w.heap.size,by simp[Sit.push,AD],rfl⟩
theorem uY(ho:Ok base S0 σ){T:TypeId}{τ:Shape}{xs:List (Ab τ)}{vs:Array Value}{k:Nat}(hk:xs.length<=k)(hl:k<BJ)(hsz:vs.size=k*τ.width)(hrow:Rows σ.w σ.S τ vs 0 xs):
  Ok base S0 (σ.push (.arr τ xs) (.cells vs T) k)/\Goes σ (σ.push (.arr τ xs) (.cells vs T) k)/\Ac (σ.push (.arr τ xs) (.cells vs T) k).mem σ.mem.length=.arr τ xs /\
  (σ.push (.arr τ xs) (.cells vs T) k).E.β σ.mem.length=some σ.w.heap.size/\(σ.push (.arr τ xs) (.cells vs T) k).E.κ σ.mem.length=k:=by
 have hg:=WK ho (.arr τ xs) (.cells vs T) k;have hblk:Ac (σ.push (.arr τ xs) (.cells vs T) k).mem σ.mem.length=.arr τ xs:=Is;have hheap:(σ.push (.arr τ xs) (.cells vs T) k).w.heap[σ.w.heap.size]? = some (.cells vs T (0,0)):=So;have hκ:(σ.push (.arr τ xs) (.cells vs T) k).E.κ σ.mem.length=k:=by simp[Sit.push,AD]
 refine⟨bF ho _ _ _ ?_,hg,hblk,by simp[Sit.push,AD],hκ⟩;unfold AA;rw[hblk];exact⟨by rw[hκ];exact hk,by rw[hκ];exact hl,.inr ⟨σ.w.heap.size,vs,T,by simp[Sit.push,AD],hheap,by rw[hκ];exact hsz,hrow.mono hg.stab hg.heap⟩⟩
theorem zI{P:Program}{T:TypeId}{z:Value}{w:World}:(newVar T z).run P w=.ok ⟨w.heap.size,0,none⟩ (w.alloc (.cells z.cells T)):=by
 simp[newVar,newRow]
theorem aHP:(1048576:Nat)<BJ:=by unfold BJ;omega
theorem aKy{τ:Shape}{n:Nat}{cs:List SC}{xs:List (Ab τ)}(h:Ss τ n cs=some xs):TZ τ n cs=some xs/\n<=1048576:=by
 unfold Ss at h;cases hb:Nat.ble n 1048576 with
 |false=>rw[hb]at h;cases h
 |true=>rw[hb]at h;exact⟨h,iy hb⟩
theorem aL0{τ:Shape}{n:Nat}{cs:List SC}{z:Value}{xs:List (Ab τ)}(hz:All2 (Ay σ) cs z.cells.toList)(h:Ss τ n cs=some xs):
  xs.length=n/\z.cells.size=xs.length*τ.width/\Rows σ.w σ.S τ z.cells 0 xs/\xs.length<BJ:=by
 obtain⟨h,hn⟩:=aKy h;obtain⟨h1,h2,h3⟩:=x6 hz h;refine⟨h1,by rw[h1];simpa using h2,fun i x hi=>?_,by have:=aHP;omega⟩;obtain⟨ds,d1,d2⟩:=h3 i x hi;exact⟨ds,d1,fun j d hj=>by simpa using d2 j d hj⟩
theorem Kt{P:Program}{e:TypeId}{τ:Shape}(h:CS P e=some τ):P.cellsOf e=τ.width:=by
 unfold CS at h;split at h
 ·rename_i τ' e';cases hb:Nat.beq (P.cellsOf e) τ'.width with
  |false=>rw[hb]at h;cases h
  |true=>rw[hb]at h;cases h;exact ah hb
 ·cases h
theorem aLG{σ':Sit}{b r n:Nat}{τ:Shape}{xs:List (Ab τ)}(hb:b<σ'.mem.length)(h:Ac σ'.mem b=.arr τ xs)(hr:σ'.E.β b=some r):Ay σ' (.ptr b n) (.pointer (some ⟨r,n,none⟩)):=by
 refine⟨hb,⟨_,rfl⟩,?_⟩;rw[h];exact⟨r,hr,rfl⟩
theorem vY{P:Program}{T:TypeId}{i:Nat}{d:Nat}{ft:TypeId}(h:ZY P T i=some (d,ft))(w:World)(r o:Nat):
  (Instr.fieldAt T (.pointer (some ⟨r,o,none⟩)) i).run P w=.ok (.pointer (some ⟨r,o+d,none⟩)) w:=by
 unfold ZY at h;split at h
 ·rename_i fs e;split at h
  ·rename_i f ef;cases hb:Nat.beq (P.cellsOf f.type) 0 with
   |true=>rw[hb]at h;cases h
   |false=>
    rw[hb]at h;cases h;have hne:P.cellsOf f.type≠0:=fun e=>by rw[e]at hb;cases hb
    have hi:∃i,P.info? f.type=some i:=by
     unfold ka at hne;cases hq:P.info? f.type with
     |none=>rw[hq]at hne;exact absurd rfl hne
     |some i=>exact⟨i,rfl⟩
    have ef':fs[i]? = some f:=by simpa using ef
    unfold Instr.fieldAt;simp only[bu,Cz e,ax,ef',Instr.sureAddr,de,fieldPlace,E6 hi];rw[if_neg hne];simp[Kl]
  ·cases h
 ·cases h
def Sit.fresh(σ:Sit)(o:Obj):Sit:={E:=σ.E,mem:=σ.mem,w:=σ.w.alloc o,S:=fun r=>σ.S r∨r=σ.w.heap.size}
theorem aIZ(ho:Ok base S0 σ)(o:Obj):Goes σ (σ.fresh o):=
 ⟨fun _ h=>.inl h,fun r hr=>Nl (ho.stab r hr).1,bj _,fun _ _=>Bm.refl rfl rfl rfl⟩
theorem aVB(ho:Ok base S0 σ)(o:Obj):Ok base S0 (σ.fresh o):=by
 refine⟨ho.below.alloc o,fun r h=>.inl (ho.stab0 r h),fun r h=>?_,fun b=>?_,fun b r h=>?_,fun b b' r h h'=>ho.inj b b' r h h'⟩
 ·rcases h with h|h
  ·have:=ho.stab r h;exact⟨by simp only[Sit.fresh,ga];omega,this.2⟩
  ·subst h;exact⟨by simp[Sit.fresh],.inr (.inl ho.below.size)⟩
 ·exact AA.keep (aIZ ho o) rfl rfl rfl (fun r hr=>Nl (ho.own b r hr).2.1) (ho.ent b)
 ·have:=ho.own b r h;refine⟨this.1,by simp only[Sit.fresh,ga];omega,fun hs=>?_⟩;rcases hs with hs|hs
  ·exact this.2.2 hs
  ·omega
theorem aK8{P:Program}:∀{l:List Field},l.all (fun f=>(P.info? f.type).isSome)=true ->
  l.mapM (fun f=>(P.info? f.type).map fun i=>(f.offset,i.size))=some (l.map fun f=>(f.offset,P.cellsOf f.type))
 | [],_=>rfl
 |f::l,h=>by
  simp only[List.all_cons,af]at h
  obtain⟨i,hi⟩:=mv.1 h.1
  simp[List.mapM_cons,hi,aK8 h.2,ka]
theorem qF{P:Program}{T:TypeId}{x:SV}(h:FK P T=some x):∃i z,P.info? T=some i/\i.zero=some z/\∀σ:Sit,Be σ x z:=by
 unfold FK at h;split at h
 ·rename_i i e;split at h
  ·rename_i z e2;exact⟨i,z,e,e2,fun σ=>zX h⟩
  ·cases h
 ·cases h
theorem aWl{v:Value}{l:Array Value}{i:Nat}(h:l[i]? = some v):l[i]! = v:=by
 rw[getElem!_def,h]
theorem aKw{z:Array Value}{n j:Nat}{v:Value}(hj:j<n)(h:z[j%z.size]? = some v):(madeCells z n)[j]? = some v:=by
 unfold madeCells;simp[hj,aWl h]
theorem aVr{R:SC->Value->Prop}{zc:List SC}{zv:Array Value}(h:All2 R zc zv.toList)(hw:0<zv.size):∀n,All2 R (ar n zc).flatten (madeCells zv (n*zv.size)).toList:=by
 intro n;have hl:=h.length;simp at hl;refine All2.of_get (by simp[hl,size_madeCells]) fun i c hi=>?_;have hlt:=(au.1 hi).1;simp[hl]at hlt;have hm:i%zv.size<zc.length:=by rw[hl];exact Nat.mod_lt _ hw
 have hc:zc[i%zv.size]? = some c:=by
  clear hm;have key:∀(n i:Nat) (c:SC),(ar n zc).flatten[i]? = some c->zc[i%zv.size]? = some c:=by
   intro n;induction n with
   |zero=>intro i c h;simp at h
   |succ n ih=>
    intro i c h;rw[List.replicate_succ,List.flatten_cons]at h;rcases aq i zc.length with hlt|hge
    ·rw[cd hlt]at h;rw[Nat.mod_eq_of_lt (by omega)];exact h
    ·rw[bv hge]at h;have:=ih _ _ h;rw[hl]at this hge;rw[Nat.mod_eq_sub_mod hge];exact this
  exact key n i c hi
 obtain⟨v,hv,hR⟩:=h.get hc;refine⟨v,?_,hR⟩;have:=aKw (z:=zv) (n:=n*zv.size) hlt (by simpa using hv);simpa using this
end Vx
namespace Vx
open Go Go.RowKit
def aAl(C:Cfg)(w:World)(S:Nat->Prop):Prop:=∀g τ xs,C.glob g=some ⟨τ,xs⟩->S g/\∃vs T fz,w.heap[g]? = some (.cells vs T fz)/\Rows w S τ vs 0 xs
variable {C:Cfg}{base:Base}{S0:Nat->Prop}{σ:Sit}{s:St}{a:Act}{ctx:List (Nat×Bool)}{o:Oper}{x:TV}{mem':Ai}
theorem aKW(ho:Ok base S0 σ)(hr:RelT σ s a)(hx:Bb a ctx){y:Operand}(hop:o.op=.move y∨o.op=.assign y)(h:As C s ctx o=some (.ok true x mem')):By C base S0 id σ a o x mem':=by
 have h':ev s ctx y=some x/\mem'=s.mem:=by
  unfold As at h;rcases hop with hop|hop<;>(rw[hop]at h;simp only at h;split at h)<;>first|(rename_i e;cases h;exact⟨e,rfl⟩)|cases h
 refine AO (σ':=σ) (v:=a.eval y) ?_ ho (Goes.refl σ).moves (hr.mem.trans h'.2.symm) (VC hr hx h'.1);rcases hop with hop|hop<;>simp[execOp,hop]
theorem aXU(ho:Ok base S0 σ)(hr:RelT σ s a)(hx:Bb a ctx){c A B:Operand}(hop:o.op=.pick c A B)(h:As C s ctx o=some (.ok true x mem')):By C base S0 id σ a o x mem':=by
 unfold As at h;rw[hop]at h;simp only at h;cases c with
 |tmp t=>
  simp only at h;split at h
  ·rename_i cb bx bz e1 e2 e3;obtain⟨h1,h2⟩:=aYb hr hx e1 e2 e3;have hm:mem'=s.mem/\x=.val (.one (.v (.bool (bif cb then bx else bz)))):=by
    split at h
    ·cases bx with
     |true=>simp only[ab,Res.ok.injEq,true_and]at h;obtain⟨rfl,rfl⟩:=h;exact⟨rfl,by cases cb<;>rfl⟩
     |false=>simp only[ab,Res.ok.injEq,true_and]at h;obtain⟨rfl,rfl⟩:=h;exact⟨rfl,rfl⟩
    ·cases bz with
     |true=>simp only[ab,Res.ok.injEq,true_and]at h;obtain⟨rfl,rfl⟩:=h;exact⟨rfl,rfl⟩
     |false=>simp only[ab,Res.ok.injEq,true_and]at h;obtain⟨rfl,rfl⟩:=h;exact⟨rfl,by cases cb<;>cases bx<;>rfl⟩
    ·simp only[ab,Res.ok.injEq,true_and]at h;obtain⟨rfl,rfl⟩:=h;exact⟨rfl,rfl⟩
   refine AO (σ':=σ) (v:=.bool (bif cb then bx else bz)) ?_ ho (Goes.refl σ).moves (hr.mem.trans hm.1.symm) (by rw[hm.2];exact⟨rfl,trivial⟩);simp only[execOp,hop];rw[h1];simp only[asBool];simp;exact h2
  ·cases h
 |const _=>cases h
 |global _=>cases h
 |func _=>cases h
theorem aXt(ho:Ok base S0 σ)(hr:RelT σ s a){T:TypeId}(hop:o.op=.alloc T)(h:As C s ctx o=some (.ok true x mem')):By C base S0 id σ a o x mem':=by
 unfold As at h;rw[hop]at h;simp only at h;have hex:∀z,(zeroValue T).run C.P σ.w=.ok z σ.w->(execOp a.eval o).run C.P σ.w=.ok (.value (.pointer (some ⟨σ.w.heap.size,0,none⟩))) (σ.w.alloc (.cells z.cells T)):=fun z hz=>by
  simp only[execOp,hop,Instr.alloc];simp[hz,zI]
 split at h
 ·rename_i z n e hz hT;obtain⟨zv,h1,h2⟩:=cH (σ:=σ) hz;split at h
  ·rename_i τ eτ;split at h
   ·rename_i xs exs;simp only[ab,Res.ok.injEq,true_and]at h;obtain⟨rfl,rfl⟩:=h;obtain⟨g1,g2,g3,hlim⟩:=aL0 h1.cells exs
    ·obtain⟨k1,k2,k3,k4,_⟩:=uY ho (T:=T) (bj _) hlim g2 g3;refine AO (σ':=σ.push (.arr τ xs) (.cells zv.cells T) xs.length) (hex zv (h2 _)) k1 k2.moves (by simp[Sit.push,hr.mem]) ?_;rw[←hr.mem];exact aLG (by simp[Sit.push]) k3 k4
   ·cases h
  ·cases h
 ·rename_i z _ _ hz hT;obtain⟨zv,h1,h2⟩:=cH (σ:=σ) hz;simp only[ab,Res.ok.injEq,true_and]at h;obtain⟨rfl,rfl⟩:=h;obtain⟨k1,k2,k3⟩:=aLK ho (T:=T) h1;refine AO (σ':=σ.push (.raw z.cells) (.cells zv.cells T) 0) (hex zv (h2 _)) k1 k2.moves (by simp[Sit.push,hr.mem]) ?_;rw[←hr.mem];exact k3
 ·cases h
theorem aXw(ho:Ok base S0 σ)(hr:RelT σ s a)(hx:Bb a ctx){T:TypeId}{y:Operand}(hop:o.op=.box T y)(h:As C s ctx o=some (.ok true x mem')):By C base S0 id σ a o x mem':=by
 unfold As at h;rw[hop]at h;simp only at h;have hex:(execOp a.eval o).run C.P σ.w=.ok (.value (.pointer (some ⟨σ.w.heap.size,0,none⟩))) (σ.w.alloc (.cells (a.eval y).cells T)):=by
  simp only[execOp,hop,Instr.box];simp[zI]
 split at h
 ·rename_i z n e hz hT;have h1:=He hr hx hz;split at h
  ·rename_i τ eτ;split at h
   ·rename_i xs exs;simp only[ab,Res.ok.injEq,true_and]at h;obtain⟨rfl,rfl⟩:=h;obtain⟨g1,g2,g3,hlim⟩:=aL0 h1.cells exs
    ·obtain⟨k1,k2,k3,k4,_⟩:=uY ho (T:=T) (bj _) hlim g2 g3;refine AO (σ':=σ.push (.arr τ xs) (.cells (a.eval y).cells T) xs.length) hex k1 k2.moves (by simp[Sit.push,hr.mem]) ?_;rw[←hr.mem];exact aLG (by simp[Sit.push]) k3 k4
   ·cases h
  ·cases h
 ·rename_i z _ _ hz hT;have h1:=He hr hx hz;simp only[ab,Res.ok.injEq,true_and]at h;obtain⟨rfl,rfl⟩:=h;obtain⟨k1,k2,k3⟩:=aLK ho (T:=T) h1;refine AO (σ':=σ.push (.raw z.cells) (.cells (a.eval y).cells T) 0) hex k1 k2.moves (by simp[Sit.push,hr.mem]) ?_;rw[←hr.mem];exact k3
 ·cases h
theorem aHZ{P:Program}{σ:Sit}{T:TypeId}{parts:List (Nat×SV)}{qs:List (Nat×Value)}{z:SV}{cs:List SC}{AY:Nat->Option (Nat×Nat)}(hz:FK P T=some z)
  (hps:All2 (fun p q=>p.1=q.1/\Be σ p.2 q.2) parts qs) (h:IN AY parts z.cells=some cs) (hb:∀zv i,P.info? T=some i->i.zero=some zv->P.built T qs=Instr.fill AY zv.cells qs) (w:World) :
  ∃v,(Instr.build T qs.toArray).run P w=.ok v w/\Be σ (.agg cs) v:=by
 obtain⟨i,zv,h1,h2,h3⟩:=qF hz
 obtain⟨vs',h4,h5⟩:=vZ AY h (h3 σ).cells (hps.mono fun p q hpq=>⟨hpq.1,hpq.2.cells⟩)
 exact⟨.agg vs',run_build w T qs.toArray vs' (by simpa using(hb zv i h1 h2).trans h4),vs'.toList,by simp,h5⟩
theorem aXx(ho:Ok base S0 σ)(hr:RelT σ s a)(hx:Bb a ctx){T:TypeId}{parts:Array (Nat×Operand)}(hop:o.op=.build T parts)(h:As C s ctx o=some (.ok true x mem')):By C base S0 id σ a o x mem':=by
 unfold As at h;rw[hop]at h;simp only at h;have hparts:(parts.map fun(i,x)=>(i,a.eval x))=(parts.toList.map fun p=>(p.1,a.eval p.2)).toArray:=by
  apply fu.1;simp
 split at h
 ·rename_i z ps fs hz hps hT;cases hb:fs.toList.all (fun f=>(C.P.info? f.type).isSome)with
  |false=>rw[hb]at h;cases h
  |true=>
   rw[hb]at h;simp only[cond_true]at h;split at h
   ·rename_i cs ecs;simp only[ab,Res.ok.injEq,true_and]at h;obtain⟨rfl,rfl⟩:=h;obtain⟨v,h1,h2⟩:=aHZ (P:=C.P) (σ:=σ) hz (j7 hr hx hps) ecs (fun zv i hi hzv=>by
     unfold ql;simp only[hi,hT,hzv,aK8 hb];congr 1;funext i;simp only[List.getElem?_toArray,List.getElem?_map];cases fs.toList[i]?<;>rfl) σ.w
    exact AO (σ':=σ) (v:=v) (by simp only[execOp,hop];rw[hparts];exact Bx h1) ho (Goes.refl σ).moves hr.mem h2
   ·cases h
 ·rename_i z ps n e hz hps hT;cases hb:(C.P.info? e).isSome with
  |false=>rw[hb]at h;cases h
  |true=>
   rw[hb]at h;simp only[cond_true]at h;split at h
   ·rename_i cs ecs;simp only[ab,Res.ok.injEq,true_and]at h;obtain⟨rfl,rfl⟩:=h;obtain⟨ie,hie⟩:=mv.1 hb;obtain⟨v,h1,h2⟩:=aHZ (P:=C.P) (σ:=σ) hz (j7 hr hx hps) ecs (fun zv i hi hzv=>by
     unfold ql;simp only[hi,hT,hzv,hie];simp[ka,hie]) σ.w
    exact AO (σ':=σ) (v:=v) (by simp only[execOp,hop];rw[hparts];exact Bx h1) ho (Goes.refl σ).moves hr.mem h2
   ·cases h
 ·cases h
theorem aXy(ho:Ok base S0 σ)(hr:RelT σ s a)(hx:Bb a ctx){T:TypeId}{n:Nat}{parts:Array (Nat×Operand)}(hop:o.op=.buildSlice T n parts)(h:As C s ctx o=some (.ok true x mem')):By C base S0 id σ a o x mem':=by
 unfold As at h;rw[hop]at h;simp only at h;have hparts:(parts.map fun(i,x)=>(i,a.eval x)).toList=(parts.toList.map fun p=>(p.1,a.eval p.2)):=by simp
 split at h
 ·rename_i e hT;split at h
  ·rename_i τ z ps eτ hz hps;cases hn0:(Nat.beq n 0&&ps.isEmpty)with
   |true=>
    rw[hn0]at h;simp only[cond_true,ab,Res.ok.injEq,true_and]at h;obtain⟨rfl,rfl⟩:=h;simp only[af]at hn0;have hn:=ah hn0.1;subst hn;have hp0:parts.toList=[]:=by
     cases hl:parts.toList with
     |nil=>rfl
     |cons q r=>
      rw[hl]at hps;simp only[Gn]at hps;split at hps
      ·cases hps;simp at hn0
      ·cases hps
    obtain⟨i,zv,hi,hzv,hzr⟩:=qF hz;have hsize:(oi e).run C.P σ.w=.ok (C.P.cellsOf e) σ.w:=E6 ⟨i,hi⟩;have hr0:qq 0=#[]:=Array.eq_empty_of_size_eq_zero (by simp);have hrun:(Instr.buildSlice T 0 (parts.map fun(i,x)=>(i,a.eval x))).run C.P σ.w=.ok (.slice (some ⟨σ.w.heap.size,0,none⟩) 0 0) (σ.w.alloc (.cells #[] e)):=by
     have h24:¬0*C.P.cellsOf e>2^24:=by omega
     unfold Instr.buildSlice;simp only[bu,Cz hT,ax,hsize];rw[if_neg h24];simp only[fd,if_true,de,ax,hparts,hp0,List.map_nil,Instr.fill];simp only[newRow,bu,de,newObj,Sem.run];rw[hr0];simp only[ax,show ∀f:Nat->Value,Array.map f #[]=#[]from fun f=>by simp];rfl
    have hg:=WK ho (.acc τ []) (.cells #[] e) 0;have hblk:Ac (σ.push (.acc τ []) (.cells #[] e) 0).mem σ.mem.length=.acc τ []:=Is;have hβ:(σ.push (.acc τ []) (.cells #[] e) 0).E.β σ.mem.length=some σ.w.heap.size:=by simp[Sit.push,AD]
    have hκ:(σ.push (.acc τ []) (.cells #[] e) 0).E.κ σ.mem.length=0:=by simp[Sit.push,AD]
    refine AO (σ':=σ.push (.acc τ []) (.cells #[] e) 0) (v:=.slice (some ⟨σ.w.heap.size,0,none⟩) 0 0) ?_ (bF ho _ _ _ ?_) hg.moves (by simp[Sit.push,hr.mem]) ?_
    ·simp only[execOp,hop];exact Bx hrun
    ·unfold AA;rw[hblk,hβ,hκ];exact⟨bj _,by unfold BJ;omega,.inr ⟨σ.w.heap.size,#[],e,rfl,So,by simp,fun i x hi=>by simp at hi⟩⟩
    ·rw[←hr.mem];refine⟨by simp[Sit.push],trivial,?_⟩;rw[hblk,hβ,hκ];rfl
   |false=>
   rw[hn0]at h;simp only[cond_false]at h;split at h
   ·rename_i cs ecs;cases hf:ES s.mem cs with
    |mk cs' m1=>
     rw[hf]at h;simp only at h;split at h
     ·rename_i xs exs;cases hb:(Nat.ble (n*C.P.cellsOf e) 16777216&&Nat.blt 0 (C.P.cellsOf e)&&FC (C.P.cellsOf e) z.cells&&Nat.blt 0 n)with
      |false=>rw[hb]at h;cases h
      |true=>
       rw[hb]at h;simp only[af]at hb;simp only[cond_true,ab,Res.ok.injEq,true_and]at h;obtain⟨rfl,rfl⟩:=h;have hle:=iy hb.1.1.1;have hpos:0<C.P.cellsOf e:=by simpa using hb.1.1.2
       obtain⟨i,zv,hi,hzv,hzr⟩:=qF hz;obtain⟨hmany,hn⟩:=aKy exs;have hw:=Kt eτ;have hzsz:zv.cells.size=C.P.cellsOf e:=by
        have:=(hzr σ).cells.length;rw[Wp hb.1.2]at this;simpa using this.symm
       have hmade:=aVr (hzr σ).cells (by omega) n;rw[hzsz]at hmade;obtain⟨vs',f1,f2⟩:=vZ _ ecs hmade ((j7 hr hx hps).mono fun p q hpq=>⟨hpq.1,hpq.2.cells⟩);rw[←hr.mem]at hf;obtain⟨σ1,a1,a2,a3,a4,a5,a6⟩:=Z4 ho hf;have hcells:=a6 _ f2;obtain⟨g1,g2,g3⟩:=x6 hcells hmany;have hsize:(oi e).run C.P σ.w=.ok (C.P.cellsOf e) σ.w:=E6 ⟨i,hi⟩;have hrun:(Instr.buildSlice T n (parts.map fun(i,x)=>(i,a.eval x))).run C.P σ.w=.ok (.slice (some ⟨σ.w.heap.size,0,none⟩) n n) (σ.w.alloc (.cells vs' e)):=by
        have hz0:(zeroValue e).run C.P σ.w=.ok zv σ.w:=by simp[zeroValue,typeInfo,hi,hzv]
        have h24:¬n*C.P.cellsOf e>2^24:=by omega
        unfold Instr.buildSlice;simp only[bu,Cz hT,ax,hsize];rw[if_neg h24];have hn0:0<n:=by simpa using hb.2
        have hz1:¬n*C.P.cellsOf e=0:=kb (Nat.mul_pos hn0 hpos);have hm0:(qq (n*C.P.cellsOf e)).map (zv.cells[·%zv.cells.size]!)=madeCells zv.cells (n*C.P.cellsOf e):=rfl;simp only[if_neg hz1,bu,hz0,de,ax,hm0,hparts,f1];simp[newRow]
       have hfg:=aIZ a4 (.cells vs' e);refine AO (σ':=σ1.fresh (.cells vs' e)) (v:=.slice (some ⟨σ.w.heap.size,0,none⟩) n n) ?_ (aVB a4 _) (a5.trans hfg).moves a1 ?_
       ·simp only[execOp,hop];have:(σ1.fresh (.cells vs' e)).w=σ.w.alloc (.cells vs' e):=by simp[Sit.fresh,a2]
        rw[this];exact Bx hrun
       ·refine⟨_,n,by rw[g1],by omega,by have:=aHP;omega,fun _=>⟨σ.w.heap.size,0,vs',e,(0,0),rfl,.inr (by rw[a2]),?_,?_⟩⟩
        ·simp only[Sit.fresh,a2];exact So
        ·intro i x hix;obtain⟨ds,d1,d2⟩:=g3 i x hix;exact⟨ds,d1.mono hfg.stab hfg.heap,fun j d hj=>by simpa using d2 j d hj⟩
     ·cases h
   ·cases h
  ·cases h
 ·cases h
theorem aXM(ho:Ok base S0 σ)(hr:RelT σ s a)(hx:Bb a ctx){T:TypeId}{y:Operand}(hop:o.op=.load T y)(h:As C s ctx o=some (.ok true x mem')):By C base S0 id σ a o x mem':=by
 unfold As at h;rw[hop]at h;simp only at h;split at h
 ·rename_i c ec;have hc:=Bk hr hx ec;split at h
  ·rename_i cs off e1 e2;have hl:=ZP ho hc (by rw[hr.mem];exact e1);split at h
   ·rename_i l e3;simp only[ab,Res.ok.injEq,true_and]at h;obtain⟨rfl,rfl⟩:=h;obtain⟨v,h1,h2⟩:=aJ0 hl e2 e3;exact AO (σ':=σ) (v:=v) (by simp only[execOp,hop];exact Bx h1) ho (Goes.refl σ).moves hr.mem h2
   ·cases h
  ·rename_i cs off e1 e2;have hl:=ZP ho hc (by rw[hr.mem];exact e1);split at h
   ·rename_i c' l e3;simp only[ab,Res.ok.injEq,true_and]at h;obtain⟨rfl,rfl⟩:=h;obtain⟨v,h1,h2⟩:=aJ1 hl e2 e3;exact AO (σ':=σ) (v:=v) (by simp only[execOp,hop];exact Bx h1) ho (Goes.refl σ).moves hr.mem h2
   ·cases h
  ·cases h
 ·cases h
theorem x5{σ:Sit}{n:Nat}(ho:Ok base S0 σ):Ok base S0 {σ with w:={σ.w with drawn:=n} }/\Goes σ {σ with w:={σ.w with drawn:=n} }:=by
 have hg:Goes σ {σ with w:={σ.w with drawn:=n} }:=⟨fun _ h=>h,fun _ _=>rfl,bj _,fun _ _=>Bm.refl rfl rfl rfl⟩
 exact⟨⟨⟨ho.below.os,ho.below.tape,ho.below.output,ho.below.size,ho.below.block⟩,ho.stab0,ho.stab,fun b=>AA.keep hg rfl rfl rfl (fun _ _=>rfl) (ho.ent b),ho.own,ho.inj⟩,hg⟩
theorem aXv(ho:Ok base S0 σ)(hr:RelT σ s a)(hx:Bb a ctx){op:BinOp}{T T':TypeId}{y z:Operand}(hop:o.op=.binOp op T y z T')(h:As C s ctx o=some (.ok true x mem')):By C base S0 id σ a o x mem':=by
 unfold As at h;rw[hop]at h;simp only at h;split at h
 ·rename_i c d e1 e2;have h1:=He hr hx e1;have h2:=He hr hx e2;cases hb:aKQ C.P T c with
  |false=>rw[hb]at h;cases h
  |true=>
   rw[hb]at h;simp only[cond_true]at h;split at h
   ·rename_i g r e3;simp only[ab,Res.ok.injEq]at h;obtain⟨rfl,rfl,rfl⟩:=h;obtain⟨v,n,h3,h4⟩:=aUy (P:=C.P) (X:=y) (Y:=z) (T:=T) (w:=σ.w) (by
     cases c with
     |v q=>cases q with
      |bool b=>exact .inl hb
      |_=>exact .inr (by simp)
     |_=>exact .inr (by simp)) h1 h2 e3
    obtain⟨k1,k2⟩:=x5 (n:=n) ho;exact AO (σ':={σ with w:={σ.w with drawn:=n} }) (v:=v) (by simp only[execOp,hop];exact Bx h3) k1 k2.moves hr.mem (k2.repC h4)
   ·split at h
    ·rename_i r e' en hT;simp only[ab,Res.ok.injEq,true_and]at h;obtain⟨rfl,rfl⟩:=h;have:=aYS (X:=y) (Y:=z) (w:=σ.w) hT h1 h2 en;exact AO (σ':=σ) (v:=.bool r) (by simp only[execOp,hop];exact Bx this) ho (Goes.refl σ).moves hr.mem ⟨rfl,trivial⟩
    ·cases h
 ·rename_i c d e1 e2;have h1:=He hr hx e1;have h2:=He hr hx e2;split at h
  ·rename_i fs hT;cases hb:(!(C.P.eqGuardType C.P.depth T)&&!(C.P.stoodInHeld T))with
   |false=>rw[hb]at h;cases h
   |true=>
    rw[hb]at h;simp only[af,Bool.not_eq_true']at hb;simp only[cond_true]at h;split at h
    ·rename_i r e3;simp only[ab,Res.ok.injEq,true_and]at h;obtain⟨rfl,rfl⟩:=h;have:=(aIB (X:=y) (Y:=z) (w:=σ.w) hT hb.1 hb.2 h1 h2 e3).1;exact AO (σ':=σ) (v:=.bool r) (by simp only[execOp,hop];exact Bx this) ho (Goes.refl σ).moves hr.mem ⟨rfl,trivial⟩
    ·rename_i r e3;simp only[ab,Res.ok.injEq,true_and]at h;obtain⟨rfl,rfl⟩:=h;have:=(aIB (X:=y) (Y:=z) (w:=σ.w) hT hb.1 hb.2 h1 h2 e3).2;exact AO (σ':=σ) (v:=.bool !r) (by simp only[execOp,hop];exact Bx this) ho (Goes.refl σ).moves hr.mem ⟨rfl,trivial⟩
    ·cases h
  ·cases h
 ·cases h
end Vx
namespace Vx
open Go Go.RowKit
variable {C:Cfg}{base:Base}{S0:Nat->Prop}{σ:Sit}{s:St}{a:Act}{ctx:List (Nat×Bool)}{o:Oper}{x:TV}{mem':Ai}
theorem aL4{P:Program}{T:TypeId}{r off:Nat}{v:Value}{w:World}{vs:Array Value}{T':TypeId}(hh:w.heap[r]? = some (.cells vs T' (0,0)))(hi:∃i,P.info? T=some i)(hsz:v.cells.size=P.cellsOf T)
  (hv:∀u∈v.cells.toList,scalar u) (hle:off+v.cells.size<=vs.size) :
  (Instr.storeAt T (.pointer (some ⟨r,off,none⟩)) v).run P w=.ok () (CX w r (.cells (CK vs off v.cells.toList) T' (0,0))):=by
 unfold Instr.storeAt storeVar Instr.sureAddr;have h1:=bN (P:=P) (r:=r) (o:=off) (T:=T') v.cells.toList 0 w vs hh (by simpa using hle) hv;simp[E6 hi,hsz];simpa using h1
theorem All2.allScalar{cs:List SC}{ys:List Value}(h:All2 (Ay σ) cs ys):∀u∈ys,scalar u:=by
 induction h with
 |nil=>simp
 |cons h _ ih=>
  intro u hu;rcases cn.1 hu with rfl|hu
  ·exact h.scalar
  ·exact ih u hu
theorem Ay.ptr_raw{b off:Nat}{y:Value}{cs:List SC}(h:Ay σ (.ptr b off) y)(e:Ac σ.mem b=.raw cs):∃r,σ.E.β b=some r/\y=.pointer (some ⟨r,off,none⟩):=by
 obtain⟨_,_,hm⟩:=h;rw[e]at hm;exact hm
theorem aJN{P:Program}{T:TypeId}(h:P.cellsOf T≠0):∃i,P.info? T=some i:=by
 unfold ka at h;cases hq:P.info? T with
 |none=>rw[hq]at h;exact absurd rfl h
 |some i=>exact⟨i,rfl⟩
theorem aXY(ho:Ok base S0 σ)(hr:RelT σ s a)(hx:Bb a ctx){T:TypeId}{y z:Operand}(hop:o.op=.store T y z)(h:As C s ctx o=some (.ok true x mem')):By C base S0 id σ a o x mem':=by
 unfold As at h;rw[hop]at h;simp only at h;split at h
 ·rename_i b off v e1 e2;have hp:=Bk hr hx e1;have hv:=He hr hx e2;split at h
  ·rename_i cs eb;rw[←hr.mem]at eb;cases hb:(FC (C.P.cellsOf T) v.cells&&ZF v.cells&&Nat.blt 0 (C.P.cellsOf T))with
   |false=>rw[hb]at h;cases h
   |true=>
    rw[hb]at h;simp only[af]at hb;simp only[cond_true]at h;split at h
    ·rename_i cs' es;simp only[ab,Res.ok.injEq,true_and]at h;obtain⟨rfl,rfl⟩:=h;obtain⟨r,hβ,hy⟩:=hp.ptr_raw eb;have he:=ho.ent b;unfold AA at he;rw[eb]at he;obtain⟨r',vs,T',h1,h2,h3⟩:=he;rw[hβ]at h1;cases h1;have hown:σ.owned b r:=⟨by rw[eb];trivial,hβ⟩
     obtain⟨k1,k2⟩:=All2.splice es h3 hv.cells;have hlt:b<σ.mem.length:=Dr (by rw[eb];simp);have hrl:=(ho.own b r hown).2.1;obtain⟨g1,g2⟩:=mH ho hown (e:=.raw cs') (vs:=CK vs off (a.eval z).cells.toList) (T:=T') (by rw[eb];exact⟨cs',rfl⟩) (fun hg=>by
      unfold AA;simp only[Sit.store];rw[B4 hlt,if_pos rfl];exact⟨r,_,T',hβ,TN hrl,k1.mono fun _ _=>hg.repC⟩)
     have hl:=Wp hb.1.1;have hcl:=hv.cells.length;have hsz:(a.eval z).cells.size=C.P.cellsOf T:=by simp at hcl;omega
     have hpos:C.P.cellsOf T≠0:=kb (by simpa using hb.2);have hrun:=aL4 (P:=C.P) (T:=T) (off:=off) h2 (aJN hpos) hsz hv.cells.allScalar (by simpa using k2);refine aJD (σ':=σ.store b r (.raw cs') (CK vs off (a.eval z).cells.toList) T') ?_ g1 g2.moves (by simp[Sit.store,hr.mem]) trivial;simp only[execOp,hop,hy];simp only[bu,hrun,ax,de];rfl
    ·cases h
  ·cases h
 ·rename_i b i off v e1 e2;have hp:=Bk hr hx e1;have hv:=He hr hx e2;cases hf:FA s.mem v with
  |mk v' m1=>
   rw[hf]at h;simp only at h;rw[←hr.mem]at hf;obtain⟨σ1,a1,a2,a3,a4,a5,a6⟩:=aIY ho hf;have hp1:=a5.repC hp;have hv1:=a6 _ hv;split at h
   ·rename_i τ xs eb;rw[←a1]at eb;cases hb:(FC (C.P.cellsOf T) v'.cells&&ZF v'.cells&&Nat.blt 0 (C.P.cellsOf T))with
    |false=>rw[hb]at h;cases h
    |true=>
     rw[hb]at h;simp only[af]at hb;simp only[cond_true]at h;split at h
     ·rename_i cs' es;split at h
      ·rename_i x' ep;simp only[ab,Res.ok.injEq,true_and]at h;obtain⟨rfl,rfl⟩:=h;obtain⟨_,_,hm⟩:=hp1;rw[eb]at hm;obtain⟨hi,r,hβ,hy⟩:=hm;obtain⟨hl0,hl1,vs,T',h2,h3,h4⟩:=jE (a4.ent b) eb hβ;have hown:σ1.owned b r:=⟨by rw[eb];trivial,hβ⟩
       have hlt:b<σ1.mem.length:=Dr (by rw[eb];simp);have hrl:=(a4.own b r hown).2.1;have hxi:xs[i]? = some (xs.getD i τ.dflt):=by
        rw[al,ay hi];rfl
       obtain⟨ds,d1,d2⟩:=h4 i _ hxi;have hdl:=d1.len;obtain⟨k1,k2⟩:=All2.splice es (vs:=ds.toArray) (by simpa using M7 d1) hv1.cells;obtain⟨y1,y2,hyy,p1,p2⟩:=Ns k1 ep;cases p2;rw[List.append_nil]at hyy;have hle:off+(a.eval z).cells.size<=τ.width:=by simp at k2;omega
       have hfit:i*τ.width+off+(a.eval z).cells.size<=vs.size:=by
        rw[h3];have:=aw τ.width (show i+1<=σ1.E.κ b by omega);rw[jl]at this;omega
       have hnew:∀j d,y1[j]? = some d->(CK vs (i*τ.width+off) (a.eval z).cells.toList)[i*τ.width+j]? = some d:=fun j d hj=>by
        have hpl:=WL (a.eval z).cells.toList vs (i*τ.width+off) (by simpa using hfit);have hpd:=WL (a.eval z).cells.toList ds.toArray off (by simpa using k2);rw[←hyy,hpd]at hj;have hjw:j<τ.width:=by
         have:=(au.1 hj).1;simp at this;simp at k2;omega
        rw[←jy,hpl];simp only[fc]at hj⊢;rcases aq j off with hjo|hjo
        ·rw[cd (by simp;omega),ck (by omega)]at *
         simpa using d2 j d (by simpa using hj)
        ·rw[bv (by simp;omega)]at hj⊢;have e1:i*τ.width+j-(kc (i*τ.width+off) vs.toList).length=j-(kc off ds.toArray.toList).length:=by
          simp at k2⊢;omega
         rw[e1];rcases aq (j-(kc off ds.toArray.toList).length) (a.eval z).cells.toList.length with hq|hq
         ·rw[cd hq]at hj⊢;exact hj
         ·rw[bv hq]at hj⊢;rw[di]at hj⊢;have e2:i*τ.width+off+(a.eval z).cells.toList.length+(j-(kc off ds.toArray.toList).length-(a.eval z).cells.toList.length)=i*τ.width+(off+(a.eval z).cells.toList.length+(j-(kc off ds.toArray.toList).length-(a.eval z).cells.toList.length)):=by omega
          rw[e2];simpa using d2 _ d (by simpa using hj)
       have hold:∀i',i'≠i->∀j,j<τ.width->(CK vs (i*τ.width+off) (a.eval z).cells.toList)[i'*τ.width+j]? = vs[i'*τ.width+j]?:=fun i' hne j hj=>by
        have hpl:=WL (a.eval z).cells.toList vs (i*τ.width+off) (by simpa using hfit);rw[←jy,hpl];rcases Nat.lt_or_gt_of_ne hne with hlt' | hgt
        ·have:=aw τ.width (show i'+1<=i by omega);rw[jl]at this;rw[fc,cd (by simp;omega),ck (by omega)];simp
        ·have:=aw τ.width (show i+1<=i' by omega);rw[jl]at this;rw[bv (by simp;omega),di];have e2:i*τ.width+off+(a.eval z).cells.toList.length+(i'*τ.width+j-(kc (i*τ.width+off) vs.toList++(a.eval z).cells.toList).length)=i'*τ.width+j:=by simp;omega
         rw[e2];simp
       obtain⟨g1,g2⟩:=mH a4 hown (e:=.arr τ (xs.set i x')) (vs:=CK vs (i*τ.width+off) (a.eval z).cells.toList) (T:=T') (by rw[eb];exact⟨_,rfl,by simp⟩) (fun hg=>by
        unfold AA;simp only[Sit.store];rw[B4 hlt,if_pos rfl];refine⟨by simpa using hl0,hl1,.inr ⟨r,_,T',hβ,TN hrl,by rw[bG,h3],fun i' u hu=>?_⟩⟩;rw[mu]at hu;split at hu
        ·rename_i hii;subst hii;cases hu;exact⟨y1,p1.mono hg.stab hg.heap,fun j d hj=>by simpa using hnew j d hj⟩
        ·rename_i hii;obtain⟨ds',d1',d2'⟩:=h4 i' u hu;refine⟨ds',d1'.mono hg.stab hg.heap,fun j d hj=>?_⟩;have hjl:=(au.1 hj).1;rw[d1'.len]at hjl;rw[dm,hold i' (fun e=>hii e.symm) j hjl];simpa using d2' j d hj)
       have hl:=Wp hb.1.1;have hcl:=hv1.cells.length;have hsz:(a.eval z).cells.size=C.P.cellsOf T:=by simp at hcl;omega
       have hpos:C.P.cellsOf T≠0:=kb (by simpa using hb.2);have hrun:=aL4 (P:=C.P) (T:=T) (off:=i*τ.width+off) h2 (aJN hpos) hsz hv1.cells.allScalar (by omega);refine aJD (σ':=σ1.store b r (.arr τ (xs.set i x')) (CK vs (i*τ.width+off) (a.eval z).cells.toList) T') ?_ g1 (a5.trans g2).moves (by simp[Sit.store,a1]) trivial;simp only[execOp,hop,hy];simp only[bu];rw[←a2,hrun];simp only[ax,de];rfl
      ·cases h
     ·cases h
   ·cases h
 ·cases h
theorem aXT(ho:Ok base S0 σ)(hr:RelT σ s a)(hx:Bb a ctx){y:Operand}(hop:o.op=.nilCheck y)(h:As C s ctx o=some (.ok true x mem')):By C base S0 id σ a o x mem':=by
 unfold As at h;rw[hop]at h;simp only at h;split at h
 ·rename_i b off e;have hp:=VC hr hx e;split at h
  ·rename_i cs eb;simp only[ab,Res.ok.injEq,true_and]at h;obtain⟨rfl,rfl⟩:=h;rw[←hr.mem]at eb;obtain⟨r,hβ,hy⟩:=Ay.ptr_raw hp eb;refine AO (σ':=σ) (v:=a.eval y) ?_ ho (Goes.refl σ).moves hr.mem hp;simp only[execOp,hop,hy];rfl
  ·cases h
 ·cases h
theorem aX2(ho:Ok base S0 σ)(hr:RelT σ s a)(hx:Bb a ctx){op:UnOp}{T:TypeId}{y:Operand}(hop:o.op=.unOp op T y)(h:As C s ctx o=some (.ok true x mem')):By C base S0 id σ a o x mem':=by
 unfold As at h;rw[hop]at h;simp only at h;split at h
 ·rename_i c ec;split at h
  ·rename_i r er;simp only[ab,Res.ok.injEq,true_and]at h;obtain⟨rfl,rfl⟩:=h;obtain⟨v,h1,h2⟩:=bDR (P:=C.P) (w:=σ.w) (Bk hr hx ec) er;exact AO (σ':=σ) (v:=v) (by simp only[execOp,hop];exact Bx h1) ho (Goes.refl σ).moves hr.mem h2
  ·cases h
 ·cases h
theorem aXA(ho:Ok base S0 σ)(hr:RelT σ s a)(hx:Bb a ctx){T1 T2:TypeId}{y:Operand}(hop:o.op=.convert T1 T2 y)(h:As C s ctx o=some (.ok true x mem')):By C base S0 id σ a o x mem':=by
 unfold As at h;rw[hop]at h;simp only at h;split at h
 ·rename_i k k' n hT e;split at h
  ·rename_i d hT1;simp only[ab,Res.ok.injEq,true_and]at h;obtain⟨rfl,rfl⟩:=h;obtain⟨h1,h2⟩:=Bk hr hx e;refine AO (σ':=σ) (v:=.int k (k.wrap n)) ?_ ho (Goes.refl σ).moves hr.mem (Hv (σ:=σ) k n);simp only[execOp,hop,h1];refine Bx ?_;unfold convert;simp only[bu,Cz hT1,Cz hT,ax];cases d<;>simp[Conv.intToInt]
  ·cases h
 ·cases h
theorem aXE(ho:Ok base S0 σ)(hr:RelT σ s a)(hx:Bb a ctx){T:TypeId}{y:Operand}{i:Nat}(hop:o.op=.fieldAddr T y i)(h:As C s ctx o=some (.ok true x mem')):By C base S0 id σ a o x mem':=by
 unfold As at h;rw[hop]at h;simp only at h;split at h
 ·rename_i b off d ft e1 e2;split at h
  ·rename_i cs eb;simp only[ab,Res.ok.injEq,true_and]at h;obtain⟨rfl,rfl⟩:=h;rw[←hr.mem]at eb;have hp:=Bk hr hx e1;obtain⟨r,hβ,hy⟩:=Ay.ptr_raw hp eb;refine AO (σ':=σ) (v:=.pointer (some ⟨r,off+d,none⟩)) (by simp only[execOp,hop,hy];exact Bx (vY e2 _ _ _)) ho (Goes.refl σ).moves hr.mem ?_;refine⟨hp.1,⟨_,rfl⟩,?_⟩;rw[eb];exact⟨r,hβ,rfl⟩
  ·cases h
 ·rename_i b j off d ft e1 e2;split at h
  ·rename_i τ xs eb;simp only[ab,Res.ok.injEq,true_and]at h;obtain⟨rfl,rfl⟩:=h;rw[←hr.mem]at eb;have hp:=Bk hr hx e1;obtain⟨hlt,_,hm⟩:=hp;rw[eb]at hm;obtain⟨hi,r,hβ,hy⟩:=hm;refine AO (σ':=σ) (v:=.pointer (some ⟨r,j*τ.width+off+d,none⟩)) (by simp only[execOp,hop,hy];exact Bx (vY e2 _ _ _)) ho (Goes.refl σ).moves hr.mem ?_;refine⟨hlt,trivial,?_⟩;rw[eb];exact⟨hi,r,hβ,by rw[gh]⟩
  ·cases h
 ·rename_i τ y' off d ft e1 e2;simp only[ab,Res.ok.injEq,true_and]at h;obtain⟨rfl,rfl⟩:=h;obtain⟨r,q,vs,T',fz,ds,hy,h1,h2,h3,h4⟩:=Bk hr hx e1;refine AO (σ':=σ) (v:=.pointer (some ⟨r,q+off+d,none⟩)) (by simp only[execOp,hop,hy];exact Bx (vY e2 _ _ _)) ho (Goes.refl σ).moves hr.mem ?_;exact⟨r,q,vs,T',fz,ds,by rw[gh],h1,h2,h3,h4⟩
 ·cases h
end Vx
namespace Vx
open Go Go.RowKit
variable {C:Cfg}{base:Base}{S0:Nat->Prop}{σ:Sit}{s:St}{a:Act}{ctx:List (Nat×Bool)}{o:Oper}{x:TV}{mem':Ai}
theorem Z3{mem:Ai}{c c':SC}{m:Ai}(h:Da mem c=(c',m))(b:Nat):c'≠.own b:=by
 unfold Da at h;split at h
 ·split at h<;>(cases h;simp)
 ·split at h<;>(cases h;simp)
 ·rename_i hn;cases h;intro e;exact hn b e
theorem ZM{τ:Shape}{c:SC}{y:Value}{xs:List (Ab τ)}(hc:Ay σ c y)(hn:∀b,c≠.own b)(h:M3 σ.mem τ c=some xs):AM σ.w σ.S (.slice τ) xs [y]:=by
 unfold M3 at h;split at h
 ·exact vH h hc
 ·cases h;obtain⟨rfl,_⟩:=hc;exact k9 τ
 ·exact absurd rfl (hn _)
 ·cases h
theorem bDf{τ:Shape}{y:Value}{xs:List (Ab τ)}(h:AM σ.w σ.S (.slice τ) xs [y]):∃A c,y=.slice A xs.length c/\xs.length<=c/\c<BJ:=by
 obtain⟨A,c,h1,h2,h3,_⟩:=h;cases h1;exact⟨A,c,rfl,h2,h3⟩
theorem aWK{c:SC}{y:Value}{n:Nat}(hc:Ay σ c y)(hns:∀str,c≠.v (.string str))(h:lenOf σ.mem c=some n):∃A k,y=.slice A n k:=by
 unfold lenOf at h;split at h
 ·cases h;obtain⟨A,k,h1,_⟩:=hc;cases h1;exact⟨A,k,rfl⟩
 ·cases h;obtain⟨rfl,_⟩:=hc;exact⟨none,0,rfl⟩
 ·exact absurd rfl (hns _)
 ·obtain⟨_,_,hm⟩:=hc;split at h
  ·rename_i e;cases h;rw[e]at hm;obtain⟨r,_,rfl⟩:=hm;exact⟨_,_,rfl⟩
  ·rename_i e;cases h;rw[e]at hm;exact⟨_,_,hm⟩
  ·rename_i e;cases h;rw[e]at hm;obtain⟨A,k,h1,_⟩:=hm;cases h1;exact⟨A,k,rfl⟩
  ·cases h
 ·cases h
theorem aWJ(ho:Ok base S0 σ){c:SC}{y:Value}{n:Nat}(hc:Ay σ c y)(h:lenOf σ.mem c=some n):n<BJ:=by
 unfold lenOf at h;split at h
 ·cases h;obtain⟨A,k,h1,h2,h3,_⟩:=hc;exact ao h2 h3
 ·cases h;unfold BJ;omega
 ·cases h;exact hc.2
 ·rename_i b;obtain⟨_,_,hm⟩:=hc;have he:=ho.ent b;unfold AA at he;split at h
  ·rename_i e;cases h;rw[e]at he;exact ao he.1 he.2.1
  ·rename_i e;cases h;rw[e]at he;exact ao he.1 he.2.1
  ·rename_i e;cases h;rw[e]at hm;obtain⟨A,k,h1,h2,h3,_⟩:=hm;exact ao h2 h3
  ·cases h
 ·cases h
theorem AM.cut{w:World}{S:Nat->Prop}{τ:Shape}{xs:List (Ab τ)}{A:Option Addr}{c l h:Nat}(hd:AM w S (.slice τ) xs [.slice A xs.length c])(h1:l<=h)(h2:h<=xs.length)(hc:xs.length<=c)(hlim:c<BJ):
  AM w S (.slice τ) ((xs.take h).drop l) [.slice (if c=l then A else A.map (·.add (l*τ.width))) (h-l) (c-l)]:=by
 obtain⟨A',c',e,_,_,h4⟩:=hd;cases e;have hlen:((xs.take h).drop l).length=h-l:=by simp;omega
 refine⟨_,c-l,by rw[hlen],by omega,by omega,fun hne=>?_⟩;have hlt:l<h:=by
  rcases aq l h with h' | h'
  ·exact h'
  ·exact absurd (cg (by omega)) hne
 have hxs:xs≠[]:=by intro e;subst e;simp at h2;omega
 obtain⟨r,o,vs,T,fz,e1,e2,e3,e4⟩:=h4 hxs;refine⟨r,o+l*τ.width,vs,T,fz,?_,e2,e3,fun i x hi=>?_⟩
 ·rw[if_neg (by omega),e1];simp[Kl]
 ·rw[di,List.getElem?_take]at hi;split at hi
  ·obtain⟨ds,d1,d2⟩:=e4 _ _ hi;refine⟨ds,d1,fun j d hj=>?_⟩;have:=d2 j d hj;rw[Nat.add_mul]at this;rw[show o+l*τ.width+i*τ.width+j=o+(l*τ.width+i*τ.width)+j by omega];exact this
  ·cases hi
theorem aVj{P:Program}{e:TypeId}{τ:Shape}(eτ:CS P e=some τ):∃i,P.info? e=some i:=by
 have:Nx P 12 e=some τ:=by
  unfold CS at eτ;split at eτ
  ·rename_i τ' e';cases hb:Nat.beq (P.cellsOf e) τ'.width with
   |false=>rw[hb]at eτ;cases eτ
   |true=>rw[hb]at eτ;cases eτ;exact e'
  ·cases eτ
 unfold Nx at this;cases hu:P.underlying e with
 |none=>rw[hu]at this;cases this
 |some d=>exact aM hu
theorem zM{T e:TypeId}{τ:Shape}{y:Operand}{lo hi:Option Operand}(hr:RelT σ s a)(hx:Bb a ctx)(hT:C.P.underlying T=some (.slice e))(eτ:CS C.P e=some τ){A:Option Addr}{n k:Nat}(hy:a.eval y=.slice A n k)(hk:n<=k){l hh:Int}
  (el:(match lo with|none=>some (0:Int)|some a=>EU s ctx a)=some l) (eh:(match hi with|none=>some (n:Int)|some a=>EU s ctx a)=some hh) (hop:o.op=.slice T y lo hi none) (g1:0<=l) (g2:l<=hh) (g3:hh<=(n:Int)) (w:World) :
  (execOp a.eval o).run C.P w=.ok (.value (.slice (if k=l.toNat then A else A.map (·.add (l.toNat*τ.width))) (hh.toNat-l.toNat) (k-l.toNat))) w:=by
 have hi':∃i,C.P.info? e=some i:=by
  have:Nx C.P 12 e=some τ:=by
   unfold CS at eτ
   split at eτ
   ·rename_i τ' e'
    cases hb:Nat.beq (C.P.cellsOf e) τ'.width with
    |false=>rw[hb]at eτ;cases eτ
    |true=>rw[hb]at eτ;cases eτ;exact e'
   ·cases eτ
  unfold Nx at this
  cases hu:C.P.underlying e with
  |none=>rw[hu]at this;cases this
  |some d=>exact aM hu
 have hw:=Kt eτ
 simp only[execOp,hop,hy,ld]
 refine Bx ?_
 unfold Instr.sliceAt
 simp only[bu,Cz hT,ax]
 unfold Instr.slice
 simp only[bu,Cz hT,ax]
 have hbH:(match hi.map a.eval with|some v=>Instr.sliceBound v k .sliceAcap|none=>pure n:Sem Nat).run C.P w=.ok hh.toNat w:=by
  cases hi with
  |none=>simp only[ld,de];simp at eh;subst eh;rfl
  |some q=>
   simp only at eh
   obtain⟨kk,hq,_⟩:=Sp hr hx eh
   simp only[jh,hq,Instr.sliceBound,asIntOf,bu,de,ax]
   rw[if_pos ⟨by omega,by omega⟩]
   rfl
 have hbL:(match lo.map a.eval with|some v=>Instr.sliceBound v hh.toNat (if(none:Option Value).isSome then .slice3C else .sliceB)|none=>pure 0:Sem Nat).run C.P w=.ok l.toNat w:=by
  cases lo with
  |none=>simp only[ld,de];simp at el;subst el;rfl
  |some q=>
   simp only at el
   obtain⟨kk,hq,_⟩:=Sp hr hx el
   simp only[jh,hq,Instr.sliceBound,asIntOf,bu,de,ax]
   rw[if_pos ⟨by omega,by omega⟩]
   rfl
 have hb:(Instr.sliceBounds true n k (lo.map a.eval) (hi.map a.eval) none).run C.P w=.ok (l.toNat,hh.toNat,k) w:=by
  cases hhi:hi.map a.eval<;>cases hlo:lo.map a.eval<;>rw[hhi]at hbH<;>rw[hlo]at hbL<;>
   simp only[de,Result.ok.injEq,and_true,Option.isSome_none,Bool.false_eq_true,if_false]at hbH hbL<;>unfold Instr.sliceBounds
  ·simp[hbH,←hbL]
  ·simp[hbH,hbL]
  ·simp[hbH,←hbL]
  ·simp[hbH,hbL]
 rw[hb]
 simp only[ax,E6 hi',hw]
 simp
theorem aXZ(ho:Ok base S0 σ)(hr:RelT σ s a)(hx:Bb a ctx){T:TypeId}{y:Operand}{lo hi mx:Option Operand}(hop:o.op=.slice T y lo hi mx){g:Bool}{c:SC}(hs:NB C s ctx T y lo hi mx=some (g,c))(h:As C s ctx o=some (.ok true x mem')):By C base S0 id σ a o x mem':=by
 unfold As at h;rw[hop]at h;simp only[hs,ab,Res.ok.injEq]at h;obtain⟨rfl,rfl,rfl⟩:=h;unfold NB at hs;split at hs
 ·rename_i b ec;replace hs:=(AF hs).2;split at hs
  ·rename_i l0 h0 e τ' xs hT eb;split at hs
   ·rename_i τ l hh eτ el eh;split at hs
    ·rename_i hττ;subst hττ;simp only[ab,cu,af,decide_eq_true_eq]at hs;obtain⟨⟨⟨g1,g2⟩,g3⟩,rfl⟩:=hs;rw[←hr.mem]at eb;have hc:=Bk hr hx ec;have he:=ho.ent b;unfold AA at he;rw[eb]at he;obtain⟨q1,q2,_⟩:=he;obtain⟨hlt,_,hm⟩:=hc;rw[eb]at hm;simp only at hm;have hrun:=zM (lo:=some l0) (hi:=some h0) hr hx hT eτ hm q1 el eh hop g1 g2 g3 σ.w;refine AO (σ':=σ) hrun ho (Goes.refl σ).moves hr.mem ?_;refine⟨hlt,trivial,?_⟩;rw[eb];refine⟨by omega,_,_,rfl,by omega,by omega,fun hn=>?_⟩;obtain⟨r,hβ⟩:=uZ (ho.ent b) eb (by omega);refine⟨r,hβ,?_⟩;rw[if_neg (by omega),hβ];simp[Kl]
    ·cases hs
   ·cases hs
  ·cases hs
 ·rename_i b ec;split at hs
  ·rename_i n e τ' xs hT eb;split at hs
   ·rename_i τ eτ;split at hs
    ·rename_i hττ;subst hττ;obtain⟨hn,hs⟩:=AF hs;simp only[ab,cu,true_and]at hs;subst hs;have hn:xs.length=n:=ah hn;rw[←hr.mem]at eb;have hc:=Bk hr hx ec;have he:=ho.ent b;unfold AA at he;rw[eb]at he;obtain⟨q1,q2,_⟩:=he;obtain⟨hlt,_,hm⟩:=hc;rw[eb]at hm;obtain⟨r,hβ,hy⟩:=hm;refine AO (σ':=σ) (v:=.slice (some ⟨r,0,none⟩) xs.length xs.length) ?_ ho (Goes.refl σ).moves hr.mem ?_
     ·simp only[execOp,hop,hy];refine Bx ?_;unfold Instr.sliceAt;simp only[bu,Cz hT,ax,Instr.sureAddr,de,ld,Instr.sliceBounds];simp[E6 (aVj eτ),hn,Kl]
     ·refine⟨hlt,trivial,?_⟩;rw[eb];exact⟨by omega,_,_,rfl,bj _,by omega,fun _=>⟨r,hβ,by simp⟩⟩
    ·cases hs
   ·cases hs
  ·cases hs
 ·cases hs
theorem aXX(ho:Ok base S0 σ)(hr:RelT σ s a)(hx:Bb a ctx){T:TypeId}{y:Operand}{lo hi mx:Option Operand}(hop:o.op=.slice T y lo hi mx)(hns:NB C s ctx T y lo hi mx=none)(hno:SN C s ctx y lo mx=none)(h:As C s ctx o=some (.ok true x mem')):By C base S0 id σ a o x mem':=by
 unfold As at h;rw[hop]at h;simp only[hns,hno]at h;split at h
 ·rename_i e c hT ec;split at h
  ·rename_i τ eτ;cases hf:Da s.mem c with
   |mk c' m1=>
    rw[hf]at h;simp only at h;rw[←hr.mem]at hf;obtain⟨σ1,a1,a2,a3,a4,a5,a6⟩:=Sl ho hf;split at h
    ·rename_i xs exs;split at h
     ·rename_i l hh el eh;simp only[ab,Res.ok.injEq,af,decide_eq_true_eq]at h;obtain⟨⟨⟨g1,g2⟩,g3⟩,rfl,rfl⟩:=h;have hd:=ZM (a6 _ (Bk hr hx ec)) (Z3 hf) (by rw[a1];exact exs);obtain⟨A,k,hy,hk,hklim⟩:=bDf hd;rw[hy]at hd;have hcut:=hd.cut (l:=l.toNat) (h:=hh.toNat) (by omega) (by omega) hk hklim;exact AO (σ':=σ1) (by rw[a2];exact zM hr hx hT eτ hy hk el eh hop g1 g2 g3 σ.w) a4 a5.moves a1 hcut
     ·cases h
    ·cases h
  ·cases h
 ·cases h
end Vx
end
