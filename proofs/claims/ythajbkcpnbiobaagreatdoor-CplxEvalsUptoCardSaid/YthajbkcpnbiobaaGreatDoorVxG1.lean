/- Part 1 of the proof. What is proved: symbolic execution of the functions, proved sound; what each function of the program computes, and that every run ends with it; what these functions compute, in plain numbers. Conditions: each theorem bears its own. -/
import Derived.Calls
import Derived.Orders
import Derived.LoopN
import Derived.KernelRfl
import GoSem.Core.Utf8
import Derived.Below
import Derived.Laws.Closers25b
import Derived.Laws.Sem
import Derived.Laws.World
import Derived.Laws.Cells
import Derived.Laws.Slices
import Derived.Laws.StructEq
import Derived.Laws.MakeOwn
import Derived.Laws.Tables
set_option linter.all false
set_option exponentiation.threshold 1000000
noncomputable section
open Array renaming ext->rp,getElem?_eq_some_iff->dx,getElem?_toList->kx,getElem_setIfInBounds->nc,range->rj,toList_inj->gy
open BitVec renaming ofInt->dh
open Bool renaming and_eq_true->ar
open Classical renaming choice->qo
open Go renaming sizeOf->oj
open Go.IntKind renaming bits->ji,max->mi,min->nd,signed->jr
open Go.Program renaming built->rc,cellsOf->kz,fieldsOf->oe
open Go.Result renaming andThen_ok->cd
open Go.Sem renaming run_bind->cz,run_pure->ej
open Go.Value renaming pointer->jp
open Go.World renaming size_alloc->il
open Int renaming le_total->oi,le_trans->mm,neg_tmod->re,tmod_nonneg->qt
open List renaming append_assoc->fy,eq_nil_of_length_eq_zero->co,getD_eq_getElem?_getD->aw,getElem?_append_left->cw,getElem?_append_right->cm,getElem?_drop->fe,getElem?_eq_getElem->bw,getElem?_eq_none->dz,getElem?_eq_some_iff->bp,getElem?_set->qe,getElem?_take_of_lt->di,length_append->fc,length_cons->cy,mem_cons->dq,mem_cons_of_mem->fw,mem_cons_self->fx,replicate->bd,take->lb
open Nat renaming add_assoc->io,eq_of_beq_eq_true->av,le_of_ble_eq_true->kc,le_refl->ci,le_trans->gb,lt_of_lt_of_le->az,lt_or_ge->bc,mul_le_mul_right->bh,ne_of_gt->la,succ_mul->ks,zero_add->dj,zero_mul->fq
open Option renaming isSome_iff_exists->nt
open Option.some renaming inj->ky,injEq->ap
open Prod.mk renaming injEq->cr
namespace Vx
theorem aa{α:Sort _}{a b:α}:(bif true then a else b)=a:=rfl
theorem ab{α:Sort _}{a b:α}:(bif false then a else b)=b:=rfl
def ae:=@decide_eq_true
def af:=@decide_eq_false
def ag:=@if_neg
def ah:=@if_pos
def ai:=@decide_eq_true_eq
def aj:=@bne_self_eq_false
theorem ak:True:=trivial
end Vx
namespace Vx
open Go
inductive Shape where
 |int (k:IntKind)|flt (k:FloatKind)|bool|str|fn|unit
 |slice (e:Shape)|pair (a b:Shape)
 /-- a AB that nobody writes,and an interface's value (its type,its whole numbers) -/
 |box (a:Shape)|ifc
 /-- a function that holds nothing -/
 |pfn
 |cx (k:FloatKind)
 deriving DecidableEq
@[reducible] def Ab:Shape->Type
 |.int _=>Int
 |.flt _=>Option Nat
 |.bool=>Bool
 |.str=>ByteArray
 |.fn=>Option (Nat×List Nat)
 |.unit=>Unit
 |.slice e=>List (Ab e)
 |.pair a b=>Ab a×Ab b
 |.box a=>Ab a
 |.ifc=>Option (Nat×List Int)
 |.pfn=>Nat
 |.cx _=>Option Nat×Option Nat
def Shape.width:Shape->Nat
 |.unit=>0
 |.pair a b=>a.width+b.width
 |_=>1
def Shape.dflt:(τ:Shape)->Ab τ
 |.int _=>(0:Int)
 |.flt _=>some 0
 |.bool=>false
 |.str=>⟨#[]⟩
 |.fn=>none
 |.unit=>()
 |.slice _=>[]
 |.pair a b=>(a.dflt,b.dflt)
 |.box a=>a.dflt
 |.ifc=>none
 |.pfn=>(0:Nat)
 |.cx _=>(some 0,some 0)
inductive SC where
 |undef
 |v (x:Value)
 |fl (k:FloatKind) (o:Option Nat)
 |sl (τ:Shape) (xs:List (Ab τ))
 |own (b:Nat)
 |ptr (b off:Nat)
 |eptr (b i off:Nat)
 |sub (b lo len:Nat)
 |iptr (τ:Shape) (x:Ab τ) (off:Nat)
 |gptr (g:Nat)
 |fnv (o:Option (Nat×List Nat))
 |fn (f:FuncId) (caps:List (Nat×Nat))
 |ifv (d:Option (Nat×List Int))
 |cx (k:FloatKind) (a b:Option Nat)
inductive SV where
 |one (c:SC)
 |agg (cs:List SC)
inductive TV where
 |un
 |val (x:SV)
 |tup (xs:List SV)
 /-- what a range over a string gives: is there more,where,which rune -/
 |nxt (c:Bool) (i r:Int)
inductive Blk where
 |gone
 |raw (cells:List SC)
 |arr (τ:Shape) (xs:List (Ab τ))
 |acc (τ:Shape) (xs:List (Ab τ))
 |froz (τ:Shape) (xs:List (Ab τ))
 /-- a range over a string: how far it is -/
 |itr (s:ByteArray) (pos:Nat)
abbrev Ae:=List Blk
structure St where
 n:Nat
 m0:Nat
 tm:List (Nat×TV)
 mem:Ae
 cs:List (Nat×Nat×Bool×TV)
def SV.cells:SV->List SC
 |.one c=>[c]
 |.agg cs=>cs
def cellsOf:(τ:Shape)->Ab τ->List SC
 |.int k,n=>[.v (.int k n)]
 |.flt k,o=>[.fl k o]
 |.bool,b=>[.v (.bool b)]
 |.str,s=>[.v (.string s)]
 |.fn,o=>[.fnv o]
 |.unit,_=>[]
 |.slice e,xs=>[.sl e xs]
 |.pair a b,x=>cellsOf a x.1++cellsOf b x.2
 |.box a,x=>[.iptr a x 0]
 |.ifc,d=>[.ifv d]
 |.pfn,n=>[.fnv (some (n,[]))]
 |.cx k,x=>[.cx k x.1 x.2]
def CX(e' e:Shape)(xs:List (Ab e')):Option (List (Ab e)):=if h:e'=e then some (h▸xs)else none
def aDe(e' e:Shape)(x:Ab e'):Option (Ab e):=if h:e'=e then some (h▸x)else none
def Ci:(τ:Shape)->List SC->Option (Ab τ×List SC)
 |.int k,c::r=>match c with
  |.v (.int k' n)=>if k'=k then some (n,r)else none
  |_=>none
 |.flt k,c::r=>match c with
  |.fl k' o=>if k'=k then some (o,r)else none
  |_=>none
 |.bool,c::r=>match c with
  |.v (.bool b)=>some (b,r)
  |_=>none
 |.str,c::r=>match c with
  |.v (.string s)=>some (s,r)
  |_=>none
 |.fn,c::r=>match c with
  |.v .nilFunc=>some (none,r)
  |.fn f []=>some (some (f,[]),r)
  |.fnv o=>some (o,r)
  |_=>none
 |.box a,c::r=>match c with
  |.iptr a' x 0=>match aDe a' a x with
   |some y=>some (y,r)
   |none=>none
  |_=>none
 |.ifc,c::r=>match c with
  |.v .nilIface=>some (none,r)
  |.ifv d=>some (d,r)
  |_=>none
 |.pfn,c::r=>match c with
  |.fn f []=>some (f,r)
  |.fnv (some (f,[]))=>some (f,r)
  |_=>none
 |.cx k,c::r=>match c with
  |.cx k' a b=>if k'=k then some ((a,b),r)else none
  |_=>none
 |.unit,cs=>some ((),cs)
 |.slice e,c::r=>match c with
  |.sl e' xs=>match CX e' e xs with
   |some ys=>some (ys,r)
   |none=>none
  |.v (.slice none 0 0)=>some ([],r)
  |_=>none
 |.pair a b,cs=>match Ci a cs with
  |none=>none
  |some (x,r)=>match Ci b r with
   |none=>none
   |some (y,r')=>some ((x,y),r')
 |_,[]=>none
def WN(τ:Shape):Nat->List SC->Option (List (Ab τ))
 |0,[]=>some []
 |0,_::_=>none
 |n+1,cs=>match Ci τ cs with
  |none=>none
  |some (x,r)=>match WN τ n r with
   |none=>none
   |some xs=>some (x::xs)
def JQ(τ:Shape)(n:Nat)(cs:List SC):Option (List (Ab τ)):=bif Nat.ble n 1048576 then WN τ n cs else none
section types
variable (P:Program)
def aOf:List (Option Shape)->Option Shape
 | []=>some .unit
 |none::_=>none
 |some a::r=>match aOf r with
  |none=>none
  |some b=>some (.pair a b)
def PQ:Nat->TypeId->Option Shape
 |0,_=>none
 |d+1,T=>match P.underlying T with
  |some (.int k)=>some (.int k)
  |some (.float k)=>some (.flt k)
  |some (.complex k)=>some (.cx k)
  |some .bool=>some .bool
  |some .string=>some .str
  |some (.func _ _ _)=>some .fn
  |some (.slice e)=>match PQ d e with
   |some s=>some (.slice s)
   |none=>none
  |some (.struct fs)=>aOf (fs.toList.map fun f=>PQ d f.type)
  |_=>none
def GZ(T:TypeId):Option Bool:=
 match P.underlying T with
 |some (.struct _)=>some true
 |some (.array _ _)=>some true
 |some _=>some false
 |none=>none
def u7(k:IntKind)(n:Int):Bool:=
 match k with
 |.i8=>decide (-128<=n)&&decide (n<=127)
 |.i16=>decide (-32768<=n)&&decide (n<=32767)
 |.i32=>decide (-2147483648<=n)&&decide (n<=2147483647)
 |.i64=>decide (-9223372036854775808<=n)&&decide (n<=9223372036854775807)
 |.u8=>decide (0<=n)&&decide (n<=255)
 |.u16=>decide (0<=n)&&decide (n<=65535)
 |.u32=>decide (0<=n)&&decide (n<=4294967295)
 |.u64=>decide (0<=n)&&decide (n<=18446744073709551615)
def Z4:Value->Option SC
 |.bool b=>some (.v (.bool b))
 |.int k n=>bif u7 k n then some (.v (.int k n))else none
 |.float .f32 b=>bif Nat.blt b 4294967296 then some (.fl .f32 (some b))else none
 |.float .f64 b=>bif Nat.blt b 18446744073709551616 then some (.fl .f64 (some b))else none
 |.complex .f64 a b=>bif Nat.blt a 18446744073709551616&&Nat.blt b 18446744073709551616 then some (.cx .f64 (some a) (some b))else none
 |.string s=>bif Nat.blt s.size 9223372036854775808 then some (.v (.string s))else none
 |.pointer none=>some (.v (.pointer none))
 |.slice none 0 0=>some (.v (.slice none 0 0))
 |.nilFunc=>some (.v .nilFunc)
 |.nilIface=>some (.v .nilIface)
 |.func (.func f) first captured=>match first.toList,captured.toList with
  | [],[]=>some (.fn f [])
  |_,_=>none
 |_=>none
def Vn:List Value->Option (List SC)
 | []=>some []
 |v::r=>match Z4 v,Vn r with
  |some c,some cs=>some (c::cs)
  |_,_=>none
def i9:Value->Option SV
 |.agg cs=>match Vn cs.toList with
  |some l=>some (.agg l)
  |none=>none
 |v=>match Z4 v with
  |some c=>some (.one c)
  |none=>none
def Gj(T:TypeId):Option SV:=
 match P.info? T with
 |some i=>match i.zero with
  |some z=>i9 z
  |none=>none
 |none=>none
end types
def Bt:List (Nat×TV)->Nat->TV
 | [],_=>.un
 |(n,x)::r,m=>bif Nat.beq n m then x else Bt r m
def pb:Bool->Bool->Bool
 |true,b=>b
 |false,b=>!b
def gP:List (Nat×Nat×Bool×TV)->Nat->Option ((Nat×Bool)×TV)
 | [],_=>none
 |(d,g,p,x)::r,t=>bif Nat.beq d t then some ((g,p),x)else gP r t
def Ff:List (Nat×Nat×Bool×TV)->Nat->Bool->List (Nat×Bool)
 | [],t,p=>[(t,p)]
 |(d,g,q,_)::r,t,p=>bif Nat.beq d t then(t,p)::Ff r g q else Ff r t p
def Po(tm:List (Nat×TV)):List (Nat×Nat×Bool×TV)->Nat->Bool->Option Bool
 | [],t,p=>match Bt tm t with
  |.val (.one (.v (.bool b)))=>some (pb p b)
  |_=>none
 |(d,g,q,x)::r,t,p=>bif Nat.beq d t then
   (match x with
    |.val (.one (.v (.bool b)))=>match Po tm r g q with
     |some c=>some (c&&pb p b)
     |none=>none
    |_=>none)
  else Po tm r t p
def ZK:List (Nat×Bool)->Nat->Bool->Bool
 | [],_,_=>false
 |(t,p)::r,g,q=>(Nat.beq t g&&pb p q)||ZK r g q
def ev(s:St)(ctx:List (Nat×Bool)):Operand->Option TV
 |.tmp t=>match gP s.cs t with
  |some ((g,p),x)=>bif ZK ctx g p then some x else none
  |none=>some (Bt s.tm t)
 |.const v=>match i9 v with
  |some x=>some (.val x)
  |none=>none
 |.global g=>some (.val (.one (.gptr g)))
 |.func f=>some (.val (.one (.fn f [])))
def Bj(s:St)(ctx:List (Nat×Bool))(x:Operand):Option SC:=
 match ev s ctx x with
 |some (.val (.one c))=>some c
 |_=>none
def EF(s:St)(ctx:List (Nat×Bool))(x:Operand):Option SV:=
 match ev s ctx x with
 |some (.val v)=>some v
 |_=>none
def Ei(s:St)(ctx:List (Nat×Bool)):List Operand->Option (List SV)
 | []=>some []
 |x::r=>match EF s ctx x,Ei s ctx r with
  |some v,some vs=>some (v::vs)
  |_,_=>none
def Ac(mem:Ae)(b:Nat):Blk:=(mem[b]?).getD .gone
def aDd:List SC->Option Nat
 | [c]=>match c with
  |.v (.bool b)=>some (bif b then 1 else 0)
  |.fn g []=>some (g+2)
  |.fnv (some (g,[]))=>some (g+2)
  |_=>none
 |_=>none
def JH(mem:Ae):List (Nat×Nat)->Option (List Nat×Ae)
 | []=>some ([],mem)
 |(b,0)::r=>match Ac mem b with
  |.raw cs=>match aDd cs,JH (mem.set b .gone) r with
   |some n,some (ns,m)=>some (n::ns,m)
   |_,_=>none
  |_=>none
 |_=>none
def Do(mem:Ae)(c:SC):SC×Ae:=
 match c with
 |.fn f (p::caps)=>match JH mem (p::caps)with
  |some (ns,m)=>(.fnv (some (f,ns)),m)
  |none=>(.fn f (p::caps),mem)
 |.own b=>match Ac mem b with
  |.arr τ xs=>(.sl τ xs,mem.set b (.froz τ xs))
  |.acc τ xs=>(.sl τ xs,mem.set b (.froz τ xs))
  |.froz τ xs=>(.sl τ xs,mem)
  |_=>(.undef,mem)
 |c=>(c,mem)
def Fg:Ae->List SC->List SC×Ae
 |mem,[]=>([],mem)
 |mem,c::r=>match Do mem c with
  |(c',mem')=>match Fg mem' r with
   |(r',mem'')=>(c'::r',mem'')
def F9(mem:Ae):SV->SV×Ae
 |.one c=>match Do mem c with
  |(c',m)=>(.one c',m)
 |.agg cs=>match Fg mem cs with
  |(cs',m)=>(.agg cs',m)
def HU(mem:Ae)(τ:Shape):SC->Option (List (Ab τ))
 |.sl τ' xs=>CX τ' τ xs
 |.v (.slice none 0 0)=>some []
 |.own b=>match Ac mem b with
  |.arr τ' xs=>CX τ' τ xs
  |.acc τ' xs=>CX τ' τ xs
  |.froz τ' xs=>CX τ' τ xs
  |_=>none
 |_=>none
def lenOf(mem:Ae):SC->Option Nat
 |.sl _ xs=>some xs.length
 |.v (.slice none 0 0)=>some 0
 |.v (.string s)=>some s.size
 |.own b=>match Ac mem b with
  |.arr _ xs=>some xs.length
  |.acc _ xs=>some xs.length
  |.froz _ xs=>some xs.length
  |_=>none
 |_=>none
def Pl(mem:Ae):SC->Option (List SC×Nat)
 |.ptr b off=>match Ac mem b with
  |.raw cs=>some (cs,off)
  |_=>none
 |.eptr b i off=>match Ac mem b with
  |.arr τ xs=>some (cellsOf τ (xs.getD i τ.dflt),off)
  |_=>none
 |.iptr τ x off=>some (cellsOf τ x,off)
 |_=>none
def H8:Nat->List SC->Option (List SC)
 |0,_=>some []
 |_+1,[]=>none
 |n+1,c::r=>match H8 n r with
  |some l=>some (c::l)
  |none=>none
def DD:Nat->List SC->List SC
 |0,l=>l
 |_+1,[]=>[]
 |n+1,_::r=>DD n r
def splice:Nat->List SC->List SC->Option (List SC)
 |0,[],old=>some old
 |0,_::_,[]=>none
 |0,c::r,_::old=>match splice 0 r old with
  |some l=>some (c::l)
  |none=>none
 |_+1,_,[]=>none
 |n+1,new,c::old=>match splice n new old with
  |some l=>some (c::l)
  |none=>none
def aZS:SC->Bool
 |.undef=>false
 |_=>true
def Gc:Nat->List SC->Bool
 |0,[]=>true
 |n+1,_::r=>Gc n r
 |_,_=>false
def Bk(k:IntKind)(x y:Int):Int:=k.wrap (x*2^(min y.toNat k.bits))
def AR(k:IntKind)(x y:Int):Int:=x.fdiv (2^(min y.toNat k.bits))
def BR(k:IntKind)(x y:Int):Int:=k.wrap ((dh k.bits x &&& dh k.bits y).toNat:Int)
def Ao(k:IntKind)(x y:Int):Int:=k.wrap ((dh k.bits x ||| dh k.bits y).toNat:Int)
def jE(k:IntKind)(x y:Int):Int:=k.wrap ((dh k.bits x ^^^ dh k.bits y).toNat:Int)
def fI(k:IntKind)(x y:Int):Int:=k.wrap ((dh k.bits x &&& ~~~(dh k.bits y)).toNat:Int)
def bBS(k:IntKind)(x:Int):Int:=jE k (if k.signed then -1 else k.max) x
def Bl(k:IntKind)(x y:Int):Int:=k.wrap (x.tdiv y)
def CE(op:BinOp)(k:FloatKind)(x y:Nat):Option Nat:=
 match op with
 |.add=>k.format.add x y
 |.sub=>k.format.sub x y
 |.mul=>k.format.mul x y
 |_=>k.format.div x y
def Ca(op:BinOp)(k:FloatKind):Option Nat->Option Nat->Option Nat
 |some x,some y=>CE op k x y
 |_,_=>none
def Dd(k:FloatKind):Option Nat->Option Nat->Option Ordering
 |some x,some y=>k.format.order x y
 |_,_=>none
def UZ(op:BinOp):SC->SC->Option (Bool×SC)
 |.v (.int k x),.v (.int k' y)=>
  match op with
  |.shl=>some ((match k'.signed with|true=>decide (0<=y)|false=>true),.v (.int k (Bk k x y)))
  |.shr=>some ((match k'.signed with|true=>decide (0<=y)|false=>true),.v (.int k (AR k x y)))
  |op=>if k'=k then
    match op with
    |.add=>some (true,.v (.int k (k.wrap (x+y))))
    |.sub=>some (true,.v (.int k (k.wrap (x-y))))
    |.mul=>some (true,.v (.int k (k.wrap (x*y))))
    |.quo=>some (y !=0,.v (.int k (Bl k x y)))
    |.rem=>some (y !=0,.v (.int k (x.tmod y)))
    |.and=>some (true,.v (.int k (BR k x y)))
    |.or=>some (true,.v (.int k (Ao k x y)))
    |.xor=>some (true,.v (.int k (jE k x y)))
    |.andNot=>some (true,.v (.int k (fI k x y)))
    |.eql=>some (true,.v (.bool (x==y)))
    |.neq=>some (true,.v (.bool (x !=y)))
    |.lss=>some (true,.v (.bool (decide (x<y))))
    |.leq=>some (true,.v (.bool (decide (x<=y))))
    |.gtr=>some (true,.v (.bool (decide (x>y))))
    |.geq=>some (true,.v (.bool (decide (x>=y))))
    |_=>none
   else none
 |.v (.bool x),.v (.bool y)=>
  match op with
  |.eql=>some (true,.v (.bool (x==y)))
  |.neq=>some (true,.v (.bool (!(x==y))))
  |_=>none
 |.v (.string x),.v (.string y)=>
  match op with
  |.add=>some (Nat.blt (x.size+y.size) 9223372036854775808,.v (.string (x++y)))
  |.eql=>some (true,.v (.bool (x.toList==y.toList)))
  |.neq=>some (true,.v (.bool (x.toList !=y.toList)))
  |_=>none
 |.fl k x,.fl k' y=>
  if k'=k then
   match op with
   |.eql=>some (true,.v (.bool (Dd k x y==some .eq)))
   |.neq=>some (true,.v (.bool (Dd k x y !=some .eq)))
   |.lss=>some (true,.v (.bool (Dd k x y==some .lt)))
   |.leq=>some (true,.v (.bool (Dd k x y==some .lt||Dd k x y==some .eq)))
   |.gtr=>some (true,.v (.bool (Dd k x y==some .gt)))
   |.geq=>some (true,.v (.bool (Dd k x y==some .gt||Dd k x y==some .eq)))
   |.add=>some (true,.fl k (Ca .add k x y))
   |.sub=>some (true,.fl k (Ca .sub k x y))
   |.mul=>some (true,.fl k (Ca .mul k x y))
   |.quo=>some (true,.fl k (Ca .quo k x y))
   |_=>none
  else none
 |.cx k x x',.cx k' y y' =>
  if k'=k then
   match op with
   |.add=>some (true,.cx k (Ca .add k x y) (Ca .add k x' y'))
   |.sub=>some (true,.cx k (Ca .sub k x y) (Ca .sub k x' y'))
   |_=>none
  else none
 |_,_=>none
def aEC(op:BinOp)(a b:SC):Option Bool:=
 match b with
 |.v (.pointer none)=>match a with
  |.ptr _ _=>match op with
   |.eql=>some false
   |.neq=>some true
   |_=>none
  |.v (.pointer none)=>match op with
   |.eql=>some true
   |.neq=>some false
   |_=>none
  |_=>none
 |_=>none
def aD8(P:Program)(T:TypeId):Bool:=match P.underlying T with|some .bool=>true|_=>false
def aPX(P:Program)(T:TypeId):SC->Bool
 |.v (.bool _)=>aD8 P T
 |_=>true
def aDz(P:Program)(T:TypeId):SC->SC->Option Bool
 |.v (.int k x),.v (.int k' y)=>match P.underlying T with
  |some (.int _)=>if k'=k then some (x==y)else none
  |_=>none
 |.v (.bool x),.v (.bool y)=>match P.underlying T with
  |some .bool=>some (x==y)
  |_=>none
 |_,_=>none
def Pt(P:Program):Nat->List Field->List SC->List SC->Option Bool
 |0,_,_,_=>none
 |_+1,[],_,_=>some true
 | k + 1, f :: fs, as, bs => bif f.name != "_" then
   (match(match GZ P f.type with
    |some true=>(match P.underlying f.type with
     |some (.struct gs)=>bif P.stoodInHeld f.type then none else(match H8 (P.cellsOf f.type) (DD f.offset as),H8 (P.cellsOf f.type) (DD f.offset bs)with
      |some a,some b=>Pt P k gs.toList a b
      |_,_=>none)
     |_=>none)
    |some false=>(match DD f.offset as,DD f.offset bs with
     |a::_,b::_=>aDz P f.type a b
     |_,_=>none)
    |none=>none),Pt P k fs as bs with
    |some x,some r=>match fs with
     | []=>some x
     |_::_=>some (x&&r)
    |_,_=>none)
  else none
def unV(op:UnOp):SC->Option SC
 |.v (.int k n)=>match op with
  |.neg=>some (.v (.int k (k.wrap (0-n))))
  |.xor=>some (.v (.int k (bBS k n)))
  |_=>none
 |.v (.bool b)=>match op with
  |.not=>some (.v (.bool !b))
  |_=>none
 |_=>none
inductive LK where
 |win (e:Shape)
 |ref (τ:Shape)
@[reducible] def LK.D:LK->Type
 |.win e=>List (Ab e)×Nat×Nat
 |.ref τ=>Ab τ
@[reducible] def LK.B:LK->Type
 |.win e=>List (Ab e)
 |.ref τ=>Ab τ
abbrev Aa:=List (Bool×Shape)
@[reducible] def DenS:Aa->Type
 | []=>Unit
 |(_,τ)::r=>Ab τ×DenS r
@[reducible] def DenS.dflt0:(S:Aa)->DenS S
 | []=>()
 |(_,τ)::r=>(τ.dflt,DenS.dflt0 r)
def C6(mem:Ae)(a:Bool)(τ:Shape)(z:SV):Option (Ab τ×Ae):=
 match z with
 |.one c=>bif a then none else(match Ci τ [c]with
  |some (y,[])=>some (y,mem)
  |_=>none)
 |.agg cs=>bif a then(match Ci τ cs with
  |some (y,[])=>some (y,mem)
  |_=>none)else none
def J1(mem:Ae)(a:Bool):(τ:Shape)->SV->Option (Ab τ×Ae)
 |.slice e,z=>bif a then(match z with
  |.one (.own b)=>(match Ac mem b with
   |.arr τ' xs=>(match CX τ' e xs with
    |some xs'=>some (xs',mem.set b .gone)
    |none=>none)
   |.acc τ' xs=>(match CX τ' e xs with
    |some xs'=>some (xs',mem.set b .gone)
    |none=>none)
   |_=>none)
  |.one (.v (.slice none 0 0))=>some ([],mem)
  |_=>none)else C6 mem false (.slice e) z
 |.int k,z=>C6 mem a (.int k) z
 |.flt k,z=>C6 mem a (.flt k) z
 |.bool,z=>C6 mem a .bool z
 |.str,z=>C6 mem a .str z
 |.fn,z=>C6 mem a .fn z
 |.unit,z=>C6 mem a .unit z
 |.pair σ τ,z=>C6 mem a (.pair σ τ) z
 |.box σ,z=>C6 mem a (.box σ) z
 |.ifc,z=>C6 mem a .ifc z
 |.pfn,z=>C6 mem a .pfn z
 |.cx k,z=>C6 mem a (.cx k) z
def CQ:Ae->(S:Aa)->List SV->Option (DenS S×Ae)
 |mem,[],[]=>some ((),mem)
 |mem,(a,τ)::S,z::r=>match J1 mem a τ z with
  |some (x,m1)=>(match CQ m1 S r with
   |some (y,m2)=>some ((x,y),m2)
   |none=>none)
  |none=>none
 |_,_,_=>none
def FD(a:Bool):Shape->Bool
 |.slice _=>a
 |_=>false
def BK:Ae->Aa->List SV->List SV×Ae
 |mem,[],r=>(r,mem)
 |mem,_::_,[]=>([],mem)
 |mem,(a,τ)::S,z::r=>bif FD a τ then(match BK mem S r with
   |(r',m')=>(z::r',m'))
  else(match F9 mem z with
   |(z',m1)=>(match BK m1 S r with
    |(r',m')=>(z'::r',m')))
def DE(mem:Ae)(a:Bool):(τ:Shape)->Ab τ->Option (SV×Ae)
 |.slice e,x=>bif a then some (.one (.own mem.length),mem++[.arr e x])else(match cellsOf (.slice e) x with
  | [c]=>some (.one c,mem)
  |_=>none)
 |.int k,x=>giveP mem a (.int k) x
 |.flt k,x=>giveP mem a (.flt k) x
 |.bool,x=>giveP mem a .bool x
 |.str,x=>giveP mem a .str x
 |.fn,x=>giveP mem a .fn x
 |.unit,x=>giveP mem a .unit x
 |.pair σ τ,x=>giveP mem a (.pair σ τ) x
 |.box σ,x=>giveP mem a (.box σ) x
 |.ifc,x=>giveP mem a .ifc x
 |.pfn,x=>giveP mem a .pfn x
 |.cx k,x=>giveP mem a (.cx k) x
where giveP (mem:Ae) (a:Bool) (τ:Shape) (x:Ab τ):Option (SV×Ae):=
 bif a then some (.agg (cellsOf τ x),mem)else match cellsOf τ x with
  | [c]=>some (.one c,mem)
  |_=>none
def Cg:Ae->(S:Aa)->DenS S->Option (List SV×Ae)
 |mem,[],_=>some ([],mem)
 |mem,(a,τ)::S,x=>match DE mem a τ x.1 with
  |some (v,m1)=>(match Cg m1 S x.2 with
   |some (r,m2)=>some (v::r,m2)
   |none=>none)
  |none=>none
structure Sum where
 ins:Aa
 outs:Aa
 pre:DenS ins->Bool
 F:DenS ins->DenS outs
structure SumF where
 ins:Aa
 outs:Aa
 pre:Option (Nat×List Nat)->DenS ins->Bool
 F:Option (Nat×List Nat)->DenS ins->DenS outs
def SumF.at(S:SumF)(v:Option (Nat×List Nat)):Sum:=⟨S.ins,S.outs,S.pre v,S.F v⟩
structure SumM where
 ins:Aa
 outs:Aa
 pre:Option (Nat×List Int)->DenS ins->Bool
 F:Option (Nat×List Int)->DenS ins->DenS outs
def SumM.at(S:SumM)(d:Option (Nat×List Int)):Sum:=⟨S.ins,S.outs,S.pre d,S.F d⟩
structure SumL where
 lend:LK
 ins:Aa
 outs:Aa
 pre:lend.D×DenS ins->Bool
 F:lend.D×DenS ins->lend.B×DenS outs
def LY(mem:Ae):LK->SV->Ae
 |.win _,_=>mem
 |.ref _,z=>match z with
  |.one (.ptr b 0)=>(match Ac mem b with
   |.raw cs=>(match Fg mem cs with
    |(cs',m1)=>(match Ac m1 b with
     |.raw _=>m1.set b (.raw cs')
     |_=>mem))
   |_=>mem)
  |_=>mem
def WD(mem:Ae):(k:LK)->SV->Option (Nat×k.D×Ae)
 |.win e,z=>match z with
  |.one (.sub b lo len)=>(match Ac mem b with
   |.arr τ xs=>(match CX τ e xs with
    |some xs'=>some (b,(xs',lo,len),mem.set b .gone)
    |none=>none)
   |_=>none)
  |.one (.own b)=>(match Ac mem b with
   |.arr τ xs=>(match CX τ e xs with
    |some xs'=>some (b,(xs',0,xs.length),mem.set b .gone)
    |none=>none)
   |_=>none)
  |_=>none
 |.ref τ,z=>match z with
  |.one (.ptr b 0)=>(match Ac mem b with
   |.raw cs=>(match Ci τ cs with
    |some (x,[])=>some (b,x,mem.set b .gone)
    |_=>none)
   |_=>none)
  |_=>none
def We(mem:Ae)(b:Nat):(k:LK)->k.B->Ae
 |.win e,xs=>mem.set b (.arr e xs)
 |.ref τ,x=>mem.set b (.raw (cellsOf τ x))
def ZN(b:Nat):SC->Bool
 |.own b'=>Nat.beq b' b
 |.ptr b' _=>Nat.beq b' b
 |.eptr b' _ _=>Nat.beq b' b
 |.sub b' _ _=>Nat.beq b' b
 |.fn _ caps=>caps.any fun p=>Nat.beq p.1 b
 |_=>false
def aOj(b:Nat):Blk->Bool
 |.raw cs=>cs.all fun c=>!(ZN b c)
 |_=>true
def aDP(b:Nat)(mem:Ae):Bool:=mem.all (aOj b)
def gJ(mem:Ae):LK->SV->Bool
 |.win _,z=>match z with
  |.one (.sub b _ _)=>(match Ac mem b with|.arr _ _=>true|_=>false)
  |.one (.own b)=>(match Ac mem b with|.arr _ _=>true|_=>false)
  |_=>false
 |.ref _,z=>match z with
  |.one (.ptr b 0)=>(match Ac mem b with|.raw _=>true|_=>false)
  |_=>false
def LM(mem:Ae)(k:LK):List SV->Bool
 | []=>false
 |z::_=>gJ mem k z
inductive PC where
 |v (k:IntKind)|bool|str|fnv|sl (τ:Shape)|fl (k:FloatKind)
 |own (b:Nat)|ptr (b off:Nat)|gptr (g:Nat)|fn (f:FuncId)|nilp|undef|sub (b:Nat)|ifv|cx (k:FloatKind)
@[reducible] def PC.D:PC->Type
 |.v _=>Int
 |.bool=>Bool
 |.str=>ByteArray
 |.fnv=>Option (Nat×List Nat)
 |.ifv=>Option (Nat×List Int)
 |.sl τ=>List (Ab τ)
 |.fl _=>Option Nat
 |.sub _=>Nat×Nat
 |.cx _=>Option Nat×Option Nat
 |_=>Unit
@[reducible] def Xn:List PC->Type
 | []=>Unit
 |c::r=>c.D×Xn r
inductive PV where
 |one (c:PC)
 |agg (cs:List PC)
@[reducible] def PV.D:PV->Type
 |.one c=>c.D
 |.agg cs=>Xn cs
@[reducible] def aQ:List (Nat×PV)->Type
 | []=>Unit
 |(_,v)::r=>v.D×aQ r
inductive PB where
 |gone
 |raw (cs:List PC)
 |arr (τ:Shape)
 |acc (τ:Shape)
 |froz (τ:Shape)
 |itr
@[reducible] def PB.D:PB->Type
 |.gone=>Unit
 |.raw cs=>Xn cs
 |.arr τ=>List (Ab τ)
 |.acc τ=>List (Ab τ)
 |.froz τ=>List (Ab τ)
 |.itr=>ByteArray×Nat
@[reducible] def Xo:List PB->Type
 | []=>Unit
 |b::r=>b.D×Xo r
structure Pat where
 n:Nat
 tm:List (Nat×PV)
 mem:List PB
@[reducible] def Pat.D(p:Pat):Type:=aQ p.tm×Xo p.mem
def EJ(mem:Ae)(len:Nat):(c:PC)->SC->Option c.D
 |.v k,z=>match z with
  |.v (.int k' n)=>if k'=k then some n else none
  |_=>none
 |.bool,z=>match z with
  |.v (.bool b)=>some b
  |_=>none
 |.str,z=>match z with
  |.v (.string b)=>some b
  |_=>none
 |.fnv,z=>match z with
  |.v .nilFunc=>some none
  |.fn f []=>some (some (f,[]))
  |.fnv o=>some o
  |_=>none
 |.ifv,z=>match z with
  |.v .nilIface=>some none
  |.ifv d=>some d
  |_=>none
 |.sl τ,z=>match z with
  |.sl τ' xs=>CX τ' τ xs
  |.v (.slice none 0 0)=>some []
  |.own b=>match Ac mem b with
   |.froz τ' xs=>CX τ' τ xs
   |_=>none
  |_=>none
 |.fl k,z=>match z with
  |.fl k' o=>if k'=k then some o else none
  |_=>none
 |.cx k,z=>match z with
  |.cx k' x y=>if k'=k then some (x,y)else none
  |_=>none
 |.own b,z=>match z with
  |.own b'=>bif Nat.beq b' b&&Nat.blt b len then some ()else none
  |_=>none
 |.ptr b off,z=>match z with
  |.ptr b' off'=>bif Nat.beq b' b&&Nat.beq off' off&&Nat.blt b len then some ()else none
  |_=>none
 |.gptr g,z=>match z with
  |.gptr g'=>bif Nat.beq g' g then some ()else none
  |_=>none
 |.fn f,z=>match z with
  |.fn f' []=>bif Nat.beq f' f then some ()else none
  |_=>none
 |.nilp,z=>match z with
  |.v (.pointer none)=>some ()
  |_=>none
 |.undef,_=>some ()
 |.sub b,z=>match z with
  |.sub b' lo n=>bif Nat.beq b' b&&Nat.blt b len then some (lo,n)else none
  |_=>none
def aC8:(c:PC)->c.D->SC
 |.v k,n=>.v (.int k n)
 |.bool,b=>.v (.bool b)
 |.str,b=>.v (.string b)
 |.fnv,o=>.fnv o
 |.ifv,o=>.ifv o
 |.sl τ,xs=>.sl τ xs
 |.fl k,o=>.fl k o
 |.cx k,x=>.cx k x.1 x.2
 |.own b,_=>.own b
 |.ptr b off,_=>.ptr b off
 |.gptr g,_=>.gptr g
 |.fn f,_=>.fn f []
 |.nilp,_=>.v (.pointer none)
 |.undef,_=>.undef
 |.sub b,x=>.sub b x.1 x.2
def WW(mem:Ae)(len:Nat):(l:List PC)->List SC->Option (Xn l)
 | [],[]=>some ()
 |c::r,z::zs=>match EJ mem len c z,WW mem len r zs with
  |some d,some ds=>some (d,ds)
  |_,_=>none
 |_,_=>none
def tJ:(l:List PC)->Xn l->List SC
 | [],_=>[]
 |c::r,x=>aC8 c x.1::tJ r x.2
def aEK(mem:Ae)(len:Nat):(v:PV)->TV->Option v.D
 |.one c,.val (.one z)=>EJ mem len c z
 |.agg cs,.val (.agg zs)=>WW mem len cs zs
 |_,_=>none
def aM5:(v:PV)->v.D->SV
 |.one c,x=>.one (aC8 c x)
 |.agg cs,x=>.agg (tJ cs x)
def vK(s:St)(len:Nat):(l:List (Nat×PV))->Option (aQ l)
 | []=>some ()
 |(t,v)::r=>match aEK s.mem len v (Bt s.tm t),vK s len r with
  |some d,some ds=>some (d,ds)
  |_,_=>none
def tK:(l:List (Nat×PV))->aQ l->List (Nat×TV)
 | [],_=>[]
 |(t,v)::r,x=>(t,.val (aM5 v x.1))::tK r x.2
def Z0(mem:Ae)(len:Nat):(b:PB)->Blk->Option b.D
 |.gone,_=>some ()
 |.raw cs,.raw zs=>WW mem len cs zs
 |.arr τ,.arr τ' xs=>CX τ' τ xs
 |.acc τ,.acc τ' xs=>CX τ' τ xs
 |.froz τ,.froz τ' xs=>CX τ' τ xs
 |.itr,.itr s p=>some (s,p)
 |_,_=>none
def LD:(b:PB)->b.D->Blk
 |.gone,_=>.gone
 |.raw cs,x=>.raw (tJ cs x)
 |.arr τ,x=>.arr τ x
 |.acc τ,x=>.acc τ x
 |.froz τ,x=>.froz τ x
 |.itr,x=>.itr x.1 x.2
def iT(mem:Ae)(len:Nat):(l:List PB)->List Blk->Option (Xo l)
 | [],_=>some ()
 |b::r,z::zs=>match Z0 mem len b z,iT mem len r zs with
  |some d,some ds=>some (d,ds)
  |_,_=>none
 |_,_=>none
def Yl:(l:List PB)->Xo l->Ae
 | [],_=>[]
 |b::r,x=>LD b x.1::Yl r x.2
def H5(p:Pat)(s:St)(m:Nat:=0):Option p.D:=
 bif Nat.beq s.n p.n&&Nat.beq s.m0 m&&Nat.ble m p.mem.length then
  (match vK s p.mem.length p.tm,iT s.mem p.mem.length p.mem s.mem with
   |some x,some y=>some (x,y)
   |_,_=>none)
 else none
def Pj(p:Pat)(x:p.D)(m:Nat:=0):St:={n:=p.n,m0:=m,tm:=tK p.tm x.1,mem:=Yl p.mem x.2,cs:=[] }
structure LoopSpec where
 pat:Pat
 accs:List (Nat×Shape)
 exits:List (Nat×Pat)
 ret:Option Pat
 run:{R:Type}->pat.D->(Nat->St->Option R)->(St->Option R)->Option R
 /-- so JQ names of the caller's lie ahead -/
 m0:Nat:=0
structure Cfg where
 P:Program
 sums:List (FuncId×Sum)
 loops:List (FuncId×Nat×LoopSpec)
 globs:List (Nat×Sigma fun τ=>List (Ab τ))
 /-- are rows that are cut at their end Dt the call's own? -/
 keep:Bool:=false
 /-- functions to which something is lent -/
 lsums:List (FuncId×SumL):=[]
 /-- is a row that is cut at both ends a piece of it? -/
 cut:Bool:=false
 /-- loops without a spec are followed for so JQ rounds -/
 unroll:Nat:=0
 /-- functions that are data: the call's result's type,what such a call computes -/
 fns:List (TypeId×SumF):=[]
 /-- methods of an interface's value: the name,what such a call computes -/
 meths:List (String×SumM):=[]
 /-- are rows and structs only looked at by calls that answer plain words? -/
 bor:Bool:=false
 /-- slices that are written by their places behind an append -/
 arrs:List TypeId:=[]
def Pw(mem:Ae):Aa->List SV->Bool
 | [],[]=>true
 |(a,τ)::S,z::r=>(bif FD a τ then(match z with
  |.one (.own b)=>(match Ac mem b with
   |.arr _ _=>true
   |.acc _ _=>true
   |_=>false)
  |.one (.v (.slice none 0 0))=>true
  |_=>false)else true)&&Pw mem S r
 |_,_=>false
def JM:List (FuncId×Sum)->FuncId->Ae->List SV->Option Sum
 | [],_,_,_=>none
 |(g,S)::r,f,mem,args=>bif Nat.beq g f&&Pw mem S.ins args then some S else JM r f mem args
def gH:List (FuncId×Nat×LoopSpec)->FuncId->Nat->Option LoopSpec
 | [],_,_=>none
 |(g,k,S)::r,f,n=>bif Nat.beq g f&&Nat.beq k n then some S else gH r f n
def Pv:List (Nat×Sigma fun τ=>List (Ab τ))->Nat->Option (Sigma fun τ=>List (Ab τ))
 | [],_=>none
 |(g,S)::r,f=>bif Nat.beq g f then some S else Pv r f
def Cfg.sum(C:Cfg)(f:FuncId)(mem:Ae)(args:List SV):Option Sum:=JM C.sums f mem args
def G9:List (FuncId×SumL)->FuncId->Ae->List SV->Option SumL
 | [],_,_,_=>none
 |(g,S)::r,f,mem,args=>bif Nat.beq g f&&LM mem S.lend args then some S else G9 r f mem args
def Cfg.lsum(C:Cfg)(f:FuncId)(mem:Ae)(args:List SV):Option SumL:=G9 C.lsums f mem args
def Cfg.loop(C:Cfg)(f:FuncId)(k:Nat):Option LoopSpec:=gH C.loops f k
def Cfg.glob(C:Cfg)(g:Nat):Option (Sigma fun τ=>List (Ab τ)):=Pv C.globs g
def L6:List SV->TV
 | [x]=>.val x
 |l=>.tup l
def U9(mem:Ae)(I:Aa)(args:List SV):Bool:=
 match BK mem I args with
 |(args',m1)=>match CQ m1 I args' with
  |some _=>true
  |none=>false
def U7(mem:Ae)(T:TypeId)(args:List SV):List (TypeId×SumF)->Option SumF
 | []=>none
 |(T',S)::r=>bif Nat.beq T' T&&U9 mem S.ins args then some S else U7 mem T args r
def U8(mem:Ae)(m:String)(args:List SV):List (String×SumM)->Option SumM
 | []=>none
 |(m',S)::r=>bif m'==m&&U9 mem S.ins args then some S else U8 mem m args r
def iF:List SC->Option (List Int)
 | []=>some []
 |.v (.int .i64 n)::r=>match iF r with
  |some l=>some (n::l)
  |none=>none
 |_=>none
def EE(mem:Ae)(S:Sum)(args:List SV):Option (Bool×TV×Ae):=
 match BK mem S.ins args with
 |(args',m1)=>match CQ m1 S.ins args' with
  |some x=>match Cg x.2 S.outs (S.F x.1)with
   |some (vs,mem')=>some (S.pre x.1,L6 vs,mem')
   |none=>none
  |none=>none
def Py:Shape->Bool
 |.int _=>true
 |.flt _=>true
 |.bool=>true
 |.str=>true
 |.unit=>true
 |.cx _=>true
 |.ifc=>true
 |.pfn=>true
 |.pair a b=>Py a&&Py b
 |_=>false
def Wu:Aa->Bool
 | []=>true
 |(_,τ)::S=>Py τ&&Wu S
def F6(mem:Ae):SC->SC
 |.own b=>match Ac mem b with
  |.arr τ xs=>.sl τ xs
  |.acc τ xs=>.sl τ xs
  |.froz τ xs=>.sl τ xs
  |_=>.undef
 |.sub b lo n=>match Ac mem b with
  |.arr τ xs=>.sl τ ((xs.drop lo).take n)
  |_=>.undef
 |c=>c
def aCS(mem:Ae)(a:Shape)(b off:Nat):Option SC:=
 match Ac mem b with
 |.raw cs=>match Ci a ((DD off cs).map (F6 mem))with
  |some (x,_)=>some (.iptr a x 0)
  |none=>none
 |_=>none
def fN(mem:Ae)(τ:Shape):SV->SV
 |.one c=>match τ,c with
  |.box a,.ptr b off=>(match aCS mem a b off with
   |some c'=>.one c'
   |none=>.one (F6 mem c))
  |_,_=>.one (F6 mem c)
 |.agg cs=>.agg (cs.map (F6 mem))
def J0(mem:Ae):(S:Aa)->List SV->Option (DenS S)
 | [],[]=>some ()
 |(a,τ)::S,z::r=>bif FD a τ then none else(match C6 mem a τ (fN mem τ z),J0 mem S r with
  |some (x,_),some y=>some (x,y)
  |_,_=>none)
 |_,_=>none
def Fw(mem:Ae)(S:Sum)(args:List SV):Option (Bool×TV×Ae):=
 bif Wu S.outs then(match J0 mem S.ins args with
  |some x=>(match Cg mem S.outs (S.F x)with
   |some (vs,mem')=>some (S.pre x,L6 vs,mem')
   |none=>none)
  |none=>none)
 else none
def Ey(bor:Bool)(mem:Ae)(S:Sum)(args:List SV):Option (Bool×TV×Ae):=
 match(bif bor then Fw mem S args else none)with
 |some r=>some r
 |none=>EE mem S args
inductive Res where
 |ok (g:Bool) (x:TV) (mem:Ae)
 |inl (f:FuncId) (args:List SV)
def Fi(s:St)(ctx:List (Nat×Bool))(x:Operand):Option Int:=
 match Bj s ctx x with
 |some (.v (.int _ n))=>some n
 |_=>none
def gG(P:Program)(T:TypeId)(i:Nat):Option (Nat×TypeId):=
 match P.underlying T with
 |some (.struct fs)=>match fs.toList[i]? with
  |some f=>bif Nat.beq (P.cellsOf f.type) 0 then none else some (f.offset,f.type)
  |none=>none
 |_=>none
def CD(P:Program)(e:TypeId):Option Shape:=
 match PQ P 12 e with
 |some τ=>bif Nat.beq (P.cellsOf e) τ.width then some τ else none
 |none=>none
def JZ(AB:Nat->Option (Nat×Nat)):List (Nat×SV)->List SC->Option (List SC)
 | [],old=>some old
 |(i,x)::r,old=>match AB i with
  |none=>none
  |some (off,size)=>bif Gc size x.cells then
    (match splice off x.cells old with
     |some old'=>JZ AB r old'
     |none=>none)
   else none
def G6(s:St)(ctx:List (Nat×Bool)):List (Nat×Operand)->Option (List (Nat×SV))
 | []=>some []
 |(i,x)::r=>match EF s ctx x,G6 s ctx r with
  |some v,some vs=>some ((i,v)::vs)
  |_,_=>none
def fE:List SC->Bool
 | []=>true
 |c::r=>aZS c&&fE r
def Em(mem:Ae):List SV->Option (List (Nat×Nat))
 | []=>some []
 |.one (.ptr b off)::r=>match Ac mem b,Em mem r with
  |.raw _,some l=>some ((b,off)::l)
  |_,_=>none
 |_=>none
def fG(mem:Ae):List (Nat×Nat)->Bool
 | []=>true
 |(b,_)::r=>match Ac mem b with
  |.raw _=>fG mem r
  |_=>false
def DQ(b:Nat):SC->SC
 |.own b'=>bif Nat.beq b b' then .undef else .own b'
 |c=>c
def aNO(b:Nat):SV->SV
 |.one c=>.one (DQ b c)
 |.agg cs=>.agg (cs.map (DQ b))
def Wo(b:Nat):TV->TV
 |.un=>.un
 |.val x=>.val (aNO b x)
 |.tup l=>.tup (l.map (aNO b))
 |.nxt c i r=>.nxt c i r
def D6(b:Nat):Blk->Blk
 |.raw cs=>.raw (cs.map (DQ b))
 |x=>x
def PZ(P:Program)(e:TypeId):Bool:=
 match Gj P e with
 |some z=>Gc (P.cellsOf e) z.cells
 |none=>false
def aET(b:Bool):Bool:=(qo ⟨(⟨b,rfl⟩:{c:Bool // c=b})⟩).1
theorem aQW(b:Bool):aET b=b:=(qo ⟨(⟨b,rfl⟩:{c:Bool // c=b})⟩).2
def aEU(n:Nat)(b:Bool):Bool:=bif Nat.blt 15 n then aET b else b
theorem bH9(n:Nat)(b:Bool):aEU n b=b:=by
 unfold aEU;cases Nat.blt 15 n with
 |true=>exact aQW b
 |false=>rfl
def EA:Int:=140737488355328
def CK(n b:Nat):Bool:=Nat.ble (n*2*b) 140737488355328
def vS:Operand->Operand->Bool
 |.tmp t,.tmp t'=>Nat.beq t t'
 |.const (.int k a),.const (.int k' b)=>decide (k=k')&&decide (a=b)
 |_,_=>false
def iW(mem:Ae)(τ:Shape)(b:Nat):Option (List (Ab τ)):=
 match Ac mem b with
 |.arr τ' xs=>CX τ' τ xs
 |.acc τ' xs=>CX τ' τ xs
 |_=>none
def Vq(C:Cfg)(s:St)(ctx:List (Nat×Bool))(x:Operand)(lo mx:Option Operand):Option Nat:=
 bif C.keep&&lo.isNone&&mx.isNone then(match Bj s ctx x with
  |some (.own b)=>(match Ac s.mem b with
   |.arr _ _=>some b
   |.acc _ _=>some b
   |_=>none)
  |_=>none)else none
def PU(C:Cfg)(s:St)(ctx:List (Nat×Bool))(T:TypeId)(x:Operand)(lo hi mx:Option Operand):Option (Bool×SC):=
 match mx,Bj s ctx x with
 |none,some (.own b)=>bif C.cut&&(C.bor||(lo.isSome&&hi.isSome))then(match C.P.underlying T,Ac s.mem b with
  |some (.slice e),.arr τ' xs=>(match CD C.P e,(match lo with|none=>some (0:Int)|some a=>Fi s ctx a),(match hi with|none=>some (xs.length:Int)|some a=>Fi s ctx a)with
   |some τ,some l,some h=>if τ'=τ then some (decide (0<=l)&&decide (l<=h)&&decide (h<=(xs.length:Int)),.sub b l.toNat (h.toNat-l.toNat))else none
   |_,_,_=>none)
  |_,_=>none)else none
 |none,some (.ptr b 0)=>(match lo,hi,C.P.underlying T,Ac s.mem b with
  |none,none,some (.array n e),.arr τ' xs=>(match CD C.P e with
   |some τ=>if τ'=τ then(bif Nat.beq xs.length n then some (true,.sub b 0 xs.length)else none)else none
   |none=>none)
  |_,_,_,_=>none)
 |_,_=>none
def inN(n:Nat):List Nat->Bool
 | []=>false
 |m::r=>Nat.beq m n||inN n r
def HT(C:Cfg)(T:TypeId):Bool:=inN T C.arrs
def Yf(C:Cfg)(s:St)(ctx:List (Nat×Bool))(c:Call):Option Res:=
 let P:=C.P
 match c.args.toList,c.argTypes.toList with
   | [x,y],T::T2::_=>match P.underlying T,P.underlying T2,Bj s ctx x,Bj s ctx y with
    |some (.slice e),some (.slice _),some a,some yc=>match CD P e with
     |some τ=>match Do s.mem yc with
      |(yc',mem')=>match HU mem' τ yc',a with
       |some ys,.v (.slice none 0 0)=>
        some (.ok (CK ys.length (P.bytesOf e)&&Nat.blt 0 (P.bytesOf e)&&PZ P e) (.val (.one (.own mem'.length))) (mem'++[.acc τ ys]))
       |some ys,.own b=>match Ac mem' b with
        |.acc τ' xs=>match CX τ' τ xs with
         |some xs'=>some (.ok (CK (xs'.length+ys.length) (P.bytesOf e)&&Nat.blt 0 (P.bytesOf e)&&PZ P e) (.val (.one (.own b))) (mem'.set b (.acc τ (xs'++ys))))
         |none=>none
        |_=>none
       |_,_=>none
     |none=>none
    |_,_,_,_=>none
   |_,_=>none
def Yg(C:Cfg)(s:St)(ctx:List (Nat×Bool))(c:Call):Option Res:=
 let P:=C.P
 match c.args.toList,c.argTypes.toList with
   | [x,y],T::T2::_=>match P.underlying T,P.underlying T2,Bj s ctx x,Bj s ctx y with
    |some (.slice e),some (.slice _),some a,some yc=>match CD P e with
     |some τ=>bif Py τ then(match HU s.mem τ (F6 s.mem yc),a with
       |some ys,.v (.slice none 0 0)=>
        some (.ok (CK ys.length (P.bytesOf e)&&Nat.blt 0 (P.bytesOf e)&&PZ P e) (.val (.one (.own (s.mem.length+1)))) (s.mem.map (D6 s.mem.length)++[.gone]++[.arr τ ys]))
       |some ys,.own b=>match iW s.mem τ b with
        |some xs=>some (.ok (CK (xs.length+ys.length) (P.bytesOf e)&&Nat.blt 0 (P.bytesOf e)&&PZ P e) (.val (.one (.own (s.mem.length+1)))) ((s.mem.set b .gone).map (D6 s.mem.length)++[.gone]++[.arr τ (xs++ys)]))
        |none=>none
       |_,_=>none)else none
     |none=>none
    |_,_,_,_=>none
   |_,_=>none
def At(C:Cfg)(s:St)(ctx:List (Nat×Bool))(o:Oper):Option Res:=
 let P:=C.P
 match o.op with
 |.move x=>match ev s ctx x with
  |some v=>some (.ok true v s.mem)
  |none=>none
 |.assign x=>match ev s ctx x with
  |some v=>some (.ok true v s.mem)
  |none=>none
 |.pick c a b=>match c with
  |.tmp t=>match Bj s ctx (.tmp t),Bj s ((t,true)::ctx) a,Bj s ((t,false)::ctx) b with
   |some (.v (.bool cb)),some (.v (.bool x)),some (.v (.bool y))=>
    (match a,b with
     |.const _,_=>(match x with
      |true=>some (.ok true (.val (.one (.v (.bool (cb||y))))) s.mem)
      |false=>some (.ok true (.val (.one (.v (.bool (bif cb then x else y))))) s.mem))
     |_,.const _=>(match y with
      |false=>some (.ok true (.val (.one (.v (.bool (cb&&x))))) s.mem)
      |true=>some (.ok true (.val (.one (.v (.bool (bif cb then x else y))))) s.mem))
     |_,_=>some (.ok true (.val (.one (.v (.bool (bif cb then x else y))))) s.mem))
   |_,_,_=>none
  |_=>none
 |.alloc T=>match Gj P T,P.underlying T with
  |some z,some (.array n e)=>match CD P e with
   |some τ=>match JQ τ n z.cells with
    |some xs=>some (.ok true (.val (.one (.ptr s.mem.length 0))) (s.mem++[.arr τ xs]))
    |none=>none
   |none=>none
  |some z,some _=>some (.ok true (.val (.one (.ptr s.mem.length 0))) (s.mem++[.raw z.cells]))
  |_,_=>none
 |.box T x=>match EF s ctx x,P.underlying T with
  |some v,some (.array n e)=>match CD P e with
   |some τ=>match JQ τ n v.cells with
    |some xs=>some (.ok true (.val (.one (.ptr s.mem.length 0))) (s.mem++[.arr τ xs]))
    |none=>none
   |none=>none
  |some v,some _=>some (.ok true (.val (.one (.ptr s.mem.length 0))) (s.mem++[.raw v.cells]))
  |_,_=>none
 |.build T parts=>match Gj P T,G6 s ctx parts.toList,P.underlying T with
  |some z,some ps,some (.struct fs)=>bif fs.toList.all (fun f=>(P.info? f.type).isSome)then
   (match JZ (fun i=>match fs.toList[i]? with|some f=>some (f.offset,P.cellsOf f.type)|none=>none) ps z.cells with
    |some cs=>some (.ok true (.val (.agg cs)) s.mem)
    |none=>none)
   else none
  |some z,some ps,some (.array _ e)=>bif(P.info? e).isSome then
   (match JZ (fun i=>some (i*P.cellsOf e,P.cellsOf e)) ps z.cells with
    |some cs=>some (.ok true (.val (.agg cs)) s.mem)
    |none=>none)
   else none
  |_,_,_=>none
 |.buildSlice T n parts=>match P.underlying T with
  |some (.slice e)=>match CD P e,Gj P e,G6 s ctx parts.toList with
   |some τ,some z,some ps=>
    bif Nat.beq n 0&&ps.isEmpty then some (.ok true (.val (.one (.own s.mem.length))) (s.mem++[.acc τ []]))else
    (match JZ (fun i=>some (i*P.cellsOf e,P.cellsOf e)) ps ((bd n z.cells).flatten)with
     |some cs=>match Fg s.mem cs with
      |(cs',mem')=>match JQ τ n cs' with
       |some xs=>bif Nat.ble (n*P.cellsOf e) 16777216&&Nat.blt 0 (P.cellsOf e)&&Gc (P.cellsOf e) z.cells&&Nat.blt 0 n then(bif HT C T then some (.ok true (.val (.one (.own mem'.length))) (mem'++[.arr τ xs]))else some (.ok true (.val (.one (.sl τ xs))) mem'))else none
       |none=>none
     |none=>none)
   |_,_,_=>none
  |_=>none
 |.load T x=>match Bj s ctx x with
  |some a=>match Pl s.mem a,GZ P T with
   |some (cs,off),some true=>match H8 (P.cellsOf T) (DD off cs)with
    |some l=>some (.ok true (.val (.agg l)) s.mem)
    |none=>none
   |some (cs,off),some false=>match DD off cs with
    |c::_=>some (.ok true (.val (.one c)) s.mem)
    | []=>none
   |_,_=>none
  |none=>none
 |.store T x y=>match Bj s ctx x,EF s ctx y with
  |some (.ptr b off),some v=>match Ac s.mem b with
   |.raw cs=>bif Gc (P.cellsOf T) v.cells&&fE v.cells&&Nat.blt 0 (P.cellsOf T)then
     (match splice off v.cells cs with
      |some cs'=>some (.ok true .un (s.mem.set b (.raw cs')))
      |none=>none)
    else none
   |_=>none
  |some (.eptr b i off),some v=>match F9 s.mem v with
   |(v',mem')=>match Ac mem' b with
    |.arr τ xs=>bif Gc (P.cellsOf T) v'.cells&&fE v'.cells&&Nat.blt 0 (P.cellsOf T)then
      (match splice off v'.cells (cellsOf τ (xs.getD i τ.dflt))with
       |some cs'=>match Ci τ cs' with
        |some (x',[])=>some (.ok true .un (mem'.set b (.arr τ (xs.set i x'))))
        |_=>none
       |none=>none)
     else none
    |_=>none
  |_,_=>none
 |.nilCheck x=>match ev s ctx x with
  |some (.val (.one (.ptr b off)))=>match Ac s.mem b with
   |.raw _=>some (.ok true (.val (.one (.ptr b off))) s.mem)
   |_=>none
  |some (.val (.one (.iptr τ y off)))=>some (.ok true (.val (.one (.iptr τ y off))) s.mem)
  |_=>none
 |.binOp op T x y _=>match EF s ctx x,EF s ctx y with
  |some (.one a),some (.one b)=>bif aPX P T a then
    (match UZ op a b with
     |some (g,c)=>some (.ok g (.val (.one c)) s.mem)
     |none=>match aEC op a b,P.underlying T with
      |some r,some (.pointer _)=>some (.ok true (.val (.one (.v (.bool r)))) s.mem)
      |_,_=>none)
   else none
  |some (.agg a),some (.agg b)=>match P.underlying T with
   |some (.struct fs)=>bif !(P.eqGuardType P.depth T)&&!(P.stoodInHeld T)then
     (match op,Pt P 40 fs.toList a b with
      |.eql,some r=>some (.ok true (.val (.one (.v (.bool r)))) s.mem)
      |.neq,some r=>some (.ok true (.val (.one (.v (.bool !r)))) s.mem)
      |_,_=>none)
    else none
   |_=>none
  |_,_=>none
 |.unOp op _ x=>match Bj s ctx x with
  |some a=>match unV op a with
   |some c=>some (.ok true (.val (.one c)) s.mem)
   |none=>none
  |none=>none
 |.convert src dst x=>match P.underlying dst,Bj s ctx x with
  |some (.int k),some (.v (.int _ n))=>match P.underlying src with
   |some _=>some (.ok true (.val (.one (.v (.int k (k.wrap n))))) s.mem)
   |none=>none
  |_,_=>none
 |.makeSlice T l c=>match P.underlying T,Fi s ctx l,Fi s ctx c with
  |some (.slice e),some n,some m=>match CD P e,Gj P e with
   |some τ,some z=>match Ci τ z.cells with
    |some (d,[])=>
     bif vS l c&&Nat.blt 0 (P.cellsOf e)&&Nat.blt 0 (P.bytesOf e)then
      some (.ok (decide (0<=n)&&decide (n*(P.bytesOf e:Int)<=EA)) (.val (.one (.own s.mem.length))) (s.mem++[.arr τ (bd n.toNat d)]))
     else bif Nat.blt 0 (P.cellsOf e)&&Nat.blt 0 (P.bytesOf e)then
      some (.ok (decide (0<=n)&&decide (n<=m)&&decide (m*(P.bytesOf e:Int)<=EA)) (.val (.one (.own s.mem.length))) (s.mem++[.acc τ (bd n.toNat d)]))
     else none
    |_=>none
   |_,_=>none
  |_,_,_=>none
 |.slice T x lo hi mx=>match PU C s ctx T x lo hi mx with
  |some (g,c)=>some (.ok g (.val (.one c)) s.mem)
  |none=>match Vq C s ctx x lo mx with
  |some b=>(match P.underlying T with
   |some (.slice e)=>(match CD P e with
    |some τ=>(match iW s.mem τ b with
     |some xs=>(match(match hi with|none=>some (xs.length:Int)|some a=>Fi s ctx a)with
      |some h=>some (.ok (decide (0<=h)&&decide (h<=(xs.length:Int))) (.val (.one (.own s.mem.length))) (s.mem.set b .gone++[.arr τ (xs.take h.toNat)]))
      |none=>none)
     |none=>none)
    |none=>none)
   |_=>none)
  |none=>match mx,P.underlying T,Bj s ctx x with
  |none,some (.slice e),some c=>match CD P e with
   |some τ=>match Do s.mem c with
    |(c',mem')=>match HU mem' τ c' with
     |some xs=>
      (match(match lo with|none=>some (0:Int)|some a=>Fi s ctx a),(match hi with|none=>some (xs.length:Int)|some a=>Fi s ctx a)with
       |some l,some h=>some (.ok (decide (0<=l)&&decide (l<=h)&&decide (h<=(xs.length:Int))) (.val (.one (.sl τ ((xs.take h.toNat).drop l.toNat)))) mem')
       |_,_=>none)
     |none=>none
   |none=>none
  |_,_,_=>none
 |.fieldAddr T x i=>match Bj s ctx x,gG P T i with
  |some (.ptr b off),some (d,_)=>match Ac s.mem b with
   |.raw _=>some (.ok true (.val (.one (.ptr b (off+d)))) s.mem)
   |_=>none
  |some (.eptr b j off),some (d,_)=>match Ac s.mem b with
   |.arr _ _=>some (.ok true (.val (.one (.eptr b j (off+d)))) s.mem)
   |_=>none
  |some (.iptr τ y off),some (d,_)=>some (.ok true (.val (.one (.iptr τ y (off+d)))) s.mem)
  |_,_=>none
 |.field T x i=>match EF s ctx x,gG P T i with
  |some (.agg cs),some (d,ft)=>match GZ P ft with
   |some true=>match H8 (P.cellsOf ft) (DD d cs)with
    |some l=>some (.ok true (.val (.agg l)) s.mem)
    |none=>none
   |some false=>match DD d cs with
    |c::_=>some (.ok true (.val (.one c)) s.mem)
    | []=>none
   |none=>none
  |_,_=>none
 |.indexAddr T x ix=>match P.underlying T,Bj s ctx x,Fi s ctx ix with
  |some (.array n e),some (.gptr g),some i=>match C.glob g,CD P e with
   |some ⟨τ,xs⟩,some τ'=>if τ'=τ then
     bif Nat.beq xs.length n then some (.ok (aEU n (decide (0<=i)&&decide (i<(n:Int)))) (.val (.one (.iptr τ (xs.getD i.toNat τ.dflt) 0))) s.mem)else none
    else none
   |_,_=>none
  |some (.array n e),some (.ptr b 0),some i=>match Ac s.mem b,CD P e with
   |.arr τ xs,some τ'=>if τ'=τ then
     some (.ok (decide (0<=i)&&decide (i<(n:Int))&&decide (i<(xs.length:Int))) (.val (.one (.eptr b i.toNat 0))) s.mem)
    else none
   |_,_=>none
  |some (.slice e),some c,some i=>match CD P e with
   |some τ=>match c with
    |.own b=>match Ac s.mem b with
     |.arr τ' xs=>if τ'=τ then
       some (.ok (decide (0<=i)&&decide (i<(xs.length:Int))) (.val (.one (.eptr b i.toNat 0))) s.mem)
      else none
     |.acc τ' xs=>if τ'=τ then
       some (.ok (decide (0<=i)&&decide (i<(xs.length:Int))) (.val (.one (.iptr τ' (xs.getD i.toNat τ'.dflt) 0))) (s.mem.set b (.froz τ' xs)))
      else none
     |.froz τ' xs=>if τ'=τ then
       some (.ok (decide (0<=i)&&decide (i<(xs.length:Int))) (.val (.one (.iptr τ' (xs.getD i.toNat τ'.dflt) 0))) s.mem)
      else none
     |_=>none
    |.sl τ' xs=>if τ'=τ then
      some (.ok (decide (0<=i)&&decide (i<(xs.length:Int))) (.val (.one (.iptr τ' (xs.getD i.toNat τ'.dflt) 0))) s.mem)
     else none
    |.sub b lo n=>match Ac s.mem b with
     |.arr τ' _=>if τ'=τ then
       some (.ok (decide (0<=i)&&decide (i<(n:Int))) (.val (.one (.eptr b (lo+i.toNat) 0))) s.mem)
      else none
     |_=>none
    |_=>none
   |none=>none
  |_,_,_=>none
 |.index T x ix=>match P.underlying T,Bj s ctx x,Fi s ctx ix with
  |some .string,some (.v (.string str)),some i=>
   some (.ok (decide (0<=i)&&decide (i<(str.size:Int))) (.val (.one (.v (.int .u8 ((str.data.toList.getD i.toNat 0).toNat:Int))))) s.mem)
  |some (.array n e),_,some i=>(match EF s ctx x,CD P e,GZ P e with
   |some (.agg cs),some τ,some false=>(match JQ τ n cs with
    |some xs=>(match cellsOf τ (xs.getD i.toNat τ.dflt)with
     | [c]=>some (.ok (decide (0<=i)&&decide (i<(n:Int))) (.val (.one c)) s.mem)
     |_=>none)
    |none=>none)
   |_,_,_=>none)
  |_,_,_=>none
 |.extract x i=>match ev s ctx x with
  |some (.tup l)=>match l[i]? with
   |some v=>some (.ok true (.val v) s.mem)
   |none=>none
  |some (.nxt c j r)=>match i with
   |0=>some (.ok true (.val (.one (.v (.bool c)))) s.mem)
   |1=>some (.ok c (.val (.one (.v (.int .i64 j)))) s.mem)
   |2=>some (.ok c (.val (.one (.v (.int .i32 r)))) s.mem)
   |_=>none
  |_=>none
 |.range T x=>match P.underlying T,Bj s ctx x with
  |some .string,some (.v (.string str))=>some (.ok true (.val (.one (.ptr s.mem.length 0))) (s.mem++[.itr str 0]))
  |_,_=>none
 |.next x st=>match st,Bj s ctx x with
  |true,some (.ptr b 0)=>match Ac s.mem b with
   |.itr str pos=>some (.ok true (.nxt (Nat.blt pos str.size) (pos:Int) ((Utf8.decode str pos).1:Int)) (s.mem.set b (.itr str (bif Nat.blt pos str.size then pos+(Utf8.decode str pos).2 else pos))))
   |_=>none
  |_,_=>none
 |.makeFunc fn first captured=>match fn,first.toList,captured.toList with
  |.func f,[],caps=>match Ei s ctx caps with
   |some vs=>match Em s.mem vs with
    |some cl=>some (.ok true (.val (.one (.fn f cl))) s.mem)
    |none=>none
   |none=>none
  |_,_,_=>none
 |.makeInterface T x=>match EF s ctx x,P.underlying T with
  |some (.agg cs),some (.struct _)=>match iF cs with
   |some ns=>some (.ok true (.val (.one (.ifv (some (T,ns))))) s.mem)
   |none=>none
  |_,_=>none
 |.call c=>match c.callee with
  |.builtin .len=>match c.args.toList,c.argTypes.toList with
   | [x],[T]=>match P.underlying T with
    |some (.array n _)=>bif Nat.blt n 9223372036854775808 then some (.ok true (.val (.one (.v (.int .i64 (n:Int))))) s.mem)else none
    |some (.slice _)=>match Bj s ctx x with
     |some a=>match a with
      |.v (.string _)=>none
      |.sub b _ n=>(match Ac s.mem b with
       |.arr _ _=>some (.ok true (.val (.one (.v (.int .i64 (n:Int))))) s.mem)
       |_=>none)
      |a=>match lenOf s.mem a with
       |some n=>some (.ok true (.val (.one (.v (.int .i64 (n:Int))))) s.mem)
       |none=>none
     |none=>none
    |some .string=>match Bj s ctx x with
     |some (.v (.string str))=>some (.ok true (.val (.one (.v (.int .i64 (str.size:Int))))) s.mem)
     |_=>none
    |_=>none
   |_,_=>none
  |.builtin .min=>match c.args.toList with
   | [x,y]=>match Bj s ctx x,Bj s ctx y with
    |some (.v (.int k a)),some (.v (.int k' b))=>if k'=k then some (.ok true (.val (.one (.v (.int k (if b<a then b else a))))) s.mem)else none
    |_,_=>none
   |_=>none
  |.builtin .max=>match c.args.toList with
   | [x,y]=>match Bj s ctx x,Bj s ctx y with
    |some (.v (.int k a)),some (.v (.int k' b))=>if k'=k then some (.ok true (.val (.one (.v (.int k (if b>a then b else a))))) s.mem)else none
    |_,_=>none
   |_=>none
  |.builtin .complex=>match c.args.toList with
   | [x,y]=>match Bj s ctx x,Bj s ctx y with
    |some (.fl k a),some (.fl k' b)=>if k'=k then some (.ok true (.val (.one (.cx k a b))) s.mem)else none
    |_,_=>none
   |_=>none
  |.builtin .real=>match c.args.toList with
   | [x]=>match Bj s ctx x with
    |some (.cx k a _)=>some (.ok true (.val (.one (.fl k a))) s.mem)
    |_=>none
   |_=>none
  |.builtin .imag=>match c.args.toList with
   | [x]=>match Bj s ctx x with
    |some (.cx k _ b)=>some (.ok true (.val (.one (.fl k b))) s.mem)
    |_=>none
   |_=>none
  |.builtin .append=>match c.argTypes.toList with
   |T::_=>bif HT C T then Yg C s ctx c else Yf C s ctx c
   | []=>none
  |.builtin .copy=>match c.args.toList,c.argTypes.toList with
   | [x,y],T::_=>match P.underlying T,Bj s ctx x,Bj s ctx y with
    |some (.slice e),some (.own b),some yc=>match CD P e with
     |some τ=>match Do s.mem yc with
      |(yc',mem')=>match HU mem' τ yc',Ac mem' b with
       |some ys,.arr τ' xs=>match CX τ' τ xs with
        |some xs'=>some (.ok true (.val (.one (.v (.int .i64 ((min ys.length xs'.length:Nat):Int))))) (mem'.set b (.arr τ (ys.take xs'.length++xs'.drop ys.length))))
        |none=>none
       |_,_=>none
     |none=>none
    |some (.slice e),some (.sub b lo n),some yc=>match CD P e with
     |some τ=>match Do s.mem yc with
      |(yc',mem')=>match HU mem' τ yc',Ac mem' b with
       |some ys,.arr τ' xs=>match CX τ' τ xs with
        |some xs'=>some (.ok true (.val (.one (.v (.int .i64 ((min ys.length n:Nat):Int))))) (mem'.set b (.arr τ (xs'.take lo++ys.take n++xs'.drop (lo+min ys.length n)))))
        |none=>none
       |_,_=>none
     |none=>none
    |_,_,_=>none
   |_,_=>none
  |.value fo=>match Bj s ctx fo,Ei s ctx c.args.toList with
   |some (.fn f caps),some args=>
    (match(match caps,o.guard with | [],none=>C.lsum f s.mem args|_,_=>none)with
     |some L=>(match args with
      |z::rest=>(match BK (LY s.mem L.lend z) L.ins rest with
       |(rest',m1)=>(match CQ m1 L.ins rest' with
        |some (x,m2)=>(match WD m2 L.lend z with
         |some (b,xl,m3)=>(match Cg (We m3 b L.lend (L.F (xl,x)).1) L.outs (L.F (xl,x)).2 with
          |some (vs,m4)=>some (.ok (L.pre (xl,x)) (L6 vs) m4)
          |none=>none)
         |none=>none)
        |none=>none))
      | []=>none)
     |none=>match(match caps with | []=>C.sum f s.mem args|_=>none)with
     |some S=>(match Ey C.bor s.mem S args with
      |some (g,x,m)=>some (.ok g x m)
      |none=>none)
     |none=>bif fG s.mem caps then some (.inl f (args++caps.map fun p=>.one (.ptr p.1 p.2)))else none)
   |some (.fnv v),some args=>(match U7 s.mem o.type args C.fns with
    |some S=>(match EE s.mem (S.at v) args with
     |some (g,x,m)=>some (.ok g x m)
     |none=>none)
    |none=>none)
   |_,_=>none
  |.invoke q m=>match Bj s ctx q,Ei s ctx c.args.toList with
   |some (.ifv d),some args=>(match U8 s.mem m args C.meths with
    |some S=>(match EE s.mem (S.at d) args with
     |some (g,x,m)=>some (.ok g x m)
     |none=>none)
    |none=>none)
   |_,_=>none
  |_=>none
 |_=>none
def Gb:Op->Bool
 |.alloc _|.box _ _|.store _ _ _|.makeSlice _ _ _=>false
 |.call c=>match c.callee with
  |.builtin .append|.builtin .copy=>false
  |_=>true
 |.range _ _|.next _ _=>false
 |_=>true
def Gf(d:Nat):List (Nat×Nat×Bool×TV)->Bool
 | []=>true
 |(e,g,_,_)::r=>!(Nat.beq e d)&&!(Nat.beq g d)&&Gf d r
def Vf(s:St)(o:Oper)(x:TV)(mem:Ae):Option St:=
 match o.dst with
 |none=>some {s with mem:=mem}
 |some d=>bif Gf d s.cs&&Nat.blt d s.n then some {s with tm:=(d,x)::s.tm,mem:=mem}else none
def Z7(o:Oper)(x:TV)(s:St)(mem:Ae):St×Ae:=
 match o.op with
 |.call c=>match c.callee with
  |.builtin .append=>match x with
   |.val (.one (.own b))=>(match Ac mem b with
    |.acc _ _=>({s with tm:=s.tm.map fun p=>(p.1,Wo b p.2),cs:=s.cs.map fun p=>(p.1,p.2.1,p.2.2.1,Wo b p.2.2.2)},mem.map (D6 b))
    |_=>(s,mem))
   |_=>(s,mem)
  |_=>(s,mem)
 |_=>(s,mem)
def Fh(ops:List Oper)(gi:Nat):Option Nat:=
 match ops[gi]? with
 |some o=>o.dst
 |none=>none
def Dt(op:Op)(mem mem':Ae):Bool:=
 match op with
 |.call c=>match c.callee with
  |.builtin _=>true
  |_=>Nat.beq mem'.length mem.length
 |.slice _ _ _ _ _|.buildSlice _ _ _=>Nat.beq mem'.length mem.length
 |_=>true
def iJ(op:Op)(mem mem':Ae):Bool:=
 match op with
 |.call c=>match c.callee with
  |.value _=>Nat.beq mem'.length (mem.length+1)
  |_=>false
 |.buildSlice _ _ _=>Nat.beq mem'.length (mem.length+1)
 |_=>false
inductive Step where
 |ok (g:Bool) (s:St)
 |inl (f:FuncId) (args:List SV)
 /-- under a guard: does it hold; the slots,the guard's wish -/
 |gin (c:Bool) (t d:Nat) (p:Bool) (f:FuncId) (args:List SV)
def step(C:Cfg)(ops:List Oper)(o:Oper)(s:St):Option Step:=
 match o.guard with
 |none=>match At C s [] o with
  |some (.ok g x mem)=>match Z7 o x s mem with
   |(s',mem')=>match Vf s' o x mem' with
    |some s''=>some (.ok g s'')
    |none=>none
  |some (.inl f args)=>some (.inl f args)
  |none=>none
 |some (gi,p)=>match Fh ops gi,o.dst with
  |some t,some d=>bif Gb o.op&&Gf d s.cs&&!(Nat.beq d t)&&Nat.blt d s.n then
    (match Po s.tm s.cs t p,At C s (Ff s.cs t p) o with
     |some c,some (.ok g x mem)=>bif Dt o.op s.mem mem then some (.ok (g||!c) {s with tm:=(d,.un)::s.tm,cs:=(d,t,p,x)::s.cs,mem:=mem})else none
     |some c,some (.inl f args)=>some (.gin c t d p f args)
     |_,_=>none)
   else none
  |_,_=>none
def Cb(o:Oper):List Nat:=(o.after.toList.filter fun e=>Region.binds .any e).map (·.on)
def G0:List (List Nat)->List Oper->List (List Nat)
 |acc,[]=>acc
 |acc,o::r=>G0 (acc++[(Cb o).flatMap fun i=>i::(acc[i]?).getD []]) r
def aE9:List Operand->List Nat
 | []=>[]
 |.tmp t::r=>t::aE9 r
 |_::r=>aE9 r
def uI(ops:List Oper):Nat->Option (Nat×Bool)->List Nat
 |0,_=>[]
 |_+1,none=>[]
 |k+1,some (g,_)=>match ops[g]? with
  |some o=>match o.dst with
   |some t=>t::uI ops k o.guard
   |none=>uI ops k o.guard
  |none=>[]
def looks(ops:List Oper)(o:Oper):List Nat:=uI ops 12 o.guard++aE9 o.op.operands.toList
def Bx:Op->Nat
 |.move _|.assign _|.pick _ _ _|.binOp _ _ _ _ _|.unOp _ _ _|.convert _ _ _|.extract _ _|.build _ _|.field _ _ _|.makeInterface _ _=>0
 |.load _ _|.nilCheck _|.makeFunc _ _ _|.fieldAddr _ _ _|.buildSlice _ _ _|.indexAddr _ _ _|.index _ _ _|.slice _ _ _ _ _=>1
 |.store _ _ _|.alloc _|.box _ _=>2
 |.call c=>match c.callee with
  |.value _|.invoke _ _=>1
  |.builtin .len|.builtin .min|.builtin .max|.builtin .complex|.builtin .real|.builtin .imag=>1
  |_=>3
 |_=>3
inductive FP where
 |pure
 |rd (o:Option Nat)
 |wr (o:Option Nat)
 |mk (b:Nat)
def De:FP->FP->Bool
 |.pure,_=>true
 |_,.pure=>true
 |.rd _,.rd _=>true
 |.rd (some b),.wr (some c)=>!(Nat.beq b c)
 |.wr (some b),.rd (some c)=>!(Nat.beq b c)
 |.wr (some b),.wr (some c)=>!(Nat.beq b c)
 |.rd (some b),.mk c=>!(Nat.beq b c)
 |.mk b,.rd (some c)=>!(Nat.beq b c)
 |.wr (some b),.mk c=>!(Nat.beq b c)
 |.mk b,.wr (some c)=>!(Nat.beq b c)
 |_,_=>false
def H0(n:Nat):List Nat->Bool
 | []=>false
 |m::r=>Nat.beq m n||H0 n r
def Pr(o:Oper)(l:List Nat):Bool:=
 match o.dst with
 |some d=>H0 d l
 |none=>false
def t0(x y:Oper):Bool:=
 match x.dst,y.dst with
 |some d,some e=>Nat.beq d e
 |_,_=>false
def aEu(ops:List Oper)(fps:List FP)(A:List (List Nat))(i j:Nat)(x y:Oper):Bool:=!(t0 x y)&&(H0 i ((A[j]?).getD [])||(!(Pr x (looks ops y))&&!(Pr y (looks ops x))&&De ((fps[i]?).getD (.wr none)) ((fps[j]?).getD (.wr none))))
def ZS(ops:List Oper)(fps:List FP)(A:List (List Nat))(j:Nat)(y:Oper):Nat->List Oper->Bool
 |_,[]=>true
 |i,x::r=>(bif Nat.blt i j then aEu ops fps A i j x y&&ZS ops fps A j y (i+1) r else true)
def Ye(j:Nat):List Nat->Bool
 | []=>true
 |i::r=>Nat.blt i j&&Ye j r
def u9(ops:List Oper)(fps:List FP)(A:List (List Nat)):Nat->List Oper->Bool
 |_,[]=>true
 |j,y::r=>Ye j (Cb y)&&Nat.blt (Bx y.op) 3&&!(Pr y (looks ops y))&&ZS ops fps A j y 0 ops&&(match y.guard with|some (g,_)=>Nat.blt g j|none=>true)&&u9 ops fps A (j+1) r
def ZR(ops:List Oper)(fps:List FP):Bool:=u9 ops fps (G0 [] ops) 0 ops
def Cf(ops:List Oper)(o:Oper)(s:St):St:=
 {s with tm:=(looks ops o).map fun t=>(t,Bt s.tm t),cs:=s.cs.filter fun e=>H0 e.1 (looks ops o)}
def EI:SC->Bool
 |.own _=>false
 |.sub _ _ _=>false
 |.ptr _ _=>false
 |.fn _ (_::_)=>false
 |_=>true
def AL:List SC->Bool
 | []=>true
 |c::r=>EI c&&AL r
def aEr:TV->Bool
 |.un=>true
 |.val x=>AL x.cells
 |.tup l=>l.all fun x=>AL x.cells
 |.nxt _ _ _=>true
def DF(s:St)(ctx:List (Nat×Bool)):List Operand->Bool
 | []=>true
 |x::r=>(match ev s ctx x with|some v=>aEr v|none=>true)&&DF s ctx r
def DC(s:St)(ctx:List (Nat×Bool))(op:Op):Bool:=
 match op with
 |.indexAddr _ x _=>match Bj s ctx x with
  |some (.own b)=>match Ac s.mem b with
   |.acc _ _=>false
   |_=>true
  |_=>true
 |.buildSlice _ _ _=>DF s ctx op.operands.toList
 |.slice _ x _ _ _=>DF s ctx [x]
 |.call c=>match c.callee with
  |.builtin _=>true
  |_=>DF s ctx op.operands.toList
 |_=>true
def aMp:SC->Option Nat
 |.ptr b _=>some b
 |.eptr b _ _=>some b
 |.own b=>some b
 |.sub b _ _=>some b
 |_=>none
def PA(s:St)(ctx:List (Nat×Bool))(x:Operand):FP:=
 match Bj s ctx x with
 |some c=>match aMp c with
  |some b=>.rd (some b)
  |none=>.pure
 |none=>.pure
def EH(s:St)(ctx:List (Nat×Bool))(op:Op):FP:=
 match op with
 |.load _ x=>PA s ctx x
 |.nilCheck x=>PA s ctx x
 |.fieldAddr _ x _=>PA s ctx x
 |.indexAddr _ x _=>PA s ctx x
 |.index _ _ _=>.pure
 |.buildSlice _ _ _=>.pure
 |.makeFunc _ _ _=>.rd none
 |.store _ x y=>match Bj s ctx x,EF s ctx y with
  |some (.ptr b _),_=>.wr (some b)
  |some (.eptr b _ _),some v=>bif AL v.cells then .wr (some b)else .wr none
  |_,_=>.wr none
 |.alloc _=>.mk s.mem.length
 |.box _ _=>.mk s.mem.length
 |.call c=>match c.callee with
  |.value _=>.pure
  |.builtin .len=>match c.args.toList with
   | [x]=>PA s ctx x
   |_=>.pure
  |_=>.pure
 |_=>.pure
def iQ(C:Cfg)(s:St)(ctx:List (Nat×Bool))(op:Op):Option Nat:=
 match op with
 |.call c=>match c.callee with
  |.value fo=>match Bj s ctx fo,Ei s ctx c.args.toList with
   |some (.fn f []),some (.one (.own b)::r)=>(match C.lsum f s.mem (.one (.own b)::r),C.sum f s.mem (.one (.own b)::r)with
    |none,some S=>(match S.ins with
     |(true,.slice _)::_=>bif r.all (fun z=>AL z.cells)then some b else none
     |_=>none)
    |_,_=>none)
   |_,_=>none
  |_=>none
 |_=>none
def iG(C:Cfg)(s:St)(ctx:List (Nat×Bool))(op:Op):Option Nat:=
 match op with
 |.call c=>match c.callee with
  |.value fo=>match Bj s ctx fo,Ei s ctx c.args.toList with
   |some (.fn f []),some (.one (.ptr b 0)::r)=>(match Ac s.mem b with
    |.raw cs=>bif AL cs&&r.all (fun z=>AL z.cells)then(match C.lsum f s.mem (.one (.ptr b 0)::r)with
     |some L=>(match L.lend with
      |.ref _=>some b
      |.win _=>none)
     |none=>none)else none
    |_=>none)
   |_,_=>none
  |_=>none
 |_=>none
def Yi(C:Cfg)(s:St)(ctx:List (Nat×Bool))(op:Op):Bool:=
 match op with
 |.call c=>(match c.callee with
  |.value fo=>(match Bj s ctx fo,Ei s ctx c.args.toList with
   |some (.fn f []),some args=>(match C.lsum f s.mem args,C.sum f s.mem args with
    |none,some S=>C.bor&&(Fw s.mem S args).isSome
    |_,_=>false)
   |_,_=>false)
  |_=>false)
 |_=>false
def Wq(C:Cfg)(ops:List Oper)(o:Oper)(s0:St):Option (FP×Bool×TV×Ae):=
 let s:=Cf ops o s0
 match o.guard with
 |none=>bif DC s [] o.op||Nat.beq (Bx o.op) 2 then
   (match At C s [] o with
    |some (.ok g x mem)=>bif Dt o.op s.mem mem then some (EH s [] o.op,g,x,mem)else(bif iJ o.op s.mem mem then some (.mk s.mem.length,g,x,mem)else none)
    |_=>none)
  else bif Yi C s [] o.op then(match At C s [] o with
   |some (.ok g x mem)=>some (.rd none,g,x,mem)
   |_=>none)
  else(match iQ C s [] o.op with
   |some b=>(match At C s [] o with
    |some (.ok g x mem)=>bif Nat.beq mem.length s.mem.length then some (.wr (some b),g,x,mem)else none
    |_=>none)
   |none=>(match iG C s [] o.op with
    |some b=>(match At C s [] o with
     |some (.ok g x mem)=>bif Nat.beq mem.length s.mem.length then some (.wr (some b),g,x,mem)else none
     |_=>none)
    |none=>(match At C s [] o with
     |some (.ok g x mem)=>some (.wr none,g,x,mem)
     |_=>none)))
 |some (gi,p)=>match Fh ops gi,o.dst with
  |some t,some d=>bif Gb o.op&&!(Nat.beq d t)&&DC s (Ff s.cs t p) o.op then
    (match Po s.tm s.cs t p,At C s (Ff s.cs t p) o with
     |some c,some (.ok g x mem)=>bif Dt o.op s.mem mem then some (EH s (Ff s.cs t p) o.op,g||!c,x,mem)else none
     |_,_=>none)
   else bif Gb o.op&&!(Nat.beq d t)&&Yi C s (Ff s.cs t p) o.op then
    (match Po s.tm s.cs t p,At C s (Ff s.cs t p) o with
     |some c,some (.ok g x mem)=>some (.rd none,g||!c,x,mem)
     |_,_=>none)
   else none
  |_,_=>none
def JC(ops:List Oper)(o:Oper)(s:St)(x:TV)(mem:Ae):St:=
 match o.dst with
 |none=>{s with mem:=mem}
 |some d=>match o.guard with
  |none=>{s with tm:=(d,x)::s.tm,mem:=mem}
  |some (gi,p)=>match Fh ops gi with
   |some t=>{s with tm:=(d,.un)::s.tm,cs:=(d,t,p,x)::s.cs,mem:=mem}
   |none=>{s with mem:=mem}
def U4(C:Cfg)(ops:List Oper):List Oper->St->Option (List FP×List Bool×St)
 | [],s=>some ([],[],s)
 |o::r,s=>match Wq C ops o s with
  |some (fp,g,x,mem)=>bif(match o.dst with|some d=>Nat.blt d s.n|none=>true)then
    (match U4 C ops r (JC ops o s x mem)with
     |some (fps,gs,s'')=>some (fp::fps,g::gs,s'')
     |none=>none)
   else none
  |none=>none
def Ai{α:Type}:List Bool->Option α->Option α
 | [],x=>x
 |g::gs,x=>bif g then Ai gs x else none
def JI(mem:Ae):SC->SC
 |.own b=>match Ac mem b with
  |.acc _ _=>.undef
  |_=>.own b
 |c=>c
def aNL(mem:Ae):SV->SV
 |.one c=>.one (JI mem c)
 |.agg cs=>.agg (cs.map (JI mem))
def Wm(mem:Ae):TV->TV
 |.un=>.un
 |.val x=>.val (aNL mem x)
 |.tup l=>.tup (l.map (aNL mem))
 |.nxt c i r=>.nxt c i r
def gC(s:St):St:=
 {s with tm:=s.tm.map (fun p=>(p.1,Wm s.mem p.2)),cs:=s.cs.map fun p=>(p.1,p.2.1,p.2.2.1,Wm s.mem p.2.2.2)}
def ZZ(s:St)(d t:Nat)(p:Bool)(x:TV)(mem:Ae):St:={s with tm:=(d,.un)::s.tm,cs:=(d,t,p,x)::s.cs,mem:=mem}
def bJb(P:Program)(T:TypeId):TV:=match Gj P T with
 |some z=>.val z
 |none=>.un
section Dn
variable {R:Type}
def aOA(C:Cfg)(o:Oper)(s:St)(ctx:List (Nat×Bool)):Option (Bool×TV×Ae):=
 match o.op with
 |.call c=>(match c.callee with
  |.value _=>(match At C s ctx {o with guard:=none}with
   |some (.ok g x mem)=>some (g,x,mem)
   |_=>none)
  |_=>none)
 |_=>none
def L5(C:Cfg)(inl:FuncId->List SV->Ae->(List SV->Ae->Option R)->Option R)(ops:List Oper):List Oper->St->(St->Option R)->Option R
 | [],s,k=>k s
 |o::r,s,k=>match step C ops o s with
  |some (.ok g s')=>bif g then L5 C inl ops r s' k else none
  |some (.inl f args)=>match o.guard with
   |none=>inl f args s.mem fun rs mem=>match Vf (gC s) o (L6 rs) mem with
    |some s'=>L5 C inl ops r s' k
    |none=>none
   |some _=>none
  |some (.gin c t d p f args)=>bif c then(match aOA C o s (Ff s.cs t p)with
   |some (g,x,mem)=>bif g then L5 C inl ops r (ZZ s d t p x mem) k else none
   |none=>inl f args s.mem (fun rs mem=>L5 C inl ops r (ZZ (gC s) d t p (L6 rs) mem) k))else L5 C inl ops r (ZZ s d t p (bJb C.P o.type) s.mem) k
  |none=>none
def Ga(s:St):Operand->St
 |.tmp t=>match Bt s.tm t with
  |.val (.one (.own b))=>(match Do s.mem (.own b)with
   |(c,m)=>{s with tm:=(t,.val (.one c))::s.tm,mem:=m})
  |_=>s
 |_=>s
def Lz:List (Nat×Shape)->St->St
 | [],s=>s
 |(t,τ)::r,s=>match τ with
  |.unit=>Lz r (Ga s (.tmp t))
  |_=>match Bt s.tm t with
   |.val (.one (.v (.slice none 0 0)))=>Lz r {s with tm:=(t,.val (.one (.own s.mem.length)))::s.tm,mem:=s.mem++[.acc τ []] }
   |_=>Lz r s
def aDF:List (Nat×Pat)->Nat->Option Pat
 | [],_=>none
 |(i,p)::r,k=>bif Nat.beq i k then some p else aDF r k
def ZT(l:List (Nat×Pat))(ke:Nat->St->Option R)(id:Nat)(s:St)(m:Nat:=0):Option R:=
 match aDF l id with
 |some p=>match H5 p s m with
  |some y=>ke id (Pj p y m)
  |none=>none
 |none=>none
def vB(o:Option Pat)(kr:St->Option R)(s:St)(m:Nat:=0):Option R:=
 match o with
 |some p=>match H5 p s m with
  |some y=>kr (Pj p y m)
  |none=>none
 |none=>none
def C3{α β:Type}(φ:(α->Option β)->α->Option β):Nat->α->Option β
 |0,_=>none
 |n+1,x=>φ (C3 φ n) x
def CS:Code->List Code
 |.seq a b=>CS a++CS b
 |.cond _ a b=>CS a++CS b
 |.block _ a=>CS a
 |.loop a=>a::CS a
 |_=>[]
def Dq:Code->Nat
 |.region id _ _=>id
 |.seq a _=>Dq a
 |.cond _ a _=>Dq a
 |.block _ a=>Dq a
 |.loop a=>Dq a
 |_=>0
def aDX:List Oper->Nat
 | []=>0
 |o::r=>bif Nat.blt (Bx o.op) 3 then aDX r+1 else 0
def iL(o:Oper):Bool:=match o.guard with
 |none=>true
 |some _=>false
def sU(l:List Nat):Nat->Bool
 |0=>true
 |n+1=>H0 n l&&sU l n
def zZ:Nat->List Oper->Bool
 |_,[]=>true
 |i,o::r=>iL o&&H0 i (Cb o)&&Ye (i+1) (Cb o)&&zZ (i+1) r
def PW(H:List Oper)(n:Nat):List Oper->Bool
 | []=>true
 |o::r=>iL o&&sU ((Cb o).flatMap fun i=>i::((G0 [] H)[i]?).getD []) n&&Ye n (Cb o)&&zZ n r
def Ha(f:Bool)(s:St)(o:Oper):St:=
 match o.op with
 |.call c=>(match c.callee with
  |.value _=>c.args.toList.foldl Ga s
  |_=>s)
 |.move x=>bif f then Ga s x else s
 |.slice _ x _ _ _=>bif f then Ga s x else s
 |_=>s
def aEb:Nat->List Oper->Nat->Nat
 |_,[],k=>k
 |i,o::r,k=>aEb (i+1) r (match o.op with
  |.call c=>(match c.callee with
   |.value _=>i
   |_=>k)
  |_=>k)
def aOG:List Oper->Nat
 | []=>0
 |o::r=>bif Nat.blt (Bx o.op) 3&&(match o.op with|.slice _ _ _ _ _=>false|_=>true)then aOG r+1 else 0
def aZ2(C:Cfg)(ops:List Oper)(s:St)(n:Nat)(f:Bool):Bool:=
 match U4 C (ops.take n) (ops.take n) ((ops.take n).foldl (Ha f) {s with cs:=[] })with
 |some (fps,_,_)=>ZR (ops.take n) fps&&PW (ops.take n) n (ops.drop n)
 |none=>false
def aNI(C:Cfg)(ops:List Oper)(s:St):List (Nat×Bool)->Nat×Bool
 | []=>(0,false)
 |(n,f)::r=>bif Nat.ble n ops.length&&aZ2 C ops s n f then(n,f)else aNI C ops s r
def aNG(C:Cfg)(ops:List Oper)(s:St):Nat×Bool:=aNI C ops s [(aOG ops,false),(aDX ops,false),(aDX ops,true),(aEb 0 ops 0,false),(aEb 0 ops 0,true)]
def uM(o:Oper):Bool:=match o.op with
 |.alloc _=>iL o
 |_=>false
def fH:List Oper->Nat
 | []=>0
 |o::r=>bif uM o then 0 else fH r+1
def aCI:List Oper->Nat
 | []=>0
 |o::r=>bif uM o then aCI r+1 else 0
def F7:List Oper->List Nat
 | []=>[]
 |o::r=>match o.dst with
  |some d=>d::F7 r
  |none=>F7 r
def WK:List Nat->Bool
 | []=>true
 |d::r=>!(H0 d r)&&WK r
def sV:List Oper->Bool
 | []=>true
 |o::r=>uM o&&(match Cb o with | []=>true|_=>false)&&(match o.dst with|some _=>true|none=>false)&&sV r
def Yn(ds:List Nat)(s:St):St:={s with tm:=ds.map (fun d=>(d,.un))++s.tm}
def Wb(P:Program):List Oper->St->Option St
 | [],s=>some s
 |o::r,s=>match o.op,o.dst with
  |.alloc T,some d=>bif Nat.blt d s.n then
    (match Gj P T with
     |some z=>Wb P r {s with tm:=(d,.val (.one (.ptr s.mem.length 0)))::s.tm,mem:=s.mem++[.raw z.cells] }
     |none=>none)
   else none
  |_,_=>none
def tX(C:Cfg)(inl:FuncId->List SV->Ae->(List SV->Ae->Option R)->Option R)(ops:List Oper)(n k:Nat)(s:St)(kn:St->Option R):Option R:=
 bif Nat.blt 1 k&&Nat.ble (n+k) ops.length&&sV ((ops.drop n).take k)&&WK (F7 (ops.take (n+k)))then
  (match U4 C (ops.take n) (ops.take n) ((ops.take n).foldl (Ha false) (Yn (F7 ((ops.drop n).take k)) {s with cs:=[] }))with
   |some (fps,gs,s')=>bif ZR (ops.take n) fps&&PW (ops.take n) (n+k) (ops.drop (n+k))then
     Ai gs (match Wb C.P ((ops.drop n).take k) {s' with cs:=[] }with
      |some s2=>L5 C inl ops (ops.drop (n+k)) s2 fun s''=>kn {s'' with cs:=[] }
      |none=>none)else none
   |none=>none)
 else none
def Dn(C:Cfg)(inl:FuncId->List SV->Ae->(List SV->Ae->Option R)->Option R)(lp:Bool)(fid:FuncId):
  Code->St->(St->Option R)->(Nat->St->Option R)->(St->Option R)->Option R
 |.skip,s,kn,_,_=>kn s
 |.region _ ops false,s,kn,_,_=>L5 C inl ops.toList ops.toList {s with cs:=[] } fun s'=>kn {s' with cs:=[] }
 |.region _ ops true,s,kn,_,_=>match aNG C ops.toList s with
  |(n,f)=>match U4 C (ops.toList.take n) (ops.toList.take n) ((ops.toList.take n).foldl (Ha f) {s with cs:=[] })with
   |some (fps,gs,s')=>bif Nat.ble n ops.toList.length&&(ZR (ops.toList.take n) fps&&PW (ops.toList.take n) n (ops.toList.drop n))then
     Ai gs (L5 C inl ops.toList (ops.toList.drop n) {s' with cs:=[] } fun s''=>kn {s'' with cs:=[] })else tX C inl ops.toList (fH ops.toList) (aCI (ops.toList.drop (fH ops.toList))) s kn
   |none=>tX C inl ops.toList (fH ops.toList) (aCI (ops.toList.drop (fH ops.toList))) s kn
 |.seq a b,s,kn,ke,kr=>Dn C inl lp fid a s (fun s'=>Dn C inl lp fid b s' kn ke kr) ke kr
 |.cond c a b,s,kn,ke,kr=>match Bj s [] c with
  |some (.v (.bool t))=>bif t then Dn C inl lp fid a s kn ke kr else Dn C inl lp fid b s kn ke kr
  |_=>none
 |.block id a,s,kn,ke,kr=>Dn C inl lp fid a s kn (fun i s'=>bif Nat.beq i id then kn s' else ke i s') kr
 |.loop a,s,_,ke,kr=>match C.loop fid (Dq a)with
  |none=>C3 (fun L s'=>Dn C inl lp fid a {s' with cs:=[] } L ke kr) C.unroll s
  |some sp=>bif lp then
    (match H5 sp.pat (Lz sp.accs {s with cs:=[] }) sp.m0 with
     |some x=>sp.run x ke kr
     |none=>none)
   else none
 |.exit id,s,_,ke,_=>ke id s
 |.ret,s,_,_,kr=>kr s
 |_,_,_,_,_=>none
def Vg(P:Program)(s:St):List ResultVar->Option (List SV)
 | []=>some []
 |.tmp t::r=>match Bt s.tm t,Vg P s r with
  |.val x,some l=>some (x::l)
  |_,_=>none
 |.cell a T::r=>match Bt s.tm a,Vg P s r with
  |.val (.one c),some l=>match Pl s.mem c,GZ P T with
   |some (cs,off),some true=>match H8 (P.cellsOf T) (DD off cs)with
    |some x=>some (.agg x::l)
    |none=>none
   |some (cs,off),some false=>match DD off cs with
    |x::_=>some (.one x::l)
    | []=>none
   |_,_=>none
  |_,_=>none
def Yh:Nat->List SV->List (Nat×TV)
 |_,[]=>[]
 |n,x::r=>(n,.val x)::Yh (n+1) r
def CR(P:Program)(fn:Func)(k:List SV->Ae->Option R)(s:St):Option R:=
 match Vg P s fn.results.toList with
 |some rs=>k rs s.mem
 |none=>none
def fM(C:Cfg)(inl:FuncId->List SV->Ae->(List SV->Ae->Option R)->Option R)(lp:Bool)(f:FuncId)(fn:Func)(m0:Nat)(args:List SV)(mem:Ae)(k:List SV->Ae->Option R):Option R:=
 match fn.body with
 | some c => bif Nat.ble args.length fn.ntmps && !(fn.name == "runtime.NumGoroutine") then Dn C inl lp f c { n := fn.ntmps, m0 := m0, tm := Yh 0 args, mem := mem, cs := [] } (CR C.P fn k) (fun _ _ => none) (CR C.P fn k) else none
 |none=>none
def JN(C:Cfg):Nat->FuncId->List SV->Ae->(List SV->Ae->Option R)->Option R
 |0,_,_,_,_=>none
 |d+1,f,args,mem,k=>match C.P.funcs[f]? with
  |some fn=>bif Nat.beq (fn.params.size+fn.nfree) args.length then fM C (JN C d) (Nat.ble 2 d) f fn mem.length args mem k else none
  |none=>none
end Dn
def WB(C:Cfg)(d:Nat)(fid:FuncId)(body:Code)(sp:LoopSpec){R:Type}(ke:Nat->St->Option R)(kr:St->Option R)(L:sp.pat.D->Option R)(x:sp.pat.D):Option R:=
 Dn C (JN C d) true fid body (Pj sp.pat x sp.m0) (fun s'=>match H5 sp.pat (Lz sp.accs {s' with cs:=[] }) sp.m0 with
  |some y=>L y
  |none=>none) (fun id s=>ZT sp.exits ke id s sp.m0) (fun s=>vB sp.ret kr s sp.m0)
def run(C:Cfg)(d:Nat)(f:FuncId)(fn:Func)(S T:Aa)(x:DenS S):Option (DenS T):=
 match Cg [] S x with
 |some (args,m0)=>fM C (JN C d) (Nat.ble 2 d) f fn 0 args m0 fun rs mem=>match BK mem T rs with
  |(rs',m1)=>match CQ m1 T rs' with
   |some (y,_)=>some y
   |none=>none
 |none=>none
def gR:(k:LK)->k.D->SV×Ae
 |.win e,x=>(.one (.sub 0 x.2.1 x.2.2),[.arr e x.1])
 |.ref τ,x=>(.one (.ptr 0 0),[.raw (cellsOf τ x)])
def aDx(mem:Ae):(k:LK)->Option k.B
 |.win e=>match Ac mem 0 with
  |.arr τ xs=>CX τ e xs
  |_=>none
 |.ref τ=>match Ac mem 0 with
  |.raw cs=>(match Ci τ cs with
   |some (x,[])=>some x
   |_=>none)
  |_=>none
def DI(C:Cfg)(d:Nat)(f:FuncId)(fn:Func)(k:LK)(S T:Aa)(x:k.D×DenS S):Option (k.B×DenS T):=
 match gR k x.1 with
 |(z,m)=>match Cg m S x.2 with
  |some (args,m0)=>fM C (JN C d) (Nat.ble 2 d) f fn 1 (z::args) m0 fun rs mem=>match BK (LY mem k (.one (.ptr 0 0))) T rs with
   |(rs',m1)=>match CQ m1 T rs' with
    |some (y,m2)=>(match aDx m2 k with
     |some b=>some (b,y)
     |none=>none)
    |none=>none
  |none=>none
end Vx
namespace Vx
open Go Go.RowKit
theorem AK{α:Type}{c:Bool}{x:Option α}{y:α}(h:(bif c then x else none)=some y):c=true/\x=some y:=by
 cases c with
 |true=>exact⟨rfl,h⟩
 |false=>cases h
theorem Ej{α:Type}{c:Prop}[Decidable c]{x:Option α}{y:α}(h:(if c then x else none)=some y):x=some y:=by
 split at h
 ·exact h
 ·cases h
theorem BC{g g':Bool}{x x':TV}{m m':Ae}(h:some (Res.ok g x m)=some (Res.ok g' x' m')):m'=m:=by
 cases h;rfl
def BU:Nat:=9223372036854775808
def scalar:Value->Prop
 |.agg _=>False
 |.tuple _=>False
 |_=>True
def G8:FloatKind->Nat
 |.f32=>32
 |.f64=>64
def Hd(k:FloatKind)(o:Option Nat)(y:Value):Prop:=
 ∃b,y=.float k b/\b<2^G8 k/\(match o with
   |some b'=>b=b'
   |none=>(k.format.read b).isNaN=true)
def Pk:Nat->Value
 |0=>.bool false
 |1=>.bool true
 |n+2=>.func (.func n) #[] #[]
def AJ(w:World)(S:Nat->Prop):(τ:Shape)->Ab τ->List Value->Prop
 |.int k,n,cs=>cs=[.int k n]/\k.min<=n/\n<=k.max
 |.flt k,o,cs=>∃y,cs=[y]/\Hd k o y
 |.bool,b,cs=>cs=[.bool b]
 |.str,s,cs=>cs=[.string s]/\s.size<BU
 |.fn,o,cs=>match o with
  |none=>cs=[.nilFunc]
  |some (f,ns)=>∃ps:List Value,cs=[.func (.func f) #[] ps.toArray]/\ps.length=ns.length /\
    ∀(i n:Nat),ns[i]? = some n->∃(r:Nat) (vs:Array Value) (T:TypeId) (fz:Nat×Nat),ps[i]? = some (jp (some ⟨r,0,none⟩))/\S r/\w.heap[r]? = some (Obj.cells vs T fz)/\vs[0]? = some (Pk n)
 |.unit,_,cs=>cs=[]
 |.slice e,xs,cs=>∃A c,cs=[.slice A xs.length c]/\xs.length<=c/\c<BU /\
   (xs≠[]->∃r o vs T fz,A=some ⟨r,o,none⟩/\S r/\w.heap[r]? = some (.cells vs T fz) /\
    ∀i x,xs[i]? = some x->∃ds,AJ w S e x ds/\∀j d,ds[j]? = some d->vs[o+i*e.width+j]? = some d)
 |.pair a b,x,cs=>∃c1 c2,cs=c1++c2/\AJ w S a x.1 c1/\AJ w S b x.2 c2
 |.box a,x,cs=>∃r o vs T fz ds,cs=[.pointer (some ⟨r,o,none⟩)]/\S r/\w.heap[r]? = some (.cells vs T fz)/\AJ w S a x ds/\∀j d,ds[j]? = some d->vs[o+j]? = some d
 |.ifc,d,cs=>match d with
  |none=>cs=[.nilIface]
  |some (T,ns)=>cs=[.iface T (.agg (ns.map (Value.int .i64)).toArray)]/\∀n∈ns,IntKind.i64.min<=n/\n<=IntKind.i64.max
 |.pfn,n,cs=>cs=[.func (.func n) #[] #[]]
 |.cx k,x,cs=>∃p q,cs=[.complex k p q]/\Hd k x.1 (.float k p)/\Hd k x.2 (.float k q)
theorem AJ.len{w:World}{S:Nat->Prop}:∀{τ:Shape} {x:Ab τ} {cs:List Value},AJ w S τ x cs->cs.length=τ.width
 |.int _,_,_,h=>by rw[h.1];rfl
 |.flt _,_,_,⟨_,h,_⟩=>by rw[h];rfl
 |.bool,_,_,h=>by rw[show _=_ from h];rfl
 |.str,_,_,h=>by rw[h.1];rfl
 |.fn,none,_,h=>by rw[show _=_ from h];rfl
 |.fn,some _,_,⟨_,h,_⟩=>by rw[h];rfl
 |.unit,_,_,h=>by rw[show _=_ from h];rfl
 |.slice _,_,_,⟨A,c,h,_⟩=>by rw[h];rfl
 |.pair a b,_,_,⟨c1,c2,h,h1,h2⟩=>by rw[h,fc,h1.len,h2.len];rfl
 |.box _,_,_,⟨_,_,_,_,_,_,h,_⟩=>by rw[h];rfl
 |.ifc,none,_,h=>by rw[show _=_ from h];rfl
 |.ifc,some _,_,⟨h,_⟩=>by rw[h];rfl
 |.pfn,_,_,h=>by rw[show _=_ from h];rfl
 |.cx _,_,_,⟨_,_,h,_⟩=>by rw[h];rfl
theorem AJ.mono{w w':World}{S S':Nat->Prop}(hS:∀r,S r->S' r)(hH:∀r,S r->w'.heap[r]? = w.heap[r]?):
  ∀{τ:Shape} {x:Ab τ} {cs:List Value},AJ w S τ x cs->AJ w' S' τ x cs
 |.int _,_,_,h=>h
 |.flt _,_,_,h=>h
 |.bool,_,_,h=>h
 |.str,_,_,h=>h
 |.fn,none,_,h=>h
 |.fn,some _,_,⟨ps,h,h1,h2⟩=>⟨ps,h,h1,fun i n hi=>by
   obtain⟨r,vs,T,fz,e1,e2,e3,e4⟩:=h2 i n hi
   exact⟨r,vs,T,fz,e1,hS r e2,(hH r e2).trans e3,e4⟩⟩
 |.unit,_,_,h=>h
 |.box _,_,_,⟨r,o,vs,T,fz,ds,h,h1,h2,h3,h4⟩=>⟨r,o,vs,T,fz,ds,h,hS r h1,(hH r h1).trans h2,h3.mono hS hH,h4⟩
 |.ifc,none,_,h=>h
 |.ifc,some _,_,h=>h
 |.pfn,_,_,h=>h
 |.cx _,_,_,h=>h
 |.slice _,_,_,⟨A,c,h,h1,h2,h3⟩=>⟨A,c,h,h1,h2,fun hx=>by
   obtain⟨r,o,vs,T,fz,e1,e2,e3,e4⟩:=h3 hx
   refine⟨r,o,vs,T,fz,e1,hS r e2,(hH r e2).trans e3,fun i x hi=>?_⟩
   obtain⟨ds,d1,d2⟩:=e4 i x hi
   exact⟨ds,d1.mono hS hH,d2⟩⟩
 |.pair _ _,_,_,⟨c1,c2,h,h1,h2⟩=>⟨c1,c2,h,h1.mono hS hH,h2.mono hS hH⟩
theorem AJ.scalar{w:World}{S:Nat->Prop}:∀{τ:Shape} {x:Ab τ} {cs:List Value},AJ w S τ x cs->∀v∈cs,scalar v
 |.int _,_,_,h=>by rw[h.1];simp[Vx.scalar]
 |.flt _,_,_,⟨_,h,b,h1,_⟩=>by rw[h,h1];simp[Vx.scalar]
 |.bool,_,_,h=>by rw[show _=_ from h];simp[Vx.scalar]
 |.str,_,_,h=>by rw[h.1];simp[Vx.scalar]
 |.fn,none,_,h=>by rw[show _=_ from h];simp[Vx.scalar]
 |.fn,some _,_,⟨_,h,_⟩=>by rw[h];simp[Vx.scalar]
 |.box _,_,_,⟨_,_,_,_,_,_,h,_⟩=>by rw[h];simp[Vx.scalar]
 |.ifc,none,_,h=>by rw[show _=_ from h];simp[Vx.scalar]
 |.ifc,some _,_,⟨h,_⟩=>by rw[h];simp[Vx.scalar]
 |.pfn,_,_,h=>by rw[show _=_ from h];simp[Vx.scalar]
 |.cx _,_,_,⟨_,_,h,_⟩=>by rw[h];simp[Vx.scalar]
 |.unit,_,_,h=>by rw[show _=_ from h];simp
 |.slice _,_,_,⟨A,c,h,_⟩=>by rw[h];simp[Vx.scalar]
 |.pair a b,_,_,⟨c1,c2,h,h1,h2⟩=>by
  rw[h];intro v hv
  rcases List.mem_append.1 hv with hv|hv
  ·exact h1.scalar v hv
  ·exact h2.scalar v hv
structure Env where
 β:Nat->Option Nat
 κ:Nat->Nat
structure Sit where
 E:Env
 mem:Ae
 w:World
 S:Nat->Prop
def J4:Value->Prop
 |.int k n=>k.min<=n/\n<=k.max
 |.string s=>s.size<BU
 |.bool _=>True
 |.pointer none=>True
 |.slice none 0 0=>True
 |.nilFunc=>True
 |.nilIface=>True
 |_=>False
def nnp(y:Value):Prop:=∃a,y=.pointer (some a)
theorem nnp.scalar{y:Value}(h:nnp y):scalar y:=by obtain⟨a,rfl⟩:=h;trivial
def Aw(σ:Sit):SC->Value->Prop
 |.undef,y=>scalar y
 |.v x,y=>y=x/\J4 x
 |.fl k o,y=>Hd k o y
 |.sl τ xs,y=>AJ σ.w σ.S (.slice τ) xs [y]
 |.own b,y=>b<σ.mem.length/\scalar y/\match Ac σ.mem b with
   |.arr _ xs=>y=.slice ((σ.E.β b).map fun r=>⟨r,0,none⟩) xs.length (σ.E.κ b)
   |.acc _ xs=>y=.slice ((σ.E.β b).map fun r=>⟨r,0,none⟩) xs.length (σ.E.κ b)
   |.froz τ xs=>AJ σ.w σ.S (.slice τ) xs [y]
   |_=>True
 |.ptr b off,y=>b<σ.mem.length/\nnp y/\match Ac σ.mem b with
   |.gone=>True
   |.froz _ _=>True
   |.acc _ _=>True
   |_=>∃r,σ.E.β b=some r/\y=.pointer (some ⟨r,off,none⟩)
 |.eptr b i off,y=>b<σ.mem.length/\scalar y/\match Ac σ.mem b with
   |.arr τ xs=>i<xs.length/\∃r,σ.E.β b=some r/\y=.pointer (some ⟨r,i*τ.width+off,none⟩)
   |_=>True
 |.sub b lo n,y=>b<σ.mem.length/\scalar y/\match Ac σ.mem b with
   |.arr τ xs=>lo+n<=xs.length/\∃A c,y=.slice A n c/\n<=c/\c<BU/\(0<n->∃r,σ.E.β b=some r/\A=some ⟨r,lo*τ.width,none⟩)
   |_=>True
 |.iptr τ x off,y=>∃r o vs T fz ds,y=.pointer (some ⟨r,o+off,none⟩)/\σ.S r/\σ.w.heap[r]? = some (.cells vs T fz) /\
   AJ σ.w σ.S τ x ds/\∀j d,ds[j]? = some d->vs[o+j]? = some d
 |.gptr g,y=>y=.pointer (some ⟨g,0,none⟩)
 |.fnv o,y=>AJ σ.w σ.S .fn o [y]
 |.ifv d,y=>AJ σ.w σ.S .ifc d [y]
 |.cx k a b,y=>∃p q,y=.complex k p q/\Hd k a (.float k p)/\Hd k b (.float k q)
 |.fn f caps,y=>(∀p∈caps,p.1<σ.mem.length)/\scalar y/\((∃p∈caps,match Ac σ.mem p.1 with|.raw _=>False|_=>True) ∨
   ∃rs:List Nat,caps.map (fun p=>σ.E.β p.1)=rs.map some/\y=.func (.func f) #[] ((caps.zip rs).map fun q=>jp (some ⟨q.2,q.1.2,none⟩)).toArray)
theorem Aw.scalar{σ:Sit}{c:SC}{y:Value}(h:Aw σ c y):scalar y:=by
 cases c with
 |undef=>exact h
 |v x=>obtain⟨rfl,h⟩:=h;cases y<;>simp_all [J4,Vx.scalar]
 |fl k o=>obtain⟨b,rfl,_⟩:=h;trivial
 |sl τ xs=>exact AJ.scalar h _ (by simp)
 |own b=>exact h.2.1
 |ptr b off=>exact h.2.1.scalar
 |eptr b i off=>exact h.2.1
 |sub b lo n=>exact h.2.1
 |iptr τ x off=>obtain⟨_,_,_,_,_,_,rfl,_⟩:=h;trivial
 |gptr g=>rw[show _=_ from h];trivial
 |fnv o=>exact AJ.scalar h _ (by simp)
 |ifv o=>exact AJ.scalar h _ (by simp)
 |cx k a b=>obtain⟨_,_,rfl,_⟩:=h;trivial
 |fn f caps=>exact h.2.1
inductive All2 {α β:Type} (R:α->β->Prop):List α->List β->Prop
 |nil:All2 R [] []
 |cons {a b as bs}:R a b->All2 R as bs->All2 R (a::as) (b::bs)
theorem All2.length{α β:Type}{R:α->β->Prop}:∀{as:List α} {bs:List β},All2 R as bs->as.length=bs.length
 |_,_,.nil=>rfl
 |_,_,.cons _ h=>by simp[h.length]
theorem All2.mono{α β:Type}{R R':α->β->Prop}(hR:∀a b,R a b->R' a b):∀{as:List α} {bs:List β},All2 R as bs->All2 R' as bs
 |_,_,.nil=>.nil
 |_,_,.cons h t=>.cons (hR _ _ h) (t.mono hR)
theorem All2.mapL{α α' β:Type}{R:α->β->Prop}{R':α'->β->Prop}(f:α->α')(hR:∀a b,R a b->R' (f a) b):∀{as:List α} {bs:List β},All2 R as bs->All2 R' (as.map f) bs
 |_,_,.nil=>.nil
 |_,_,.cons h t=>.cons (hR _ _ h) (t.mapL f hR)
theorem All2.append{α β:Type}{R:α->β->Prop}:∀{as:List α} {bs:List β} {as':List α} {bs':List β},All2 R as bs->All2 R as' bs'->All2 R (as++as') (bs++bs')
 |_,_,_,_,.nil,h=>h
 |_,_,_,_,.cons h t,h'=>.cons h (t.append h')
theorem All2.get{α β:Type}{R:α->β->Prop}:∀{as:List α} {bs:List β},All2 R as bs->∀{i:Nat} {a:α},as[i]? = some a->∃b,bs[i]? = some b/\R a b
 |_,_,.nil,i,a,h=>by simp at h
 |_,_,.cons h t,0,a,e=>by simp at e;subst e;exact⟨_,rfl,h⟩
 |_,_,.cons h t,i+1,a,e=>by simp at e;simpa using t.get e
theorem All2.split{α β:Type}{R:α->β->Prop}:∀{as as':List α} {bs:List β},All2 R (as++as') bs->∃b1 b2,bs=b1++b2/\All2 R as b1/\All2 R as' b2
 | [],_,bs,h=>⟨[],bs,rfl,.nil,h⟩
 |_::as,as',_,.cons h t=>by
  obtain⟨b1,b2,rfl,h1,h2⟩:=All2.split (as:=as) t
  exact⟨_::b1,b2,rfl,.cons h h1,h2⟩
theorem All2.of_get{α β:Type}{R:α->β->Prop}:∀{as:List α} {bs:List β},as.length=bs.length->(∀(i:Nat) (a:α),as[i]? = some a->∃b,bs[i]? = some b/\R a b)->All2 R as bs
 | [],[],_,_=>.nil
 | [],_::_,h,_=>by simp at h
 |_::_,[],h,_=>by simp at h
 |a::as,b::bs,h,hg=>by
  obtain⟨b',hb,hr⟩:=hg 0 a rfl
  simp at hb;subst hb
  exact .cons hr (All2.of_get (by simpa using h) fun i x hx=>by simpa using hg (i+1) x (by simpa using hx))
def Bv(σ:Sit):SV->Value->Prop
 |.one c,y=>Aw σ c y
 |.agg cs,y=>∃ys:List Value,y=.agg ys.toArray/\All2 (Aw σ) cs ys
def BB(σ:Sit):TV->Value->Prop
 |.un,_=>True
 |.val x,y=>Bv σ x y
 |.tup xs,y=>xs.length≠1/\∃ys:List Value,y=.tuple ys.toArray/\All2 (Bv σ) xs ys
 |.nxt c i r,y=>match c with
  |true=>y=.tuple #[.bool true,.int .i64 i,.int .i32 r]/\J4 (.int .i64 i)/\J4 (.int .i32 r)
  |false=>y=.tuple #[.bool false]
def BL(σ σ':Sit)(b:Nat):Prop:=
 match Ac σ.mem b with
 |.gone=>Ac σ'.mem b=.gone
 |.raw _=>(σ'.E.β b=σ.E.β b/\∃cs,Ac σ'.mem b=.raw cs)∨Ac σ'.mem b=.gone
 |.arr τ xs=>(σ'.E.β b=σ.E.β b/\σ'.E.κ b=σ.E.κ b/\∃xs':List (Ab τ),Ac σ'.mem b=.arr τ xs'/\xs'.length=xs.length) ∨
   (∃xs':List (Ab τ),Ac σ'.mem b=.froz τ xs'/\AJ σ'.w σ'.S (.slice τ) xs' [.slice ((σ.E.β b).map fun r=>⟨r,0,none⟩) xs.length (σ.E.κ b)])∨Ac σ'.mem b=.gone
 |.acc τ xs=>(σ'.E.β b=σ.E.β b/\σ'.E.κ b=σ.E.κ b/\Ac σ'.mem b=.acc τ xs) ∨
   (Ac σ'.mem b=.froz τ xs/\AJ σ'.w σ'.S (.slice τ) xs [.slice ((σ.E.β b).map fun r=>⟨r,0,none⟩) xs.length (σ.E.κ b)])∨Ac σ'.mem b=.gone
 |.froz τ xs=>Ac σ'.mem b=.froz τ xs
 |.itr _ _=>(σ'.E.β b=σ.E.β b/\∃s p,Ac σ'.mem b=.itr s p)∨Ac σ'.mem b=.gone
structure Goes (σ σ':Sit):Prop where
 stab:∀r,σ.S r->σ'.S r
 heap:∀r,σ.S r->σ'.w.heap[r]? = σ.w.heap[r]?
 len:σ.mem.length<=σ'.mem.length
 turns:∀b,b<σ.mem.length->BL σ σ' b
theorem aQD{σ σ':Sit}(stab:∀r,σ.S r->σ'.S r)(heap:∀r,σ.S r->σ'.w.heap[r]? = σ.w.heap[r]?)(len:σ.mem.length<=σ'.mem.length)(B:Nat->Prop)
  (turns:∀b,b<σ.mem.length->BL σ σ' b∨(B b/\∃τ xs τ' xs',Ac σ.mem b=.acc τ xs/\Ac σ'.mem b=.acc τ' xs')) {c:SC} {y:Value} (hc:Aw σ c y) (hB:∀b,c=.own b->¬B b):Aw σ' c y:=by
 cases c with
 |undef=>exact hc
 |v x=>exact hc
 |fl k o=>exact hc
 |sl τ xs=>exact AJ.mono stab heap hc
 |own b=>
  obtain⟨hb,hs,hm⟩:=hc;refine⟨az hb len,hs,?_⟩;have ht:=(turns b hb).resolve_right fun h=>hB b rfl h.1;unfold BL at ht;split at hm
  ·rename_i τ xs e;rw[e]at ht;subst hm;rcases ht with⟨h1,h2,xs',h3,h4⟩|⟨xs',h1,h2⟩|h1
   ·rw[h3];simp only[h1,h2,h4]
   ·rw[h1];exact h2
   ·rw[h1];trivial
  ·rename_i τ xs e;rw[e]at ht;subst hm;rcases ht with⟨h1,h2,h3⟩|⟨h1,h2⟩|h1
   ·rw[h3];simp only[h1,h2]
   ·rw[h1];exact h2
   ·rw[h1];trivial
  ·rename_i τ xs e;rw[e]at ht;simp only at ht;rw[ht];exact AJ.mono stab heap hm
  ·rename_i e1 e2 e3;cases e:Ac σ.mem b with
   |gone=>rw[e]at ht;simp only at ht;rw[ht];trivial
   |raw cs=>rw[e]at ht;simp only at ht;rcases ht with⟨_,cs',h2⟩|h2<;>(rw[h2];trivial)
   |arr τ xs=>exact absurd e (e1 τ xs)
   |acc τ xs=>exact absurd e (e2 τ xs)
   |froz τ xs=>exact absurd e (e3 τ xs)
   |itr str p=>rw[e]at ht;simp only at ht;rcases ht with⟨_,_,_,h2⟩|h2<;>(rw[h2];trivial)
 |ptr b off=>
  obtain⟨hb,hs,hm⟩:=hc;refine⟨az hb len,hs,?_⟩;rcases turns b hb with ht|⟨_,_,_,_,_,_,e2⟩;case inr=>rw[e2];trivial
  unfold BL at ht;cases e:Ac σ.mem b with
  |gone=>rw[e]at ht;simp only at ht;rw[ht];trivial
  |raw cs=>
   rw[e]at ht hm;simp only at ht hm;rcases ht with⟨h1,cs',h2⟩|h2
   ·rw[h2];obtain⟨r,hr,e⟩:=hm;exact⟨r,h1.trans hr,e⟩
   ·rw[h2];trivial
  |arr τ xs=>
   rw[e]at ht hm;simp only at ht hm;rcases ht with⟨h1,_,xs',h2,h3⟩|⟨_,h1,h2⟩|h1
   ·rw[h2];obtain⟨r,hr,e⟩:=hm;exact⟨r,h1.trans hr,e⟩
   ·rw[h1];trivial
   ·rw[h1];trivial
  |acc τ xs=>
   rw[e]at ht hm;simp only at ht hm;rcases ht with⟨h1,h2,h3⟩|⟨h1,h2⟩|h1
   ·rw[h3];trivial
   ·rw[h1];trivial
   ·rw[h1];trivial
  |froz τ xs=>rw[e]at ht;simp only at ht;rw[ht];trivial
  |itr str p=>
   rw[e]at ht hm;simp only at ht hm;rcases ht with⟨h1,_,_,h2⟩|h2
   ·rw[h2];obtain⟨r,hr,e⟩:=hm;exact⟨r,h1.trans hr,e⟩
   ·rw[h2];trivial
 |eptr b i off=>
  obtain⟨hb,hs,hm⟩:=hc;refine⟨az hb len,hs,?_⟩;rcases turns b hb with ht|⟨_,_,_,_,_,_,e2⟩;case inr=>rw[e2];trivial
  unfold BL at ht;cases e:Ac σ.mem b with
  |gone=>rw[e]at ht;simp only at ht;rw[ht];trivial
  |raw cs=>rw[e]at ht;simp only at ht;rcases ht with⟨_,cs',h2⟩|h2<;>(rw[h2];trivial)
  |arr τ xs=>
   rw[e]at ht hm;simp only at ht hm;rcases ht with⟨h1,_,xs',h2,h3⟩|⟨_,h1,h2⟩|h1
   ·rw[h2];obtain⟨hi,r,hr,e⟩:=hm;exact⟨by omega,r,h1.trans hr,e⟩
   ·rw[h1];trivial
   ·rw[h1];trivial
  |acc τ xs=>
   rw[e]at ht;simp only at ht;rcases ht with⟨h1,h2,h3⟩|⟨h1,h2⟩|h1
   ·rw[h3];trivial
   ·rw[h1];trivial
   ·rw[h1];trivial
  |froz τ xs=>rw[e]at ht;simp only at ht;rw[ht];trivial
  |itr str p=>rw[e]at ht;simp only at ht;rcases ht with⟨_,_,_,h2⟩|h2<;>(rw[h2];trivial)
 |sub b lo n=>
  obtain⟨hb,hs,hm⟩:=hc;refine⟨az hb len,hs,?_⟩;rcases turns b hb with ht|⟨_,_,_,_,_,_,e2⟩;case inr=>rw[e2];trivial
  unfold BL at ht;cases e:Ac σ.mem b with
  |gone=>rw[e]at ht;simp only at ht;rw[ht];trivial
  |raw cs=>rw[e]at ht;simp only at ht;rcases ht with⟨_,cs',h2⟩|h2<;>(rw[h2];trivial)
  |arr τ xs=>
   rw[e]at ht hm;simp only at ht hm;rcases ht with⟨h1,_,xs',h2,h3⟩|⟨_,h1,h2⟩|h1
   ·rw[h2];obtain⟨hi,A,c,g1,g2,g3,g4⟩:=hm;exact⟨by rw[h3];exact hi,A,c,g1,g2,g3,fun hn=>by obtain⟨r,hr,e⟩:=g4 hn;exact⟨r,h1.trans hr,e⟩⟩
   ·rw[h1];trivial
   ·rw[h1];trivial
  |acc τ xs=>
   rw[e]at ht;simp only at ht;rcases ht with⟨h1,h2,h3⟩|⟨h1,h2⟩|h1
   ·rw[h3];trivial
   ·rw[h1];trivial
   ·rw[h1];trivial
  |froz τ xs=>rw[e]at ht;simp only at ht;rw[ht];trivial
  |itr str p=>rw[e]at ht;simp only at ht;rcases ht with⟨_,_,_,h2⟩|h2<;>(rw[h2];trivial)
 |iptr τ x off=>
  obtain⟨r,o,vs,T,fz,ds,e,hS,hh,hd,hj⟩:=hc;exact⟨r,o,vs,T,fz,ds,e,stab r hS,(heap r hS).trans hh,hd.mono stab heap,hj⟩
 |gptr g=>exact hc
 |fnv o=>exact AJ.mono stab heap hc
 |ifv o=>exact AJ.mono stab heap hc
 |cx k a b=>exact hc
 |fn f caps=>
  obtain⟨hb,hs,hm⟩:=hc;refine⟨fun p hp=>az (hb p hp) len,hs,?_⟩;by_cases hall:∀p∈caps,∃cs,Ac σ'.mem p.1=.raw cs
  ·have hwas:∀p∈caps,(∃cs,Ac σ.mem p.1=.raw cs)/\σ'.E.β p.1=σ.E.β p.1:=fun p hp=>by
    obtain⟨cs',e'⟩:=hall p hp;have ht:=(turns p.1 (hb p hp)).resolve_right fun⟨_,_,_,_,_,_,e2⟩=>by rw[e']at e2;cases e2
    unfold BL at ht;cases e:Ac σ.mem p.1 with
    |gone=>rw[e]at ht;simp only at ht;rw[e']at ht;cases ht
    |raw cs=>
     rw[e]at ht;simp only at ht;rcases ht with⟨h1,_⟩|h2
     ·exact⟨⟨cs,rfl⟩,h1⟩
     ·rw[e']at h2;cases h2
    |arr τ xs=>
     rw[e]at ht;simp only at ht;rcases ht with⟨_,_,xs',h2,_⟩|⟨_,h1,_⟩|h1
     ·rw[e']at h2;cases h2
     ·rw[e']at h1;cases h1
     ·rw[e']at h1;cases h1
    |acc τ xs=>
     rw[e]at ht;simp only at ht;rcases ht with⟨_,_,h3⟩|⟨h1,_⟩|h1
     ·rw[e']at h3;cases h3
     ·rw[e']at h1;cases h1
     ·rw[e']at h1;cases h1
    |froz τ xs=>rw[e]at ht;simp only at ht;rw[e']at ht;cases ht
    |itr str p=>
     rw[e]at ht;simp only at ht;rcases ht with⟨_,_,_,h2⟩|h2
     ·rw[e']at h2;cases h2
     ·rw[e']at h2;cases h2
   rcases hm with⟨p,hp,hq⟩|⟨rs,h1,h2⟩
   ·obtain⟨⟨cs,e⟩,_⟩:=hwas p hp;rw[e]at hq;exact hq.elim
   ·refine .inr ⟨rs,?_,h2⟩;rw[←h1];exact List.map_congr_left fun p hp=>(hwas p hp).2
  ·refine .inl ?_;obtain⟨p,hp⟩:=Classical.not_forall.1 hall;obtain⟨hp,hn⟩:=Classical.not_imp.1 hp;refine⟨p,hp,?_⟩;cases e:Ac σ'.mem p.1 with
   |raw cs=>exact absurd ⟨cs,e⟩ hn
   |_=>trivial
theorem Goes.repC{σ σ':Sit}(h:Goes σ σ'){c:SC}{y:Value}(hc:Aw σ c y):Aw σ' c y:=
 aQD h.stab h.heap h.len (fun _=>False) (fun b hb=>.inl (h.turns b hb)) hc (fun _ _ h=>h)
theorem Goes.repV{σ σ':Sit}(h:Goes σ σ'){x:SV}{y:Value}(hc:Bv σ x y):Bv σ' x y:=by
 cases x with
 |one c=>exact h.repC hc
 |agg cs=>obtain⟨ys,e,ha⟩:=hc;exact⟨ys,e,ha.mono fun _ _=>h.repC⟩
theorem Goes.repT{σ σ':Sit}(h:Goes σ σ'){x:TV}{y:Value}(hc:BB σ x y):BB σ' x y:=by
 cases x with
 |un=>trivial
 |val x=>exact h.repV hc
 |tup xs=>obtain⟨h1,ys,e,ha⟩:=hc;exact⟨h1,ys,e,ha.mono fun _ _=>h.repV⟩
 |nxt c i r=>exact hc
theorem LG{σ:Sit}:∀{τ:Shape} {x:Ab τ} {ys:List Value},AJ σ.w σ.S τ x ys->All2 (Aw σ) (cellsOf τ x) ys
 |.int k,n,_,h=>by rw[h.1];exact .cons ⟨rfl,h.2⟩ .nil
 |.flt k,o,_,⟨y,h,h1⟩=>by rw[h];exact .cons h1 .nil
 |.bool,b,_,h=>by rw[show _=_ from h];exact .cons ⟨rfl,ak⟩ .nil
 |.str,s,_,h=>by rw[h.1];exact .cons ⟨rfl,h.2⟩ .nil
 |.fn,none,_,h=>by rw[show _=_ from h];exact .cons rfl .nil
 |.fn,some _,_,⟨ps,h,h1⟩=>by rw[h];exact .cons ⟨ps,rfl,h1⟩ .nil
 |.box _,x,_,⟨r,o,vs,T,fz,ds,h,h1⟩=>by rw[h];exact .cons ⟨r,o,vs,T,fz,ds,rfl,h1⟩ .nil
 |.ifc,none,_,h=>by rw[show _=_ from h];exact .cons rfl .nil
 |.ifc,some _,_,⟨h,h1⟩=>by rw[h];exact .cons ⟨rfl,h1⟩ .nil
 |.pfn,n,_,h=>by rw[show _=_ from h];exact .cons ⟨[],rfl,rfl,fun i n hi=>by simp at hi⟩ .nil
 |.cx k,x,_,⟨p,q,h,h1,h2⟩=>by rw[h];exact .cons ⟨p,q,rfl,h1,h2⟩ .nil
 |.unit,_,_,h=>by rw[show _=_ from h];exact .nil
 |.slice e,xs,_,h=>by
  obtain⟨A,c,h0,h1⟩:=h
  rw[h0];exact .cons ⟨A,c,rfl,h1⟩ .nil
 |.pair a b,x,_,⟨c1,c2,h0,h1,h2⟩=>by
  rw[h0];exact(LG h1).append (LG h2)
theorem aDf{w:World}{S:Nat->Prop}{e' e:Shape}{xs:List (Ab e')}{ys:List (Ab e)}(h:CX e' e xs=some ys){y:Value}
  (hd:AJ w S (.slice e') xs [y]):AJ w S (.slice e) ys [y]:=by
 unfold CX at h;split at h
 ·rename_i he;subst he;cases h;exact hd
 ·cases h
theorem G3{e' e:Shape}{xs:List (Ab e')}{ys:List (Ab e)}(h:CX e' e xs=some ys):∃he:e'=e,ys=he▸xs:=by
 unfold CX at h;split at h
 ·rename_i he;cases h;exact⟨he,rfl⟩
 ·cases h
theorem aZy{e' e:Shape}{x:Ab e'}{y:Ab e}(h:aDe e' e x=some y):∃he:e'=e,y=he▸x:=by
 unfold aDe at h;split at h
 ·rename_i he;cases h;exact⟨he,rfl⟩
 ·cases h
theorem uY{w:World}{S:Nat->Prop}(τ:Shape):AJ w S (.slice τ) [] [.slice none 0 0]:=
 ⟨none,0,rfl,ci _,by unfold BU;omega,fun h=>absurd rfl h⟩
theorem H2{σ:Sit}:∀{τ:Shape} {cs:List SC} {ys:List Value} {x:Ab τ} {r:List SC},All2 (Aw σ) cs ys->Ci τ cs=some (x,r) ->
  ∃y1 y2,ys=y1++y2/\AJ σ.w σ.S τ x y1/\All2 (Aw σ) r y2
 |.int k,[],_,_,_,_,h=>by simp[Ci]at h
 |.int k,c::cs,_,x,r,.cons hc ht,h=>by
  simp only[Ci]at h
  split at h
  ·rename_i k' n
   split at h
   ·rename_i hk
    cases h
    obtain⟨rfl,h1⟩:=hc
    exact⟨[_],_,rfl,⟨by rw[hk],by rw[←hk];exact h1⟩,ht⟩
   ·cases h
  ·cases h
 |.flt k,[],_,_,_,_,h=>by simp[Ci]at h
 |.flt k,c::cs,_,x,r,.cons hc ht,h=>by
  simp only[Ci]at h
  split at h
  ·rename_i k' o
   split at h
   ·rename_i hk
    subst hk
    cases h
    exact⟨[_],_,rfl,⟨_,rfl,hc⟩,ht⟩
   ·cases h
  ·cases h
 |.bool,[],_,_,_,_,h=>by simp[Ci]at h
 |.bool,c::cs,_,x,r,.cons hc ht,h=>by
  simp only[Ci]at h
  split at h
  ·cases h
   obtain⟨rfl,h1⟩:=hc
   exact⟨[_],_,rfl,rfl,ht⟩
  ·cases h
 |.str,[],_,_,_,_,h=>by simp[Ci]at h
 |.str,c::cs,_,x,r,.cons hc ht,h=>by
  simp only[Ci]at h
  split at h
  ·cases h
   obtain⟨rfl,h1⟩:=hc
   exact⟨[_],_,rfl,⟨rfl,h1⟩,ht⟩
  ·cases h
 |.fn,[],_,_,_,_,h=>by simp[Ci]at h
 |.fn,c::cs,_,x,r,.cons hc ht,h=>by
  simp only[Ci]at h
  split at h
  ·cases h
   obtain⟨rfl,h1⟩:=hc
   exact⟨[_],_,rfl,rfl,ht⟩
  ·cases h
   obtain⟨_,_,h1⟩:=hc
   rcases h1 with⟨p,hp,_⟩|⟨rs,h1,rfl⟩
   ·simp at hp
   ·exact⟨[_],_,rfl,⟨[],by simp,rfl,fun i n hi=>by simp at hi⟩,ht⟩
  ·cases h
   exact⟨[_],_,rfl,hc,ht⟩
  ·cases h
 |.box a,[],_,_,_,_,h=>by simp[Ci]at h
 |.box a,c::cs,_,x,r,.cons hc ht,h=>by
  simp only[Ci]at h
  split at h
  ·split at h
   ·rename_i hcast
    cases h
    obtain⟨he,rfl⟩:=aZy hcast
    subst he
    obtain⟨r,o,vs,T,fz,ds,h,h1⟩:=hc
    exact⟨[_],_,rfl,⟨r,o,vs,T,fz,ds,by rw[h];rfl,h1⟩,ht⟩
   ·cases h
  ·cases h
 |.cx k,[],_,_,_,_,h=>by simp[Ci]at h
 |.cx k,c::cs,_,x,r,.cons hc ht,h=>by
  simp only[Ci]at h
  split at h
  ·split at h
   ·rename_i hk;subst hk;cases h
    obtain⟨p,q,rfl,h1,h2⟩:=hc
    exact⟨[_],_,rfl,⟨p,q,rfl,h1,h2⟩,ht⟩
   ·cases h
  ·cases h
 |.pfn,[],_,_,_,_,h=>by simp[Ci]at h
 |.pfn,c::cs,_,x,r,.cons hc ht,h=>by
  simp only[Ci]at h
  split at h
  ·cases h
   obtain⟨_,_,h1⟩:=hc
   rcases h1 with⟨p,hp,_⟩|⟨rs,h1,rfl⟩
   ·simp at hp
   ·exact⟨[_],_,rfl,by simp[AJ],ht⟩
  ·cases h
   obtain⟨ps,e,h1,_⟩:=hc
   have:ps=[]:=co h1
   subst this
   exact⟨[_],_,rfl,e,ht⟩
  ·cases h
 |.ifc,[],_,_,_,_,h=>by simp[Ci]at h
 |.ifc,c::cs,_,x,r,.cons hc ht,h=>by
  simp only[Ci]at h
  split at h
  ·cases h
   obtain⟨rfl,h1⟩:=hc
   exact⟨[_],_,rfl,rfl,ht⟩
  ·cases h
   exact⟨[_],_,rfl,hc,ht⟩
  ·cases h
 |.unit,cs,ys,x,r,ha,h=>by
  simp only[Ci]at h
  cases h
  exact⟨[],ys,rfl,rfl,ha⟩
 |.slice e,[],_,_,_,_,h=>by simp[Ci]at h
 |.slice e,c::cs,_,x,r,.cons hc ht,h=>by
  simp only[Ci]at h
  split at h
  ·split at h
   ·rename_i hcast
    cases h
    exact⟨[_],_,rfl,aDf hcast hc,ht⟩
   ·cases h
  ·cases h
   obtain⟨rfl,h1⟩:=hc
   exact⟨[_],_,rfl,uY e,ht⟩
  ·cases h
 |.pair a b,cs,ys,x,r,ha,h=>by
  simp only[Ci]at h
  split at h
  ·cases h
  ·rename_i x1 r1 h1
   split at h
   ·cases h
   ·rename_i x2 r2 h2
    cases h
    obtain⟨y1,y2,rfl,d1,a1⟩:=H2 ha h1
    obtain⟨y3,y4,rfl,d2,a2⟩:=H2 a1 h2
    exact⟨y1++y3,y4,by simp,⟨y1,y3,rfl,d1,d2⟩,a2⟩
def Rows(w:World)(S:Nat->Prop)(e:Shape)(vs:Array Value)(o:Nat)(xs:List (Ab e)):Prop:=∀i x,xs[i]? = some x->∃ds,AJ w S e x ds/\∀j d,ds[j]? = some d->vs[o+i*e.width+j]? = some d
theorem vC{σ:Sit}{τ:Shape}:∀{n:Nat} {cs:List SC} {ys:List Value} {xs:List (Ab τ)},All2 (Aw σ) cs ys->WN τ n cs=some xs ->
  xs.length=n/\ys.length=n*τ.width/\∀i x,xs[i]? = some x->∃ds,AJ σ.w σ.S τ x ds/\∀j d,ds[j]? = some d->ys[i*τ.width+j]? = some d
 |0,[],_,xs,.nil,h=>by simp[WN]at h;subst h;simp
 |0,_::_,_,xs,_,h=>by simp[WN]at h
 |n+1,cs,ys,xs,ha,h=>by
  simp only[WN]at h
  split at h
  ·cases h
  ·rename_i x r h1
   split at h
   ·cases h
   ·rename_i xs' h2
    cases h
    obtain⟨y1,y2,rfl,d1,a1⟩:=H2 ha h1
    obtain⟨l1,l2,l3⟩:=vC a1 h2
    have hw:=d1.len
    refine⟨by simp[l1],by rw[fc,l2,hw,ks];omega,fun i z hi=>?_⟩
    cases i with
    |zero=>
     simp at hi;subst hi
     refine⟨y1,d1,fun j d hj=>?_⟩
     rw[fq,dj,cw (bp.1 hj).1]
     exact hj
    |succ i=>
     obtain⟨ds,e1,e2⟩:=l3 i z (by simpa using hi)
     refine⟨ds,e1,fun j d hj=>?_⟩
     rw[cm (by rw[hw,ks];omega)]
     rw[show(i+1)*τ.width+j-y1.length=i*τ.width+j by rw[hw,ks];omega]
     exact e2 j d hj
end Vx
namespace Vx
open Go Go.RowKit
def LW:Blk->Prop
 |.raw _=>True
 |.arr _ _=>True
 |.acc _ _=>True
 |.itr _ _=>True
 |_=>False
def Sit.owned(σ:Sit)(b r:Nat):Prop:=LW (Ac σ.mem b)/\σ.E.β b=some r
def AE(σ:Sit)(b:Nat):Prop:=
 match Ac σ.mem b with
 |.gone=>True
 |.froz _ _=>True
 |.raw cs=>∃r vs T,σ.E.β b=some r/\σ.w.heap[r]? = some (.cells vs T (0,0))/\All2 (Aw σ) cs vs.toList
 |.itr s p=>s.size<BU/\∃r,σ.E.β b=some r/\σ.w.heap[r]? = some (.stringIter s p)
 |.arr τ xs=>xs.length<=σ.E.κ b/\σ.E.κ b<BU/\((σ.E.β b=none/\σ.E.κ b=0) ∨
   ∃r vs T,σ.E.β b=some r/\σ.w.heap[r]? = some (.cells vs T (0,0))/\vs.size=σ.E.κ b*τ.width/\Rows σ.w σ.S τ vs 0 xs)
 |.acc τ xs=>xs.length<=σ.E.κ b/\σ.E.κ b<BU/\((σ.E.β b=none/\σ.E.κ b=0) ∨
   ∃r vs T,σ.E.β b=some r/\σ.w.heap[r]? = some (.cells vs T (0,0))/\vs.size=σ.E.κ b*τ.width/\Rows σ.w σ.S τ vs 0 xs)
theorem sX{σ:Sit}{b r:Nat}{τ:Shape}{xs:List (Ab τ)}(he:AE σ b)(e:Ac σ.mem b=.arr τ xs)(hr:σ.E.β b=some r):
  xs.length<=σ.E.κ b/\σ.E.κ b<BU/\∃vs T,σ.w.heap[r]? = some (.cells vs T (0,0))/\vs.size=σ.E.κ b*τ.width/\Rows σ.w σ.S τ vs 0 xs:=by
 unfold AE at he;rw[e]at he;obtain⟨h1,h2,h3⟩:=he;rcases h3 with⟨h4,_⟩|⟨r',vs,T,h4,h5,h6,h7⟩
 ·rw[hr]at h4;cases h4
 ·rw[hr]at h4;cases h4;exact⟨h1,h2,vs,T,h5,h6,h7⟩
theorem aCL{σ:Sit}{b:Nat}{τ:Shape}{xs:List (Ab τ)}(he:AE σ b)(e:Ac σ.mem b=.arr τ xs)(hn:0<xs.length):∃r,σ.E.β b=some r:=by
 unfold AE at he;rw[e]at he;obtain⟨h1,h2,h3⟩:=he;rcases h3 with⟨_,h4⟩|⟨r,vs,T,h4,_⟩
 ·omega
 ·exact⟨r,h4⟩
structure Base where
 w:World
 M:Nat->Prop
def Base.new(B:Base)(r:Nat):Prop:=B.w.heap.size<=r∨B.M r
structure Low (B:Base) (w':World):Prop where
 os:w'.os=B.w.os
 tape:w'.tape=B.w.tape
 output:w'.output=B.w.output
 size:B.w.heap.size<=w'.heap.size
 block:∀k,k<B.w.heap.size->¬B.M k->w'.heap[k]? = B.w.heap[k]?
theorem Low.step{B:Base}{w w':World}(h:Low B w)(hos:w'.os=w.os)(htape:w'.tape=w.tape)(hout:w'.output=w.output)(hsize:w.heap.size<=w'.heap.size)(hb:∀k,k<w.heap.size->¬B.new k->w'.heap[k]? = w.heap[k]?):Low B w' :=
 ⟨hos.trans h.os,htape.trans h.tape,hout.trans h.output,gb h.size hsize,fun k hk hM=>(hb k (az hk h.size) (fun hn=>hn.elim (fun h=>by omega) hM)).trans (h.block k hk hM)⟩
theorem Low.alloc{B:Base}{w:World}(h:Low B w)(o:Obj):Low B (w.alloc o):=
 h.step rfl rfl rfl (by simp) fun k hk _=>Below.heap_alloc w o k hk
theorem Low.drew{B:Base}{w:World}(h:Low B w):Low B w.drew:=⟨h.os,h.tape,h.output,h.size,h.block⟩
structure Ok (base:Base) (S0:Nat->Prop) (σ:Sit):Prop where
 below:Low base σ.w
 stab0:∀r,S0 r->σ.S r
 stab:∀r,σ.S r->r<σ.w.heap.size/\(S0 r∨base.new r)
 ent:∀b,AE σ b
 own:∀b r,σ.owned b r->base.new r/\r<σ.w.heap.size/\¬σ.S r
 inj:∀b b' r,σ.owned b r->σ.owned b' r->b=b'
theorem Rows.mono{w w':World}{S S':Nat->Prop}(hS:∀r,S r->S' r)(hH:∀r,S r->w'.heap[r]? = w.heap[r]?){e:Shape}{vs:Array Value}{o:Nat}{xs:List (Ab e)}
  (h:Rows w S e vs o xs):Rows w' S' e vs o xs:=fun i x hi=>by
 obtain⟨ds,h1,h2⟩:=h i x hi
 exact⟨ds,h1.mono hS hH,h2⟩
theorem DP{mem:Ae}{b:Nat}(h:Ac mem b≠.gone):b<mem.length:=by
 unfold Ac at h;rcases bc b mem.length with h' | h'
 ·exact h'
 ·rw[dz h']at h;exact absurd rfl h
theorem HV{mem l:Ae}{b:Nat}(h:b<mem.length):Ac (mem++l) b=Ac mem b:=by
 unfold Ac;rw[cw h]
theorem Ex{mem:Ae}{e:Blk}:Ac (mem++[e]) mem.length=e:=by
 unfold Ac;simp
theorem U0{mem:Ae}{e:Blk}{b:Nat}(h:mem.length<b):Ac (mem++[e]) b=.gone:=by
 unfold Ac;rw[dz (by simp;omega)];rfl
theorem B9{mem:Ae}{e:Blk}{b b':Nat}(hb:b<mem.length):Ac (mem.set b e) b'=if b'=b then e else Ac mem b':=by
 unfold Ac;by_cases h:b'=b
 ·subst h;rw[ah rfl,List.getElem?_set_self hb];rfl
 ·rw[ag h,List.getElem?_set_ne (fun e=>h e.symm)]
theorem aYG{mem:Ae}{b:Nat}(h:mem.length<=b):Ac mem b=.gone:=by
 unfold Ac;rw[dz h];rfl
theorem i2{mem:Ae}{b:Nat}{e:Blk}(h:Ac mem b=e)(hn:e≠.gone):mem.set b e=mem:=by
 have hlt:b<mem.length:=DP (by rw[h];exact hn);apply List.ext_getElem?;intro i;rw[qe];split
 ·rename_i hbi;subst hbi;unfold Ac at h;rw[bw hlt]at h⊢;rw[←h];simp[hlt]
 ·rfl
theorem BL.refl{σ σ':Sit}{b:Nat}(hm:Ac σ'.mem b=Ac σ.mem b)(hb:σ'.E.β b=σ.E.β b)(hk:σ'.E.κ b=σ.E.κ b):BL σ σ' b:=by
 unfold BL;cases e:Ac σ.mem b with
 |gone=>simp only;rw[hm,e]
 |raw cs=>exact .inl ⟨hb,cs,hm.trans e⟩
 |arr τ xs=>exact .inl ⟨hb,hk,xs,hm.trans e,rfl⟩
 |acc τ xs=>exact .inl ⟨hb,hk,hm.trans e⟩
 |froz τ xs=>exact hm.trans e
 |itr s p=>exact .inl ⟨hb,s,p,hm.trans e⟩
theorem Goes.refl(σ:Sit):Goes σ σ:=⟨fun _ h=>h,fun _ _=>rfl,ci _,fun _ _=>BL.refl rfl rfl rfl⟩
theorem AE.keep{σ σ':Sit}(hg:Goes σ σ'){b:Nat}(hm:Ac σ'.mem b=Ac σ.mem b)(hb:σ'.E.β b=σ.E.β b)(hk:σ'.E.κ b=σ.E.κ b)
  (hh:∀r,σ.owned b r->σ'.w.heap[r]? = σ.w.heap[r]?) (h:AE σ b):AE σ' b:=by
 unfold AE at h⊢;rw[hm];cases e:Ac σ.mem b with
 |gone=>trivial
 |froz τ xs=>trivial
 |itr s p=>
  rw[e]at h;obtain⟨h0,r,h1,h2⟩:=h;exact⟨h0,r,hb.trans h1,(hh r ⟨by rw[e];trivial,h1⟩).trans h2⟩
 |raw cs=>
  rw[e]at h;obtain⟨r,vs,T,h1,h2,h3⟩:=h;exact⟨r,vs,T,hb.trans h1,(hh r ⟨by rw[e];trivial,h1⟩).trans h2,h3.mono fun _ _=>hg.repC⟩
 |arr τ xs=>
  rw[e]at h;obtain⟨h0,h00,h⟩:=h;refine⟨by rw[hk];exact h0,by rw[hk];exact h00,?_⟩;rcases h with⟨h1,h2⟩|⟨r,vs,T,h1,h2,h3,h4⟩
  ·exact .inl ⟨hb.trans h1,hk.trans h2⟩
  ·exact .inr ⟨r,vs,T,hb.trans h1,(hh r ⟨by rw[e];trivial,h1⟩).trans h2,by rw[hk];exact h3,h4.mono hg.stab hg.heap⟩
 |acc τ xs=>
  rw[e]at h;obtain⟨h0,h00,h⟩:=h;refine⟨by rw[hk];exact h0,by rw[hk];exact h00,?_⟩;rcases h with⟨h1,h2⟩|⟨r,vs,T,h1,h2,h3,h4⟩
  ·exact .inl ⟨hb.trans h1,hk.trans h2⟩
  ·exact .inr ⟨r,vs,T,hb.trans h1,(hh r ⟨by rw[e];trivial,h1⟩).trans h2,by rw[hk];exact h3,h4.mono hg.stab hg.heap⟩
theorem aYq{w:World}{S:Nat->Prop}{τ:Shape}{xs:List (Ab τ)}{r:Nat}{vs:Array Value}{T:TypeId}{fz:Nat×Nat}{c:Nat}(hS:S r)(hh:w.heap[r]? = some (.cells vs T fz))
  (hr:Rows w S τ vs 0 xs) (hc:xs.length<=c) (hl:c<BU):AJ w S (.slice τ) xs [.slice (some ⟨r,0,none⟩) xs.length c]:=
 ⟨_,c,rfl,hc,hl,fun _=>⟨r,0,vs,T,fz,rfl,hS,hh,hr⟩⟩
theorem uD{base:Base}{S0:Nat->Prop}{σ:Sit}(ho:Ok base S0 σ){b:Nat}{τ:Shape}{xs:List (Ab τ)}(he:Ac σ.mem b=.arr τ xs∨Ac σ.mem b=.acc τ xs):
  ∃σ':Sit,σ'.mem=σ.mem.set b (.froz τ xs)/\σ'.w=σ.w/\σ'.E=σ.E/\Ok base S0 σ'/\Goes σ σ':=by
 have hlt:b<σ.mem.length:=DP (by rcases he with h|h<;>rw[h]<;>simp);refine⟨⟨σ.E,σ.mem.set b (.froz τ xs),σ.w,fun r=>σ.S r∨σ.E.β b=some r⟩,rfl,rfl,rfl,?_⟩;have howned:∀r,σ.E.β b=some r->σ.owned b r:=fun r hr=>⟨by rcases he with h|h<;>rw[h]<;>trivial,hr⟩
 have hent:=ho.ent b;have hread:AJ σ.w (fun r=>σ.S r∨σ.E.β b=some r) (.slice τ) xs [.slice ((σ.E.β b).map fun r=>⟨r,0,none⟩) xs.length (σ.E.κ b)]:=by
  have hent':xs.length<=σ.E.κ b/\σ.E.κ b<BU/\((σ.E.β b=none/\σ.E.κ b=0) ∨
   ∃r vs T,σ.E.β b=some r/\σ.w.heap[r]? = some (.cells vs T (0,0))/\vs.size=σ.E.κ b*τ.width/\Rows σ.w σ.S τ vs 0 xs):=by
   unfold AE at hent
   rcases he with h|h
   ·rw[h]at hent;exact hent
   ·rw[h]at hent;exact hent
  obtain⟨h0,h00,h5⟩:=hent';rcases h5 with⟨h1,h2⟩|⟨r',vs,T,h1,h2,h3,h4⟩
  ·have:xs=[]:=co (by omega);subst this;rw[h1,h2];exact uY τ
  ·rw[h1];exact aYq (.inr rfl) h2 (h4.mono (fun _ h=>.inl h) fun _ _=>rfl) h0 h00
 have hg:Goes σ ⟨σ.E,σ.mem.set b (.froz τ xs),σ.w,fun r=>σ.S r∨σ.E.β b=some r⟩:=by
  refine⟨fun r h=>.inl h,fun _ _=>rfl,by simp,fun b' hb'=>?_⟩;by_cases hbb:b'=b
  ·subst hbb;have hset:Ac (σ.mem.set b' (.froz τ xs)) b'=.froz τ xs:=by rw[B9 hlt,ah rfl]
   unfold BL;rcases he with h|h
   ·rw[h];exact .inr (.inl ⟨xs,hset,hread⟩)
   ·rw[h];exact .inr (.inl ⟨hset,hread⟩)
  ·exact BL.refl (by simp only;rw[B9 hlt,ag hbb]) rfl rfl
 refine⟨⟨ho.below,fun r h=>.inl (ho.stab0 r h),fun r h=>?_,fun b'=>?_,fun b' r h=>?_,fun b1 b2 r h1 h2=>?_⟩,hg⟩
 ·rcases h with h|h
  ·exact ho.stab r h
  ·have:=ho.own b r (howned r h);exact⟨this.2.1,.inr this.1⟩
 ·by_cases hbb:b'=b
  ·subst hbb;unfold AE;simp only;rw[B9 hlt,ah rfl];trivial
  ·exact AE.keep hg (by simp only;rw[B9 hlt,ag hbb]) rfl rfl (fun _ _=>rfl) (ho.ent b')
 ·obtain⟨h1,h2⟩:=h;simp only at h1 h2;rw[B9 hlt]at h1;split at h1
  ·exact h1.elim
  ·rename_i hne;have hh:=ho.own b' r ⟨h1,h2⟩;refine⟨hh.1,hh.2.1,fun hs=>?_⟩;rcases hs with hs|hs
   ·exact hh.2.2 hs
   ·exact hne (ho.inj b' b r ⟨h1,h2⟩ (howned r hs))
 ·obtain⟨h3,h4⟩:=h1;obtain⟨h5,h6⟩:=h2;simp only at h3 h4 h5 h6;rw[B9 hlt]at h3 h5;split at h3
  ·exact h3.elim
  ·split at h5
   ·exact h5.elim
   ·exact ho.inj b1 b2 r ⟨h3,h4⟩ ⟨h5,h6⟩
theorem Goes.trans{σ σ' σ'':Sit}(h:Goes σ σ')(h':Goes σ' σ''):Goes σ σ'':=by
 refine⟨fun r hr=>h'.stab r (h.stab r hr),fun r hr=>(h'.heap r (h.stab r hr)).trans (h.heap r hr),gb h.len h'.len,fun b hb=>?_⟩;have t1:=h.turns b hb;have t2:=h'.turns b (az hb h.len);unfold BL at t1 t2⊢;cases e:Ac σ.mem b with
 |gone=>rw[e]at t1;simp only at t1;rw[t1]at t2;exact t2
 |raw cs=>
  rw[e]at t1;simp only at t1;rcases t1 with⟨h1,cs',h2⟩|h2
  ·rw[h2]at t2;rcases t2 with⟨g1,g2⟩|g2
   ·exact .inl ⟨g1.trans h1,g2⟩
   ·exact .inr g2
  ·rw[h2]at t2;exact .inr t2
 |arr τ xs=>
  rw[e]at t1;simp only at t1;rcases t1 with⟨h1,h1',xs',h2,h3⟩|⟨xs',h1,h2⟩|h1
  ·rw[h2]at t2;rcases t2 with⟨g1,g1',xs'',g2,g3⟩|⟨xs'',g1,g2⟩|g1
   ·exact .inl ⟨g1.trans h1,g1'.trans h1',xs'',g2,g3.trans h3⟩
   ·refine .inr (.inl ⟨xs'',g1,?_⟩);rw[h1,h1',h3]at g2;exact g2
   ·exact .inr (.inr g1)
  ·rw[h1]at t2;exact .inr (.inl ⟨xs',t2,h2.mono h'.stab h'.heap⟩)
  ·rw[h1]at t2;exact .inr (.inr t2)
 |acc τ xs=>
  rw[e]at t1;simp only at t1;rcases t1 with⟨h1,h2,h3⟩|⟨h1,h2⟩|h1
  ·rw[h3]at t2;rcases t2 with⟨g1,g2,g3⟩|⟨g1,g2⟩|g1
   ·exact .inl ⟨g1.trans h1,g2.trans h2,g3⟩
   ·refine .inr (.inl ⟨g1,?_⟩);rw[h1,h2]at g2;exact g2
   ·exact .inr (.inr g1)
  ·rw[h1]at t2;exact .inr (.inl ⟨t2,h2.mono h'.stab h'.heap⟩)
  ·rw[h1]at t2;exact .inr (.inr t2)
 |froz τ xs=>rw[e]at t1;simp only at t1;rw[t1]at t2;exact t2
 |itr s p=>
  rw[e]at t1;simp only at t1;rcases t1 with⟨h1,s',p',h2⟩|h2
  ·rw[h2]at t2;rcases t2 with⟨g1,g2⟩|g2
   ·exact .inl ⟨g1.trans h1,g2⟩
   ·exact .inr g2
  ·rw[h2]at t2;exact .inr t2
end Vx
namespace Vx
open Go Go.RowKit
theorem bAw{base:Base}{S0:Nat->Prop}{σ:Sit}(ho:Ok base S0 σ){b:Nat}{cs:List SC}(he:Ac σ.mem b=.raw cs):
  ∃(σ':Sit) (r:Nat) (vs:Array Value) (T:TypeId),σ'.mem=σ.mem.set b .gone/\σ'.w=σ.w/\σ'.E=σ.E/\Ok base S0 σ'/\Goes σ σ'/\σ.E.β b=some r/\σ'.S r/\σ.w.heap[r]? = some (.cells vs T (0,0))/\All2 (Aw σ) cs vs.toList:=by
 have hlt:b<σ.mem.length:=DP (by rw[he];simp);have hent:=ho.ent b;unfold AE at hent;rw[he]at hent;obtain⟨r,vs,T,h1,h2,h3⟩:=hent;have howned:σ.owned b r:=⟨by rw[he];trivial,h1⟩
 have hset:Ac (σ.mem.set b .gone) b=.gone:=by rw[B9 hlt,ah rfl]
 have hold:∀b' q,LW (Ac (σ.mem.set b .gone) b')->σ.E.β b'=some q->σ.owned b' q/\b'≠b:=fun b' q g1 g2=>by
  rw[B9 hlt]at g1;split at g1
  ·exact g1.elim
  ·rename_i hne;exact⟨⟨g1,g2⟩,hne⟩
 have hg:Goes σ ⟨σ.E,σ.mem.set b .gone,σ.w,fun q=>σ.S q∨q=r⟩:=by
  refine⟨fun r h=>.inl h,fun _ _=>rfl,by simp,fun b' hb'=>?_⟩;by_cases hbb:b'=b
  ·subst hbb;unfold BL;rw[he];exact .inr hset
  ·exact BL.refl (by simp only;rw[B9 hlt,ag hbb]) rfl rfl
 refine⟨⟨σ.E,σ.mem.set b .gone,σ.w,fun q=>σ.S q∨q=r⟩,r,vs,T,rfl,rfl,rfl,⟨ho.below,fun r h=>.inl (ho.stab0 r h),fun q h=>?_,fun b'=>?_,fun b' q h=>?_,fun b1 b2 q g1 g2=>?_⟩,hg,h1,.inr rfl,h2,h3⟩
 ·rcases h with h|rfl
  ·exact ho.stab q h
  ·have:=ho.own b q howned;exact⟨this.2.1,.inr this.1⟩
 ·by_cases hbb:b'=b
  ·subst hbb;unfold AE;simp only;rw[hset];trivial
  ·exact AE.keep hg (by simp only;rw[B9 hlt,ag hbb]) rfl rfl (fun _ _=>rfl) (ho.ent b')
 ·obtain⟨k1,k2⟩:=hold b' q h.1 h.2;have:=ho.own b' q k1;refine⟨this.1,this.2.1,fun hs=>?_⟩;rcases hs with hs|rfl
  ·exact this.2.2 hs
  ·exact k2 (ho.inj b' b q k1 howned)
 ·exact ho.inj b1 b2 q (hold b1 q g1.1 g1.2).1 (hold b2 q g2.1 g2.2).1
theorem aZx{σ:Sit}{cs:List SC}{n:Nat}(h:aDd cs=some n){vs:Array Value}(ha:All2 (Aw σ) cs vs.toList):vs[0]? = some (Pk n):=by
 have key:∀{c y},cs=[c]->Aw σ c y->vs.toList=[y]->y=Pk n->vs[0]? = some (Pk n):=fun {c y} _ _ hv hy=>by
  rw[←kx,hv,hy];rfl
 unfold aDd at h;split at h
 ·rename_i c;generalize hvs:vs.toList=l at ha;cases ha with
  |cons hc ht=>
   rename_i y l';cases ht;split at h
   ·cases h;refine key rfl hc hvs ?_;rename_i b;obtain⟨rfl,_⟩:=hc;cases b<;>rfl
   ·cases h;refine key rfl hc hvs ?_;obtain⟨_,_,h1⟩:=hc;rcases h1 with⟨p,hp,_⟩|⟨rs,h1,rfl⟩
    ·simp at hp
    ·simp[Pk]
   ·cases h;refine key rfl hc hvs ?_;obtain⟨ps,e,h1,_⟩:=hc;have:ps=[]:=co h1;subst this;simpa[Pk]using e
   ·cases h
 ·cases h
theorem aNe{base:Base}{S0:Nat->Prop}:∀{l:List (Nat×Nat)} {σ:Sit},Ok base S0 σ->∀{ns:List Nat} {m:Ae},JH σ.mem l=some (ns,m) ->
  (∀p∈l,∃cs,Ac σ.mem p.1=.raw cs)/\∃(σ':Sit) (rs:List Nat),σ'.mem=m/\σ'.w=σ.w/\σ'.E=σ.E/\Ok base S0 σ'/\Goes σ σ'/\l.map (fun p=>σ.E.β p.1)=rs.map some/\(l.zip rs).length=ns.length /\
   ∀(i n:Nat),ns[i]? = some n->∃(r:Nat) (vs:Array Value) (T:TypeId) (fz:Nat×Nat),((l.zip rs).map fun q=>jp (some ⟨q.2,q.1.2,none⟩))[i]? = some (jp (some ⟨r,0,none⟩))/\σ'.S r/\σ'.w.heap[r]? = some (Obj.cells vs T fz)/\vs[0]? = some (Pk n)
 | [],σ,ho,ns,m,h=>by
  simp only[JH]at h
  cases h
  exact⟨fun p hp=>by simp at hp,σ,[],rfl,rfl,rfl,ho,Goes.refl σ,rfl,rfl,fun i n hi=>by simp at hi⟩
 |(b,off+1)::l,σ,ho,ns,m,h=>by simp[JH]at h
 |(b,0)::l,σ,ho,ns,m,h=>by
  simp only[JH]at h
  split at h
  ·rename_i cs e
   split at h
   ·rename_i n ns' m' e1 e2
    cases h
    obtain⟨σ1,r,vs,T,a1,a2,a3,a4,a5,a6,a7,a8,a9⟩:=bAw ho e
    rw[←a1]at e2
    obtain⟨b1,σ2,rs,c1,c2,c3,c4,c5,c6,c7,c8⟩:=aNe a4 e2
    have hlt:b<σ.mem.length:=DP (by rw[e];simp)
    refine⟨fun p hp=>?_,σ2,r::rs,c1,c2.trans a2,c3.trans a3,c4,a5.trans c5,?_,?_,fun i n' hi=>?_⟩
    ·rcases dq.1 hp with rfl|hp
     ·exact⟨cs,e⟩
     ·obtain⟨cs',e'⟩:=b1 p hp
      rw[a1,B9 hlt]at e'
      split at e'
      ·cases e'
      ·exact⟨cs',e'⟩
    ·rw[a3]at c6
     simp only[List.map_cons,a6,c6]
    ·simp only[List.zip_cons_cons,cy,c7]
    ·cases i with
     |zero=>
      simp at hi
      subst hi
      exact⟨r,vs,T,(0,0),by simp,c5.stab r a7,by rw[c2,a2];exact a8,aZx e1 a9⟩
     |succ i=>
      obtain⟨r',vs',T',fz,k1,k2,k3,k4⟩:=c8 i n' (by simpa using hi)
      exact⟨r',vs',T',fz,by simpa using k1,k2,k3,k4⟩
   ·cases h
  ·cases h
theorem Va{base:Base}{S0:Nat->Prop}{σ:Sit}(ho:Ok base S0 σ){c c':SC}{mem':Ae}(h:Do σ.mem c=(c',mem')):
  ∃σ':Sit,σ'.mem=mem'/\σ'.w=σ.w/\σ'.E=σ.E/\Ok base S0 σ'/\Goes σ σ'/\∀y,Aw σ c y->Aw σ' c' y:=by
 have triv:∀{d:SC},(∀y,Aw σ c y->Aw σ d y)->(d,σ.mem)=(c',mem')->∃σ':Sit,σ'.mem=mem'/\σ'.w=σ.w/\σ'.E=σ.E/\Ok base S0 σ'/\Goes σ σ'/\∀y,Aw σ c y->Aw σ' c' y:=
  fun hd e=>by cases e;exact⟨σ,rfl,rfl,rfl,ho,Goes.refl σ,hd⟩
 cases c with
 |own b=>
  simp only[Do]at h;cases e:Ac σ.mem b with
  |gone=>rw[e]at h;exact triv (d:=.undef) (fun y hy=>hy.2.1) h
  |raw cs=>rw[e]at h;exact triv (d:=.undef) (fun y hy=>hy.2.1) h
  |itr str q=>rw[e]at h;exact triv (d:=.undef) (fun y hy=>hy.2.1) h
  |arr τ xs=>
   rw[e]at h;simp only at h;cases h;obtain⟨σ',h1,h2,h3,h4,h5⟩:=uD ho (.inl e);refine⟨σ',h1,h2,h3,h4,h5,fun y hy=>?_⟩;have:=h5.repC hy;obtain⟨_,_,h6⟩:=this;rw[h1,B9 (DP (by rw[e];simp)),ah rfl]at h6;exact h6
  |acc τ xs=>
   rw[e]at h;simp only at h;cases h;obtain⟨σ',h1,h2,h3,h4,h5⟩:=uD ho (.inr e);refine⟨σ',h1,h2,h3,h4,h5,fun y hy=>?_⟩;have:=h5.repC hy;obtain⟨_,_,h6⟩:=this;rw[h1,B9 (DP (by rw[e];simp)),ah rfl]at h6;exact h6
  |froz τ xs=>
   rw[e]at h;refine triv (fun y hy=>?_) h;obtain⟨_,_,h6⟩:=hy;rw[e]at h6;exact h6
 |undef=>exact triv (fun _ h=>h) h
 |v x=>exact triv (fun _ h=>h) h
 |fl k o=>exact triv (fun _ h=>h) h
 |sl τ xs=>exact triv (fun _ h=>h) h
 |ptr b off=>exact triv (fun _ h=>h) h
 |eptr b i off=>exact triv (fun _ h=>h) h
 |sub b lo n=>exact triv (fun _ h=>h) h
 |iptr τ x off=>exact triv (fun _ h=>h) h
 |gptr g=>exact triv (fun _ h=>h) h
 |fnv o=>exact triv (fun _ h=>h) h
 |ifv o=>exact triv (fun _ h=>h) h
 |cx k x y=>exact triv (fun _ h=>h) h
 |fn f caps=>
  cases caps with
  |nil=>exact triv (fun _ h=>h) h
  |cons p caps=>
   simp only[Do]at h;cases e:JH σ.mem (p::caps)with
   |none=>rw[e]at h;exact triv (d:=.fn f (p::caps)) (fun _ h=>h) h
   |some q=>
    obtain⟨ns,m⟩:=q;rw[e]at h;cases h;obtain⟨b1,σ',rs,c1,c2,c3,c4,c5,c6,c7,c8⟩:=aNe ho e;refine⟨σ',c1,c2,c3,c4,c5,fun y hy=>?_⟩;obtain⟨_,_,hy⟩:=hy;rcases hy with⟨p',hp',hq⟩|⟨rs',g1,rfl⟩
    ·obtain⟨cs,e'⟩:=b1 p' hp';rw[e']at hq;exact hq.elim
    ·have:rs'=rs:=by
      have h1:=g1.symm.trans c6;exact(List.map_inj_right fun _ _ h=>ky h).1 h1
     subst this;exact⟨_,rfl,by rw[List.length_map];exact c7,c8⟩
theorem gO{base:Base}{S0:Nat->Prop}:∀{cs:List SC} {σ:Sit},Ok base S0 σ->∀{cs':List SC} {mem':Ae},Fg σ.mem cs=(cs',mem') ->
  ∃σ':Sit,σ'.mem=mem'/\σ'.w=σ.w/\σ'.E=σ.E/\Ok base S0 σ'/\Goes σ σ'/\∀ys,All2 (Aw σ) cs ys->All2 (Aw σ') cs' ys
 | [],σ,ho,cs',mem',h=>by
  simp only[Fg]at h;cases h
  exact⟨σ,rfl,rfl,rfl,ho,Goes.refl σ,fun ys h=>by cases h;exact .nil⟩
 |c::cs,σ,ho,cs',mem',h=>by
  simp only[Fg]at h
  cases e1:Do σ.mem c with
  |mk c1 m1=>
   rw[e1]at h;simp only at h
   obtain⟨σ1,a1,a2,a3,a4,a5,a6⟩:=Va ho e1
   cases e2:Fg m1 cs with
   |mk c2 m2=>
    rw[e2]at h;simp only at h;cases h
    rw[←a1]at e2
    obtain⟨σ2,b1,b2,b3,b4,b5,b6⟩:=gO a4 e2
    refine⟨σ2,b1,b2.trans a2,b3.trans a3,b4,a5.trans b5,fun ys hy=>?_⟩
    cases hy with
    |cons h1 h2=>exact .cons (b5.repC (a6 _ h1)) (b6 _ (h2.mono fun _ _=>a5.repC))
theorem aOk{base:Base}{S0:Nat->Prop}{σ:Sit}(ho:Ok base S0 σ){x x':SV}{mem':Ae}(h:F9 σ.mem x=(x',mem')):
  ∃σ':Sit,σ'.mem=mem'/\σ'.w=σ.w/\σ'.E=σ.E/\Ok base S0 σ'/\Goes σ σ'/\∀y,Bv σ x y->Bv σ' x' y:=by
 cases x with
 |one c=>
  simp only[F9]at h;cases e1:Do σ.mem c with
  |mk c1 m1=>
   rw[e1]at h;simp only at h;cases h;obtain⟨σ1,a1,a2,a3,a4,a5,a6⟩:=Va ho e1;exact⟨σ1,a1,a2,a3,a4,a5,a6⟩
 |agg cs=>
  simp only[F9]at h;cases e1:Fg σ.mem cs with
  |mk c1 m1=>
   rw[e1]at h;simp only at h;cases h;obtain⟨σ1,a1,a2,a3,a4,a5,a6⟩:=gO ho e1;exact⟨σ1,a1,a2,a3,a4,a5,fun y ⟨ys,e,hy⟩=>⟨ys,e,a6 ys hy⟩⟩
def AI{α:Type}(f:Nat->α)(b:Nat)(x:α):Nat->α:=fun i=>if i=b then x else f i
def Sit.push(σ:Sit)(e:Blk)(o:Obj)(k:Nat):Sit:={E:={β:=AI σ.E.β σ.mem.length (some σ.w.heap.size),κ:=AI σ.E.κ σ.mem.length k},mem:=σ.mem++[e],w:=σ.w.alloc o,S:=σ.S}
def Sit.name(σ:Sit)(e:Blk):Sit:={E:={β:=AI σ.E.β σ.mem.length none,κ:=AI σ.E.κ σ.mem.length 0},mem:=σ.mem++[e],w:=σ.w,S:=σ.S}
theorem PF{w:World}{o:Obj}{r:Nat}(h:r<w.heap.size):(w.alloc o).heap[r]? = w.heap[r]?:=Below.heap_alloc w o r h
theorem WS{base:Base}{S0:Nat->Prop}{σ:Sit}(ho:Ok base S0 σ)(e:Blk)(o:Obj)(k:Nat):Goes σ (σ.push e o k):=by
 refine⟨fun _ h=>h,fun r hr=>PF (ho.stab r hr).1,by simp[Sit.push],fun b hb=>?_⟩;exact BL.refl (HV hb) (by simp[Sit.push,AI];omega) (by simp[Sit.push,AI];omega)
theorem uT(σ:Sit)(e:Blk):Goes σ (σ.name e):=by
 refine⟨fun _ h=>h,fun r hr=>rfl,by simp[Sit.name],fun b hb=>?_⟩;exact BL.refl (HV hb) (by simp[Sit.name,AI];omega) (by simp[Sit.name,AI];omega)
theorem ZX{base:Base}{S0:Nat->Prop}{σ:Sit}(ho:Ok base S0 σ)(e:Blk)(o:Obj)(k:Nat)(hat:AE (σ.push e o k) σ.mem.length):Ok base S0 (σ.push e o k):=by
 have hg:=WS ho e o k;have hlt:∀b,LW (Ac (σ.push e o k).mem b)->b≠σ.mem.length->LW (Ac σ.mem b)/\b<σ.mem.length:=fun b h hne=>by
  rcases bc b σ.mem.length with h' | h'
  ·simp only[Sit.push]at h;rw[HV h']at h;exact⟨h,h'⟩
  ·simp only[Sit.push]at h;rw[U0 (by omega)]at h;exact h.elim
 have hold:∀b r,(σ.push e o k).owned b r->b≠σ.mem.length->σ.owned b r:=fun b r h hne=>by
  obtain⟨h1,h2⟩:=h;obtain⟨h3,h4⟩:=hlt b h1 hne;exact⟨h3,by simpa[Sit.push,AI,hne]using h2⟩
 have hnew:∀r,(σ.push e o k).owned σ.mem.length r->r=σ.w.heap.size:=fun r h=>by
  have:=h.2;simp[Sit.push,AI]at this;omega
 refine⟨ho.below.alloc o,ho.stab0,fun r h=>?_,fun b=>?_,fun b r h=>?_,fun b b' r h h'=>?_⟩
 ·have:=ho.stab r h;exact⟨by simp only[Sit.push,il];omega,this.2⟩
 ·by_cases hb:b=σ.mem.length
  ·rw[hb];exact hat
  ·rcases bc b σ.mem.length with h' | h'
   ·refine AE.keep hg (HV h') (by simp[Sit.push,AI,hb]) (by simp[Sit.push,AI,hb]) (fun r hr=>PF (ho.own b r hr).2.1) (ho.ent b)
   ·unfold AE;simp only[Sit.push];rw[U0 (by omega)];trivial
 ·by_cases hb:b=σ.mem.length
  ·subst hb;rw[hnew r h];exact⟨.inl ho.below.size,by simp[Sit.push],fun hs=>absurd (ho.stab _ hs).1 (by omega)⟩
  ·have:=ho.own b r (hold b r h hb);exact⟨this.1,by simp only[Sit.push,il];omega,this.2.2⟩
 ·by_cases hb:b=σ.mem.length<;>by_cases hb':b'=σ.mem.length
  ·rw[hb,hb']
  ·subst hb;have h1:=hnew r h;have:=(ho.own b' r (hold b' r h' hb')).2.1;omega
  ·subst hb';have h1:=hnew r h';have:=(ho.own b r (hold b r h hb)).2.1;omega
  ·exact ho.inj b b' r (hold b r h hb) (hold b' r h' hb')
theorem aEk{base:Base}{S0:Nat->Prop}{σ:Sit}(ho:Ok base S0 σ)(τ:Shape):Ok base S0 (σ.name (.acc τ [])):=by
 have hg:=uT σ (.acc τ []);have hold:∀b r,(σ.name (.acc τ [])).owned b r->σ.owned b r:=fun b r h=>by
  obtain⟨h1,h2⟩:=h;by_cases hb:b=σ.mem.length
  ·subst hb;simp[Sit.name,AI]at h2
  ·rcases bc b σ.mem.length with h' | h'
   ·simp only[Sit.name]at h1;rw[HV h']at h1;exact⟨h1,by simpa[Sit.name,AI,hb]using h2⟩
   ·simp only[Sit.name]at h1;rw[U0 (by omega)]at h1;exact h1.elim
 refine⟨ho.below,ho.stab0,ho.stab,fun b=>?_,fun b r h=>ho.own b r (hold b r h),fun b b' r h h'=>ho.inj b b' r (hold b r h) (hold b' r h')⟩;by_cases hb:b=σ.mem.length
 ·subst hb;unfold AE;simp only[Sit.name];rw[Ex];simp[AI,BU]
 ·rcases bc b σ.mem.length with h' | h'
  ·exact AE.keep hg (HV h') (by simp[Sit.name,AI,hb]) (by simp[Sit.name,AI,hb]) (fun r hr=>rfl) (ho.ent b)
  ·unfold AE;simp only[Sit.name];rw[U0 (by omega)];trivial
def C7(w:World)(r:Nat)(o:Obj):World:={w with heap:=w.heap.setIfInBounds r o}
theorem PH{w:World}{r r':Nat}{o:Obj}(h:r'≠r):(C7 w r o).heap[r']? = w.heap[r']?:=by
 simp only[C7];rw[Array.getElem?_setIfInBounds_ne (fun e=>h e.symm)]
theorem Wy{w:World}{r:Nat}{o:Obj}(h:r<w.heap.size):(C7 w r o).heap[r]? = some o:=by
 simp only[C7];rw[Array.getElem?_setIfInBounds_self_of_lt h]
theorem i4{w:World}{r:Nat}{o:Obj}:(C7 w r o).heap.size=w.heap.size:=by simp[C7]
theorem bI4{w:World}{r:Nat}{o o':Obj}:C7 (C7 w r o) r o'=C7 w r o':=by
 simp only[C7];congr 1;exact Array.setIfInBounds_setIfInBounds ..
theorem bIa{w:World}{r i:Nat}{vs:Array Value}{T:TypeId}{fz:Nat×Nat}{v:Value}(h:w.heap[r]? = some (.cells vs T fz)):
  w.setCell ⟨r,i,none⟩ v=C7 w r (.cells (vs.setIfInBounds i v) T fz):=by
 have hlt:=(dx.1 h).1;have he:=(dx.1 h).2;simp only[World.setCell,C7];congr 1;apply rp
 ·simp
 ·intro j h1 h2;rw[Array.getElem_modify,nc (by simpa using h1)];by_cases hj:r=j
  ·subst hj;rw[ah rfl,ah rfl,he];rfl
  ·rw[ag hj,ag hj]
theorem tM{w:World}{r i:Nat}{vs:Array Value}{T:TypeId}{fz:Nat×Nat}(h:w.heap[r]? = some (.cells vs T fz)):w.cell? ⟨r,i,none⟩=vs[i]?:=by
 simp[World.cell?,h]
theorem bAx{w:World}{r i:Nat}{vs:Array Value}{T:TypeId}(h:w.heap[r]? = some (.cells vs T (0,0))):w.frozen? ⟨r,i,none⟩=false:=by
 simp[World.frozen?,h]
def CP(vs:Array Value):Nat->List Value->Array Value
 |_,[]=>vs
 |o,v::l=>CP (vs.setIfInBounds o v) (o+1) l
theorem iR:∀(l:List Value) (vs:Array Value) (o:Nat),(CP vs o l).size=vs.size
 | [],_,_=>rfl
 |_::l,vs,o=>by rw[CP,iR l];simp
theorem LA(r o n:Nat):(⟨r,o,none⟩:Addr).add n=⟨r,o+n,none⟩:=by
 unfold Addr.add;split
 ·rename_i h;subst h;rfl
 ·rfl
theorem bHd{P:Program}{w:World}{r i:Nat}{vs:Array Value}{T:TypeId}{v:Value}(h:w.heap[r]? = some (.cells vs T (0,0)))(hi:i<vs.size)(hv:scalar v):
  (store ⟨r,i,none⟩ v).run P w=.ok () (C7 w r (.cells (vs.setIfInBounds i v) T (0,0))):=by
 have hc:w.cell? ⟨r,i,none⟩=some vs[i]:=by rw[tM h];simp[hi]
 have hf:=bAx (i:=i) h;unfold store;cases v<;>first|exact hv.elim|(rw[←bIa h];simp[Sem.run,hc,hf])
theorem iZ{P:Program}{r o:Nat}{T:TypeId}:∀(l:List Value) (i:Nat) (w:World) (vs:Array Value),w.heap[r]? = some (.cells vs T (0,0)) ->
  o+i+l.length<=vs.size->(∀v∈l,scalar v)->(storeCells ⟨r,o,none⟩ l i).run P w=.ok () (C7 w r (.cells (CP vs (o+i) l) T (0,0)))
 | [],i,w,vs,h,_,_=>by
  have hlt:=(dx.1 h).1
  have he:=(dx.1 h).2
  have:C7 w r (.cells vs T (0,0))=w:=by
   unfold C7
   have:w.heap.setIfInBounds r (.cells vs T (0,0))=w.heap:=by
    apply rp
    ·simp
    ·intro j h1 h2
     rw[nc (by simpa using h1)]
     split
     ·rename_i hj;subst hj;exact he.symm
     ·rfl
   rw[this]
  simp[storeCells,CP,this]
 |v::l,i,w,vs,h,hsz,hv=>by
  have hlt:=(dx.1 h).1
  simp only[cy]at hsz
  simp only[storeCells,cz,LA]
  rw[bHd h (by omega) (hv v (by simp))]
  simp only[cd]
  rw[iZ l (i+1) _ (vs.setIfInBounds (o+i) v) (Wy hlt) (by simp;omega) (fun x hx=>hv x (by simp[hx])),bI4]
  rw[CP,io]
theorem bHb{P:Program}{w:World}{r o n:Nat}{vs:Array Value}{T:TypeId}{fz:Nat×Nat}(h:w.heap[r]? = some (.cells vs T fz))(hn:o+n<=vs.size):
  (loadCells ⟨r,o,none⟩ n).run P w=.ok ((vs.toList.drop o).take n).toArray w:=by
 have hl:((vs.toList.drop o).take n).length=n:=by simp;omega
 have:=run_loadCells_list (P:=P) (w:=w) ⟨r,o,none⟩ ((vs.toList.drop o).take n) (fun j v hj=>by
  rw[LA,tM h];have hj':=(bp.1 hj).1;rw[di (by omega),fe]at hj;simpa using hj)
 rw[hl]at this;exact this
def Sit.store(σ:Sit)(b r:Nat)(e:Blk)(vs:Array Value)(T:TypeId):Sit:={E:=σ.E,mem:=σ.mem.set b e,w:=C7 σ.w r (.cells vs T (0,0)),S:=σ.S}
theorem vY{base:Base}{S0:Nat->Prop}{σ:Sit}(ho:Ok base S0 σ){b r:Nat}(hb:σ.owned b r){e:Blk}{vs:Array Value}{T:TypeId}
  (hk:match Ac σ.mem b with
   |.raw _=>∃cs,e=.raw cs
   |.arr τ xs=>∃xs':List (Ab τ),e=.arr τ xs'/\xs'.length=xs.length
   |_=>False)
  (hat:Goes σ (σ.store b r e vs T)->AE (σ.store b r e vs T) b):Ok base S0 (σ.store b r e vs T)/\Goes σ (σ.store b r e vs T):=by
 have hlt:b<σ.mem.length:=DP (by intro h;have:=hb.1;rw[h]at this;exact this)
 have hrs:=ho.own b r hb
 have hoe:LW e:=by
  split at hk
  ·obtain⟨cs,rfl⟩:=hk;trivial
  ·obtain⟨xs,rfl,_⟩:=hk;trivial
  ·exact hk.elim
 have hg:Goes σ (σ.store b r e vs T):=by
  refine⟨fun _ h=>h,fun r' hr'=>PH (fun e=>hrs.2.2 (e▸hr')),by simp[Sit.store],fun b' hb'=>?_⟩
  by_cases hbb:b'=b
  ·subst hbb
   have hset:Ac (σ.store b' r e vs T).mem b'=e:=by simp only[Sit.store];rw[B9 hlt,ah rfl]
   unfold BL
   split at hk
   ·rename_i e1;rw[e1];obtain⟨cs,rfl⟩:=hk;exact .inl ⟨rfl,cs,hset⟩
   ·rename_i e1;rw[e1];obtain⟨xs,rfl,hl⟩:=hk;exact .inl ⟨rfl,rfl,xs,hset,hl⟩
   ·exact hk.elim
  ·exact BL.refl (by simp only[Sit.store];rw[B9 hlt,ag hbb]) rfl rfl
 have hold:∀b' r',(σ.store b r e vs T).owned b' r'->σ.owned b' r':=fun b' r' h=>by
  obtain⟨h1,h2⟩:=h
  simp only[Sit.store]at h1 h2
  rw[B9 hlt]at h1
  split at h1
  ·rename_i hbb;subst hbb;exact⟨hb.1,h2⟩
  ·exact⟨h1,h2⟩
 refine⟨⟨ho.below.step rfl rfl rfl (by simp[Sit.store,C7]) (fun k _ hn=>PH (fun e=>hn (e▸hrs.1))),ho.stab0,fun r' h=>?_,fun b'=>?_,fun b' r' h=>?_,fun b1 b2 r' h1 h2=>ho.inj b1 b2 r' (hold _ _ h1) (hold _ _ h2)⟩,hg⟩
 ·have:=ho.stab r' h;exact⟨by simp only[Sit.store,i4];exact this.1,this.2⟩
 ·by_cases hbb:b'=b
  ·subst hbb;exact hat hg
  ·refine AE.keep hg (by simp only[Sit.store];rw[B9 hlt,ag hbb]) rfl rfl (fun r' hr'=>PH (fun e=>hbb (ho.inj b' b r (e▸hr') hb))) (ho.ent b')
 ·have:=ho.own b' r' (hold _ _ h);exact⟨this.1,by simp only[Sit.store,i4];exact this.2.1,this.2.2⟩
end Vx
namespace Vx
open Go Go.RowKit
theorem aPL(k:IntKind):k.min<=0/\0<=k.max:=by cases k<;>decide
theorem bBW{k:IntKind}{n:Int}(h:u7 k n=true):k.min<=n/\n<=k.max:=by
 cases k<;>simp[u7]at h<;>simp[nd,mi,jr,ji]<;>omega
def Xi(σ:Sit)(a:Act)(cs:List (Nat×Nat×Bool×TV)):Prop:=∀d g p x,(d,g,p,x)∈cs->(a.tmps.getD g undef=.bool p->BB σ x (a.tmps.getD d undef))/\(a.tmps.getD g undef≠.bool p->a.tmps.getD d undef=undef)
structure RelT (σ:Sit) (s:St) (a:Act):Prop where
 size:a.tmps.size=s.n
 defers:a.defers=[]
 mem:σ.mem=s.mem
 tm:∀t,BB σ (Bt s.tm t) (a.tmps.getD t undef)
 cs:Xi σ a s.cs
def BH(a:Act)(ctx:List (Nat×Bool)):Prop:=∀t p,(t,p)∈ctx->a.tmps.getD t undef=.bool p
theorem Xi.tail{σ:Sit}{a:Act}{e:Nat×Nat×Bool×TV}{cs:List (Nat×Nat×Bool×TV)}(h:Xi σ a (e::cs)):Xi σ a cs:=
 fun d g p x hm=>h d g p x (fw _ hm)
theorem aOF:∀{l:List (Nat×Bool)} {g:Nat} {q:Bool},ZK l g q=true->(g,q)∈l
 | [],_,_,h=>by simp[ZK]at h
 |(t,p)::r,g,q,h=>by
  simp only[ZK,Bool.or_eq_true,ar]at h
  rcases h with⟨h1,h2⟩|h
  ·have:t=g:=av h1
   subst this
   have:p=q:=by cases p<;>cases q<;>simp_all [pb]
   subst this
   exact fx
  ·exact fw _ (aOF h)
theorem aOv:∀{cs:List (Nat×Nat×Bool×TV)} {t g:Nat} {p:Bool} {x:TV},gP cs t=some ((g,p),x)->(t,g,p,x)∈cs
 | [],_,_,_,_,h=>by simp[gP]at h
 |(d,g',p',x')::r,t,g,p,x,h=>by
  simp only[gP]at h
  cases hb:Nat.beq d t with
  |true=>
   rw[hb]at h;simp at h
   have:d=t:=av hb
   obtain⟨⟨rfl,rfl⟩,rfl⟩:=h
   subst this
   exact fx
  |false=>rw[hb]at h;exact fw _ (aOv h)
theorem aSZ(b:Bool):undef≠.bool b:=by unfold undef;intro h;cases h
theorem Yp{σ:Sit}{s:St}{a:Act}(ht:∀t,BB σ (Bt s.tm t) (a.tmps.getD t undef)):∀{cs:List (Nat×Nat×Bool×TV)},Xi σ a cs->∀{t:Nat} {p c:Bool},Po s.tm cs t p=some c ->
  (c=true↔a.tmps.getD t undef=.bool p)
 | [],_,t,p,c,h=>by
  simp only[Po]at h
  have:=ht t
  split at h
  ·rename_i b e
   cases h
   rw[e]at this
   obtain⟨h1,_⟩:=this
   rw[h1]
   cases p<;>cases b<;>simp[pb]
  ·cases h
 |(d,g,q,x)::r,hc,t,p,c,h=>by
  simp only[Po]at h
  cases hb:Nat.beq d t with
  |false=>rw[hb]at h;exact Yp ht hc.tail h
  |true=>
   rw[hb]at h
   have:d=t:=av hb
   subst this
   simp only[aa]at h
   split at h
   ·rename_i b
    split at h
    ·rename_i c' hc'
     cases h
     have ih:=Yp ht hc.tail hc'
     have hd:=hc d g q _ fx
     by_cases hg:a.tmps.getD g undef=.bool q
     ·have hc'':c'=true:=ih.2 hg
      obtain⟨h1,_⟩:=hd.1 hg
      rw[h1,hc'']
      cases p<;>cases b<;>simp[pb]
     ·have:c'=false:=by cases c' with|false=>rfl|true=>exact absurd (ih.1 rfl) hg
      rw[hd.2 hg,this]
      simp[aSZ]
    ·cases h
   ·cases h
theorem Wk{σ:Sit}{a:Act}:∀{cs:List (Nat×Nat×Bool×TV)},Xi σ a cs->∀{t:Nat} {p:Bool},a.tmps.getD t undef=.bool p->BH a (Ff cs t p)
 | [],_,t,p,h=>by
  intro t' p' hm
  simp only[Ff,List.mem_singleton,cr]at hm
  obtain⟨rfl,rfl⟩:=hm
  exact h
 |(d,g,q,x)::r,hc,t,p,h=>by
  simp only[Ff]
  cases hb:Nat.beq d t with
  |false=>exact Wk hc.tail h
  |true=>
   have:d=t:=av hb
   subst this
   have hd:=hc d g q _ fx
   have hg:a.tmps.getD g undef=.bool q:=by
    refine Classical.byContradiction fun hn=>?_
    rw[hd.2 hn]at h
    exact aSZ p h
   intro t' p' hm
   simp only[aa,dq,cr]at hm
   rcases hm with⟨rfl,rfl⟩|hm
   ·exact h
   ·exact Wk hc.tail hg t' p' hm
theorem aQT{σ:Sit}{v:Value}{c:SC}(h:Z4 v=some c):Aw σ c v:=by
 unfold Z4 at h;split at h
 ·cases h;exact⟨rfl,ak⟩
 ·rename_i k n;cases hb:u7 k n with
  |false=>rw[hb]at h;cases h
  |true=>rw[hb]at h;cases h;exact⟨rfl,bBW hb⟩
 ·rename_i b;cases hb:Nat.blt b 4294967296 with
  |false=>rw[hb]at h;cases h
  |true=>rw[hb]at h;cases h;exact⟨b,rfl,by simpa[G8]using hb,rfl⟩
 ·rename_i b;cases hb:Nat.blt b 18446744073709551616 with
  |false=>rw[hb]at h;cases h
  |true=>rw[hb]at h;cases h;exact⟨b,rfl,by simpa[G8]using hb,rfl⟩
 ·rename_i p q;obtain⟨hb,h⟩:=AK h;cases h;simp only[ar]at hb;exact⟨p,q,rfl,⟨p,rfl,by simpa[G8]using hb.1,rfl⟩,⟨q,rfl,by simpa[G8]using hb.2,rfl⟩⟩
 ·rename_i s;cases hb:Nat.blt s.size 9223372036854775808 with
  |false=>rw[hb]at h;cases h
  |true=>rw[hb]at h;cases h;exact⟨rfl,by simpa[BU,J4]using hb⟩
 ·cases h;exact⟨rfl,ak⟩
 ·cases h;exact⟨rfl,ak⟩
 ·cases h;exact⟨rfl,ak⟩
 ·cases h;exact⟨rfl,ak⟩
 ·rename_i f first captured
  split at h
  ·rename_i h1 h2;cases h;refine⟨by simp,ak,.inr ⟨[],rfl,?_⟩⟩;have e1:first=#[]:=gy.1 (h1.trans rfl)
   have e2:captured=#[]:=gy.1 (h2.trans rfl);rw[e1,e2];rfl
  ·cases h
 ·cases h
theorem aQV{σ:Sit}:∀{l:List Value} {cs:List SC},Vn l=some cs->All2 (Aw σ) cs l
 | [],_,h=>by simp[Vn]at h;subst h;exact .nil
 |v::r,_,h=>by
  simp only[Vn]at h
  split at h
  ·rename_i c cs h1 h2
   cases h
   exact .cons (aQT h1) (aQV h2)
  ·cases h
theorem aE4{σ:Sit}{v:Value}{x:SV}(h:i9 v=some x):Bv σ x v:=by
 unfold i9 at h;split at h
 ·rename_i cs;split at h
  ·rename_i l h1;cases h;exact⟨cs.toList,by simp,aQV h1⟩
  ·cases h
 ·split at h
  ·rename_i c h1;cases h;exact aQT h1
  ·cases h
theorem Wp{σ:Sit}{s:St}{a:Act}{ctx:List (Nat×Bool)}(hr:RelT σ s a)(hx:BH a ctx){x:Operand}{v:TV}(h:ev s ctx x=some v):BB σ v (a.eval x):=by
 cases x with
 |tmp t=>
  simp only[ev]at h;split at h
  ·rename_i g p y e;cases hb:ZK ctx g p with
   |false=>rw[hb]at h;cases h
   |true=>
    rw[hb]at h;cases h;exact(hr.cs _ _ _ _ (aOv e)).1 (hx _ _ (aOF hb))
  ·cases h;exact hr.tm t
 |const v=>
  simp only[ev]at h;split at h
  ·rename_i y e;cases h;exact aE4 e
  ·cases h
 |global g=>simp only[ev]at h;cases h;rfl
 |func f=>
  simp only[ev]at h;cases h;exact⟨by simp,ak,.inr ⟨[],rfl,rfl⟩⟩
theorem BJ{σ:Sit}{s:St}{a:Act}{ctx:List (Nat×Bool)}(hr:RelT σ s a)(hx:BH a ctx){x:Operand}{c:SC}(h:Bj s ctx x=some c):Aw σ c (a.eval x):=by
 unfold Bj at h;split at h
 ·rename_i c' e;cases h;exact Wp hr hx e
 ·cases h
theorem G7{σ:Sit}{s:St}{a:Act}{ctx:List (Nat×Bool)}(hr:RelT σ s a)(hx:BH a ctx){x:Operand}{c:SV}(h:EF s ctx x=some c):Bv σ c (a.eval x):=by
 unfold EF at h;split at h
 ·rename_i c' e;cases h;exact Wp hr hx e
 ·cases h
theorem U5{σ:Sit}{s:St}{a:Act}{ctx:List (Nat×Bool)}(hr:RelT σ s a)(hx:BH a ctx):∀{l:List Operand} {cs:List SV},Ei s ctx l=some cs->All2 (Bv σ) cs (l.map a.eval)
 | [],_,h=>by simp[Ei]at h;subst h;exact .nil
 |x::r,_,h=>by
  simp only[Ei]at h
  split at h
  ·rename_i v vs h1 h2
   cases h
   exact .cons (G7 hr hx h1) (U5 hr hx h2)
  ·cases h
theorem t8{σ:Sit}{s:St}{a:Act}{ctx:List (Nat×Bool)}(hr:RelT σ s a)(hx:BH a ctx):∀{l:List (Nat×Operand)} {cs:List (Nat×SV)},G6 s ctx l=some cs ->
  All2 (fun p q=>p.1=q.1/\Bv σ p.2 q.2) cs (l.map fun p=>(p.1,a.eval p.2))
 | [],_,h=>by simp[G6]at h;subst h;exact .nil
 |(i,x)::r,_,h=>by
  simp only[G6]at h
  split at h
  ·rename_i v vs h1 h2
   cases h
   exact .cons ⟨rfl,G7 hr hx h1⟩ (t8 hr hx h2)
  ·cases h
theorem PI{σ:Sit}{s:St}{a:Act}{ctx:List (Nat×Bool)}(hr:RelT σ s a)(hx:BH a ctx){x:Operand}{n:Int}(h:Fi s ctx x=some n):
  ∃k,a.eval x=.int k n/\k.min<=n/\n<=k.max:=by
 unfold Fi at h;split at h
 ·rename_i k m e;cases h;obtain⟨h1,h2⟩:=BJ hr hx e;exact⟨k,h1,h2⟩
 ·cases h
theorem Bv.cells{σ:Sit}{x:SV}{y:Value}(h:Bv σ x y):All2 (Aw σ) x.cells y.cells.toList:=by
 cases x with
 |one c=>
  have hs:=Aw.scalar h;have:y.cells=#[y]:=by cases y<;>first|rfl|exact hs.elim
  rw[this];exact .cons h .nil
 |agg cs=>
  obtain⟨ys,rfl,ha⟩:=h;simpa[Value.cells,SV.cells]using ha
theorem H9{σ:Sit}(k:IntKind)(n:Int):Aw σ (.v (.int k (k.wrap n))) (.int k (k.wrap n)):=⟨rfl,wrap_within k n⟩
theorem bId{k:IntKind}{x:Int}(h:k.min<=x/\x<=k.max)(n:Nat):k.min<=x.fdiv (2^n)/\x.fdiv (2^n)<=k.max:=by
 have hp:(0:Int)<2^n:=Int.pow_pos (by omega);have hm:=aPL k;rw[Int.fdiv_eq_ediv_of_nonneg _ (Int.le_of_lt hp)];refine⟨?_,?_⟩
 ·refine(Int.le_ediv_iff_mul_le hp).2 ?_;refine mm ?_ h.1;have:=Int.mul_le_mul_of_nonpos_left (a:=k.min) (b:=2^n) (c:=1) hm.1 (by omega);omega
 ·rcases oi 0 x with hx|hx
  ·exact mm (Int.ediv_le_self _ hx) h.2
  ·have:x/2^n<=0:=Int.ediv_nonpos_of_nonpos_of_neg hx hp;omega
theorem aSR{x:Int}(y:Int)(h:0<=x):x.tmod y<=x:=by
 have h1:=Int.natAbs_tmod x y;have h2:=Nat.mod_le x.natAbs y.natAbs;omega
theorem bIN{k:IntKind}{x y:Int}(h:k.min<=x/\x<=k.max):k.min<=x.tmod y/\x.tmod y<=k.max:=by
 have hm:=aPL k;rcases oi 0 x with hx|hx
 ·have h1:=qt y hx;have h2:x.tmod y<=x:=aSR _ hx;omega
 ·have h1:x.tmod y<=0:=by
   have:=qt y (a:=-x) (by omega);rw[re]at this;omega
  have h2:x<=x.tmod y:=by
   have:=aSR (x:=-x) y (by omega);rw[re]at this;omega
  omega
end Vx
namespace Vx
open Go Go.RowKit
theorem bHa{P:Program}{w:World}{op:BinOp}{T:TypeId}{X Y:Operand}{k k':IntKind}{a b:Int}{f:Unit->Sem Value}:
  (eqGuard op T X Y (.int k a) (.int k' b) >>= f).run P w=(f ()).run P w:=by
 cases op<;>rfl
theorem aQP{P:Program}{w:World}{op:BinOp}{T:TypeId}{X Y:Operand}{a b:Bool}{f:Unit->Sem Value}:
  (eqGuard op T X Y (.bool a) (.bool b) >>= f).run P w=(f ()).run P w:=by
 cases op<;>rfl
theorem aER{P:Program}{w:World}{op:BinOp}{T:TypeId}{X Y:Operand}{a b:ByteArray}{f:Unit->Sem Value}:
  (eqGuard op T X Y (.string a) (.string b) >>= f).run P w=(f ()).run P w:=by
 cases op<;>rfl
theorem iY{P:Program}{w:World}{op:BinOp}{T:TypeId}{X Y:Operand}{k k':FloatKind}{a b:Nat}{f:Unit->Sem Value}:
  (eqGuard op T X Y (.float k a) (.float k' b) >>= f).run P w=(f ()).run P w:=by
 cases op<;>rfl
theorem aQQ{P:Program}{w:World}{op:BinOp}{T:TypeId}{X Y:Operand}{k k':FloatKind}{a b a' b':Nat}{f:Unit->Sem Value}:
  (eqGuard op T X Y (.complex k a a') (.complex k' b b') >>= f).run P w=(f ()).run P w:=by
 cases op<;>rfl
theorem aQO{P:Program}{w:World}{T:TypeId}{a b:Bool}(h:P.underlying T=some .bool):(Op.equal T (.bool a) (.bool b)).run P w=.ok (a==b) w:=by
 unfold Op.equal Op.maxDepth Op.equalIn;simp[underlying,h]
theorem aYB{P:Program}{σ:Sit}{op:BinOp}{T:TypeId}{k k':IntKind}{x y:Int}{r:SC}{w:World}
  (hx:k.min<=x/\x<=k.max) (hy:k'.min<=y/\y<=k'.max) (h:UZ op (.v (.int k x)) (.v (.int k' y))=some (true,r)) :
  ∃v,(binOp op T (.int k x) (.int k' y)).run P w=.ok v w/\Aw σ r v:=by
 have hneg:(match k'.signed with|true=>decide (0<=y)|false=>true)=true->¬y<0:=fun hg=>by
  cases hs:k'.signed with
  |true=>rw[hs]at hg;simp at hg;omega
  |false=>
   have:k'.min=0:=by simp[nd,hs]
   omega
 by_cases hop:op=.shl
 ·subst hop;simp only[UZ,ap,cr]at h;obtain⟨h1,rfl⟩:=h;exact⟨_,by simp[binOp,Op.shift,hneg h1],H9 k _⟩
 by_cases hop':op=.shr
 ·subst hop';simp only[UZ,ap,cr]at h;obtain⟨h1,rfl⟩:=h;exact⟨_,by simp[binOp,Op.shift,hneg h1];rfl,rfl,bId hx _⟩
 by_cases hk:k'=k
 ·subst hk;cases op<;>simp only[UZ,ah,ap,cr,bne_iff_ne]at h;case shl=>exact absurd rfl hop
  case shr=>exact absurd rfl hop'
  case quo=>
   obtain⟨h1,rfl⟩:=h;exact⟨_,by simp[binOp,Op.intDiv,h1],H9 k' _⟩
  case rem=>
   obtain⟨h1,rfl⟩:=h;exact⟨_,by simp[binOp,Op.intDiv,h1],rfl,bIN hx⟩
  case add=>obtain⟨_,rfl⟩:=h;exact⟨_,by simp[binOp,Op.intArith],H9 k' _⟩
  case sub=>obtain⟨_,rfl⟩:=h;exact⟨_,by simp[binOp,Op.intArith],H9 k' _⟩
  case mul=>obtain⟨_,rfl⟩:=h;exact⟨_,by simp[binOp,Op.intArith],H9 k' _⟩
  case and=>obtain⟨_,rfl⟩:=h;exact⟨_,by simp[binOp,Op.intBits],H9 k' _⟩
  case or=>obtain⟨_,rfl⟩:=h;exact⟨_,by simp[binOp,Op.intBits],H9 k' _⟩
  case xor=>obtain⟨_,rfl⟩:=h;exact⟨_,by simp[binOp,Op.intBits],H9 k' _⟩
  case andNot=>obtain⟨_,rfl⟩:=h;exact⟨_,by simp[binOp,Op.intBits],H9 k' _⟩
  case eql=>obtain⟨_,rfl⟩:=h;exact⟨_,by simp[binOp,Op.intCmp],rfl,ak⟩
  case neq=>obtain⟨_,rfl⟩:=h;exact⟨_,by simp[binOp,Op.intCmp],rfl,ak⟩
  case lss=>obtain⟨_,rfl⟩:=h;exact⟨_,by simp[binOp,Op.intCmp],rfl,ak⟩
  case leq=>obtain⟨_,rfl⟩:=h;exact⟨_,by simp[binOp,Op.intCmp],rfl,ak⟩
  case gtr=>obtain⟨_,rfl⟩:=h;exact⟨_,by simp[binOp,Op.intCmp],rfl,ak⟩
  case geq=>obtain⟨_,rfl⟩:=h;exact⟨_,by simp[binOp,Op.intCmp],rfl,ak⟩
 ·cases op<;>simp[UZ,hk]at h<;>simp_all
theorem aAh(k:FloatKind)(neg:Bool){r:Nat}(h:r<k.format.signWeight):k.format.word neg r<2^G8 k:=by
 cases k
 ·have h:r<2147483648:=h;show(if neg=true then 2147483648+r else r)<4294967296;split<;>omega
 ·have h:r<9223372036854775808:=h;show(if neg=true then 9223372036854775808+r else r)<18446744073709551616;split<;>omega
theorem aOK(k:FloatKind)(n:Nat):k.format.infRung+n%k.format.binade<k.format.signWeight:=by
 cases k
 ·show 2139095040+n%8388608<2147483648;omega
 ·show 9218868437227405312+n%4503599627370496<9223372036854775808;omega
theorem bI2(k:FloatKind)(d:Ieee.Datum):k.format.write d<2^G8 k:=by
 have h0:=aOK k 0;rw[Nat.zero_mod,Nat.add_zero]at h0;cases d with
 |infinity s=>exact aAh k s h0
 |nan s t=>exact aAh k s (aOK k t)
 |number s m e=>
  show k.format.nearest s m e<_;unfold Ieee.Format.nearest;split
  ·exact aAh k s (by omega)
  ·exact aAh k s (Nat.lt_of_le_of_lt (Nat.min_le_right _ _) h0)
theorem bBI(k:FloatKind)(x y t:Nat):Hd k none (.float k ((Question.nanBits k x y).cut t)):=by
 refine⟨_,rfl,?_,?_⟩
 ·cases k
  ·show t%2*2147483648+2139095040+1+t/2%8388607<4294967296;omega
  ·show t%2*9223372036854775808+9218868437227405312+1+t/2%4503599627370495<18446744073709551616;omega
 ·cases k
  ·show(Ieee.single.read (t%2*2147483648+2139095040+1+t/2%8388607)).isNaN=true;unfold Ieee.Format.read;have e:(t%2*2147483648+2139095040+1+t/2%8388607)%Ieee.single.signWeight=2139095040+1+t/2%8388607:=by
    show(t%2*2147483648+2139095040+1+t/2%8388607)%2147483648=_;omega
   have h1:¬(2139095040+1+t/2%8388607<Ieee.single.binade):=by
    show ¬(2139095040+1+t/2%8388607<8388608);omega
   have h2:¬(2139095040+1+t/2%8388607<Ieee.single.infRung):=by
    show ¬(2139095040+1+t/2%8388607<2139095040);omega
   have h3:¬(2139095040+1+t/2%8388607=Ieee.single.infRung):=by
    show ¬(2139095040+1+t/2%8388607=2139095040);omega
   dsimp only;rw[e,ag h1,ag h2,ag h3];rfl
  ·show(Ieee.double.read (t%2*9223372036854775808+9218868437227405312+1+t/2%4503599627370495)).isNaN=true;unfold Ieee.Format.read;have e:(t%2*9223372036854775808+9218868437227405312+1+t/2%4503599627370495)%Ieee.double.signWeight=9218868437227405312+1+t/2%4503599627370495:=by
    show(t%2*9223372036854775808+9218868437227405312+1+t/2%4503599627370495)%9223372036854775808=_;omega
   have h1:¬(9218868437227405312+1+t/2%4503599627370495<Ieee.double.binade):=by
    show ¬(9218868437227405312+1+t/2%4503599627370495<4503599627370496);omega
   have h2:¬(9218868437227405312+1+t/2%4503599627370495<Ieee.double.infRung):=by
    show ¬(9218868437227405312+1+t/2%4503599627370495<9218868437227405312);omega
   have h3:¬(9218868437227405312+1+t/2%4503599627370495=Ieee.double.infRung):=by
    show ¬(9218868437227405312+1+t/2%4503599627370495=9218868437227405312);omega
   dsimp only;rw[e,ag h1,ag h2,ag h3];rfl
theorem aPP{d:Ieee.Datum}(h:d.isNaN=true):∃s t,d=.nan s t:=by
 cases d with
 |nan s t=>exact⟨s,t,rfl⟩
 |_=>cases h
def aD7:BinOp->Bool
 |.add|.sub|.mul|.quo=>true
 |_=>false
theorem aOh{op:BinOp}{k:FloatKind}{a b:Nat}(h:(k.format.read a).isNaN=true∨(k.format.read b).isNaN=true):CE op k a b=none:=by
 have key:k.format.add a b=none/\k.format.sub a b=none/\k.format.mul a b=none/\k.format.div a b=none:=by
  unfold Ieee.Format.add Ieee.Format.sub Ieee.Format.mul Ieee.Format.div;rcases h with h|h
  ·obtain⟨s,t,e⟩:=aPP h;rw[e];exact⟨rfl,rfl,rfl,rfl⟩
  ·obtain⟨s,t,e⟩:=aPP h;rw[e];cases k.format.read a<;>exact⟨rfl,rfl,rfl,rfl⟩
 unfold CE;split
 ·exact key.1
 ·exact key.2.1
 ·exact key.2.2.1
 ·exact key.2.2.2
theorem bAp{op:BinOp}{k:FloatKind}{a b r:Nat}(h:CE op k a b=some r):r<2^G8 k:=by
 have key:∀{o:Option Ieee.Datum},o.map k.format.write=some r->r<2^G8 k:=fun {o} h=>by
  cases o with
  |none=>cases h
  |some d=>cases h;exact bI2 k d
 unfold CE at h;split at h
 ·exact key h
 ·exact key h
 ·exact key h
 ·exact key h
theorem Pz{op:BinOp}{k:FloatKind}{x y:Option Nat}{a b:Nat}(h1:match x with|some b'=>a=b' | none=>(k.format.read a).isNaN=true)(h2:match y with|some b'=>b=b' | none=>(k.format.read b).isNaN=true):
  Ca op k x y=CE op k a b:=by
 cases x with
 |none=>rw[aOh (.inl h1)];rfl
 |some x=>
  cases y with
  |none=>rw[aOh (.inr h2)];rfl
  |some y=>simp only at h1 h2;subst h1;subst h2;rfl
theorem fJ{P:Program}{op:BinOp}{k:FloatKind}{a b:Nat}{w:World}(hop:aD7 op=true):
  ∃v n,(Op.floatArith op k a b).run P w=.ok v {w with drawn:=n}/\Hd k (CE op k a b) v:=by
 have key:∀o:Option Nat,(∀r,o=some r->r<2^G8 k)->∃v n,(match o with|some r=>pure (.float k r)|none=>(do pure (.float k (←choose (.nanBits k a b)))):Sem Value).run P w=.ok v {w with drawn:=n}/\Hd k o v:=by
  intro o ho;cases o with
  |some r=>exact⟨_,w.drawn,rfl,_,rfl,ho r rfl,rfl⟩
  |none=>exact⟨_,w.drawn+1,rfl,bBI k a b _⟩
 have hlt:∀r,CE op k a b=some r->r<2^G8 k:=fun r h=>bAp h;cases op<;>first|(cases hop;done)|exact key _ hlt
theorem aNy{P:Program}{op:BinOp}{k:FloatKind}{a b:Nat}{w:World}(hop:aD7 op=true):
  ∃r n,(Op.Complex.arith op k a b).run P w=.ok r {w with drawn:=n}/\Hd k (CE op k a b) (.float k r):=by
 obtain⟨v,n,g1,g2⟩:=fJ (P:=P) (op:=op) (k:=k) (a:=a) (b:=b) (w:=w) hop;obtain⟨r,rfl,g3⟩:=g2;refine⟨r,n,?_,r,rfl,g3⟩;unfold Op.Complex.arith;rw[cz,g1];rfl
theorem aNz{P:Program}{op:BinOp}{k:FloatKind}{a b a' b':Nat}{w:World}(hop:aD7 op=true)(o2:op=.add∨op=.sub):
  ∃r r' n,(Op.complexOp op k a a' b b').run P w=.ok (.complex k r r') {w with drawn:=n}/\Hd k (CE op k a b) (.float k r)/\Hd k (CE op k a' b') (.float k r'):=by
 obtain⟨r,n,g1,g2⟩:=aNy (P:=P) (op:=op) (k:=k) (a:=a) (b:=b) (w:=w) hop;obtain⟨r',n',g1',g2'⟩:=aNy (P:=P) (op:=op) (k:=k) (a:=a') (b:=b') (w:={w with drawn:=n}) hop;refine⟨r,r',n',?_,g2,g2'⟩;rcases o2 with rfl|rfl
 ·simp only[Op.complexOp,cz,g1,g1',cd,ej]
 ·simp only[Op.complexOp,cz,g1,g1',cd,ej]
theorem aYA{P:Program}{σ:Sit}{op:BinOp}{T:TypeId}{X Y:Operand}{c d r:SC}{y z:Value}{w:World}(hT:aD8 P T=true∨∀b,c≠.v (.bool b))
  (hc:Aw σ c y) (hd:Aw σ d z) (h:UZ op c d=some (true,r)) :
  ∃v n,(do eqGuard op T X Y y z;binOp op T y z:Sem Value).run P w=.ok v {w with drawn:=n}/\Aw σ r v:=by
 have plain:(∃v,(do eqGuard op T X Y y z;binOp op T y z:Sem Value).run P w=.ok v w/\Aw σ r v)->∃v n,(do eqGuard op T X Y y z;binOp op T y z:Sem Value).run P w=.ok v {w with drawn:=n}/\Aw σ r v:=
  fun⟨v,h1,h2⟩=>⟨v,w.drawn,h1,h2⟩
 unfold UZ at h;split at h
 ·rename_i k x k' y';obtain⟨rfl,hx⟩:=hc;obtain⟨rfl,hy⟩:=hd;obtain⟨v,h1,h2⟩:=aYB (P:=P) (σ:=σ) (T:=T) (w:=w) hx hy h;exact plain ⟨v,by rw[bHa];exact h1,h2⟩
 ·rename_i x y';obtain⟨rfl,_⟩:=hc;obtain⟨rfl,_⟩:=hd;have hT':P.underlying T=some .bool:=by
   rcases hT with h1|h1
   ·unfold aD8 at h1;split at h1
    ·assumption
    ·cases h1
   ·exact absurd rfl (h1 x)
  cases op<;>simp only[ap,cr,reduceCtorEq]at h;case eql=>obtain⟨_,rfl⟩:=h;exact plain ⟨_,by rw[aQP];simp only[binOp,cz,aQO hT',cd,ej],rfl,ak⟩
  case neq=>obtain⟨_,rfl⟩:=h;exact plain ⟨_,by rw[aQP];simp only[binOp,cz,aQO hT',cd,ej],rfl,ak⟩
 ·rename_i x y';obtain⟨rfl,_⟩:=hc;obtain⟨rfl,_⟩:=hd;cases op<;>simp only[ap,cr,reduceCtorEq]at h;case add=>
   obtain⟨hb,rfl⟩:=h;have h2:x.size+y'.size<9223372036854775808:=by simpa using hb
   refine plain ⟨.string (x++y'),?_,rfl,by simpa[J4,BU]using h2⟩;rw[aER];show(Op.stringOp .add x y').run P w=_;simp only[Op.stringOp];rw[ag (by simp only[mi,jr,ji];simp;omega)];rfl
  case eql=>obtain⟨_,rfl⟩:=h;exact plain ⟨_,by rw[aER];rfl,rfl,ak⟩
  case neq=>obtain⟨_,rfl⟩:=h;exact plain ⟨_,by rw[aER];rfl,rfl,ak⟩
 ·rename_i k x k' y';obtain⟨b1,rfl,_,h1⟩:=hc;obtain⟨b2,rfl,_,h2⟩:=hd;by_cases hk:k'=k
  ·subst hk;have ho:k'.format.order b1 b2=Dd k' x y':=by
    cases x with
    |none=>
     simp only[Dd];unfold Ieee.Format.order;cases hq:k'.format.read b1<;>rw[hq]at h1<;>first|(simp[Ieee.Datum.isNaN]at h1;done)|rfl
    |some x=>
     simp only at h1;subst h1;cases y' with
     |none=>
      simp only[Dd];unfold Ieee.Format.order;cases hq:k'.format.read b2<;>rw[hq]at h2<;>first|(simp[Ieee.Datum.isNaN]at h2;done)|(cases k'.format.read b1<;>rfl)
     |some y'=>simp only at h2;subst h2;rfl
   have hr:∀op',op'=op->(binOp op T (.float k' b1) (.float k' b2))=(match op' with|.add|.sub|.mul|.quo=>Op.floatArith op' k' b1 b2|_=>Op.floatCmp op' k' b1 b2):=fun op' e=>by
    subst e;cases op'<;>simp[binOp]
   cases op<;>simp only[ah,ap,cr,reduceCtorEq]at h;all_goals obtain⟨_,rfl⟩:=h
   case add=>obtain⟨v,n,g1,g2⟩:=fJ (P:=P) (op:=.add) (k:=k') (a:=b1) (b:=b2) (w:=w) rfl;exact⟨v,n,by rw[iY,hr _ rfl];exact g1,by rw[Pz h1 h2];exact g2⟩
   case sub=>obtain⟨v,n,g1,g2⟩:=fJ (P:=P) (op:=.sub) (k:=k') (a:=b1) (b:=b2) (w:=w) rfl;exact⟨v,n,by rw[iY,hr _ rfl];exact g1,by rw[Pz h1 h2];exact g2⟩
   case mul=>obtain⟨v,n,g1,g2⟩:=fJ (P:=P) (op:=.mul) (k:=k') (a:=b1) (b:=b2) (w:=w) rfl;exact⟨v,n,by rw[iY,hr _ rfl];exact g1,by rw[Pz h1 h2];exact g2⟩
   case quo=>obtain⟨v,n,g1,g2⟩:=fJ (P:=P) (op:=.quo) (k:=k') (a:=b1) (b:=b2) (w:=w) rfl;exact⟨v,n,by rw[iY,hr _ rfl];exact g1,by rw[Pz h1 h2];exact g2⟩
   all_goals refine plain ⟨_,by rw[iY,hr _ rfl];simp only[Op.floatCmp,ho];rfl,rfl,ak⟩
  ·rw[ag hk]at h;cases h
 ·rename_i k x x' k' y y';obtain⟨p1,q1,rfl,⟨_,e1,_,h1⟩,⟨_,e1',_,h1'⟩⟩:=hc;obtain⟨p2,q2,rfl,⟨_,e2,_,h2⟩,⟨_,e2',_,h2'⟩⟩:=hd;cases e1;cases e1';cases e2;cases e2';by_cases hk:k'=k
  ·subst hk;have hr:∀op',op'=op->(op'=.add∨op'=.sub)->binOp op T (.complex k' p1 q1) (.complex k' p2 q2)=Op.complexOp op' k' p1 q1 p2 q2:=fun op' e e2=>by
    subst e;rcases e2 with rfl|rfl<;>simp[binOp]
   cases op<;>simp only[ah,ap,cr,reduceCtorEq]at h;case add=>
    obtain⟨_,rfl⟩:=h;obtain⟨r,r',n,g1,g2,g3⟩:=aNz (P:=P) (op:=.add) (k:=k') (a:=p1) (b:=p2) (a':=q1) (b':=q2) (w:=w) rfl (.inl rfl);exact⟨_,n,by rw[aQQ,hr _ rfl (.inl rfl)];exact g1,r,r',rfl,by rw[Pz h1 h2];exact g2,by rw[Pz h1' h2'];exact g3⟩
   case sub=>
    obtain⟨_,rfl⟩:=h;obtain⟨r,r',n,g1,g2,g3⟩:=aNz (P:=P) (op:=.sub) (k:=k') (a:=p1) (b:=p2) (a':=q1) (b':=q2) (w:=w) rfl (.inr rfl);exact⟨_,n,by rw[aQQ,hr _ rfl (.inr rfl)];exact g1,r,r',rfl,by rw[Pz h1 h2];exact g2,by rw[Pz h1' h2'];exact g3⟩
  ·rw[ag hk]at h;cases h
 ·cases h
theorem bIT{P:Program}{σ:Sit}{op:UnOp}{c r:SC}{y:Value}{w:World}(hc:Aw σ c y)(h:unV op c=some r):
  ∃v,(Op.unary op y).run P w=.ok v w/\Aw σ r v:=by
 unfold unV at h;split at h
 ·obtain⟨rfl,hx⟩:=hc;split at h
  ·cases h;exact⟨_,by simp[Op.unary,Op.intArith],H9 _ _⟩
  ·cases h;exact⟨_,by simp[Op.unary,Op.intBits],H9 _ _⟩
  ·cases h
 ·obtain⟨rfl,hx⟩:=hc;split at h
  ·cases h;exact⟨_,by simp[Op.unary],rfl,ak⟩
  ·cases h
 ·cases h
theorem bC5{op:BinOp}{a b:SC}{r:Bool}(h:aEC op a b=some r):b=.v (.pointer none)/\((∃p o,a=.ptr p o)/\(op=.eql/\r=false∨op=.neq/\r=true)∨a=.v (.pointer none)/\(op=.eql/\r=true∨op=.neq/\r=false)):=by
 cases b with
 |v x=>
  cases x with
  |pointer q=>
   cases q with
   |none=>
    cases a with
    |ptr p o=>cases op<;>first|(cases h;done)|(cases h;exact⟨rfl,.inl ⟨⟨_,_,rfl⟩,by simp⟩⟩)
    |v u=>
     cases u with
     |pointer v=>
      cases v with
      |none=>cases op<;>first|(cases h;done)|(cases h;exact⟨rfl,.inr ⟨rfl,by simp⟩⟩)
      |some _=>cases h
     |_=>cases h
    |_=>cases h
   |some _=>cases h
  |_=>cases h
 |_=>cases h
theorem bG8{P:Program}{w:World}{T e:TypeId}(d:Nat)(p:Option Addr)(hT:P.underlying T=some (.pointer e)):(Op.equalIn (d+1) T (.pointer p) (.pointer none)).run P w=.ok p.isNone w:=by
 cases p with
 |none=>simp[Op.equalIn,underlying,hT]
 |some p=>simp[Op.equalIn,underlying,hT]
theorem bC6{P:Program}{σ:Sit}{w:World}{op:BinOp}{T e:TypeId}{X Y:Operand}{a b:SC}{y z:Value}{r:Bool}(hT:P.underlying T=some (.pointer e))(ha:Aw σ a y)(hb:Aw σ b z)(h:aEC op a b=some r):
  (do eqGuard op T X Y y z;binOp op T y z:Sem Value).run P w=.ok (.bool r) w:=by
 have key:∀(p:Option Addr),(Op.equal T (.pointer p) (.pointer none)).run P w=.ok p.isNone w:=fun p=>by
  unfold Op.equal Op.maxDepth;exact bG8 9999 p hT
 have h0:=bC5 h;clear h;obtain⟨rfl,h⟩:=h0;have hz:z=.pointer none:=hb.1;subst hz;rcases h with⟨⟨p,o,rfl⟩,h⟩|⟨rfl,h⟩
 ·obtain⟨_,⟨q,rfl⟩,_⟩:=ha;have:=key (some q);rcases h with⟨rfl,rfl⟩|⟨rfl,rfl⟩
  ·simp[eqGuard,binOp,this]
  ·simp[eqGuard,binOp,this]
 ·have hy:y=.pointer none:=ha.1;subst hy;have:=key none;rcases h with⟨rfl,rfl⟩|⟨rfl,rfl⟩
  ·simp[eqGuard,binOp,this]
  ·simp[eqGuard,binOp,this]
end Vx
namespace Vx
open Go Go.RowKit
theorem aE6:∀{n:Nat} {l r:List SC},H8 n l=some r->r=l.take n/\n<=l.length
 |0,l,r,h=>by simp[H8]at h;subst h;simp
 |n+1,[],r,h=>by simp[H8]at h
 |n+1,c::l,r,h=>by
  simp only[H8]at h
  split at h
  ·rename_i l' e
   cases h
   obtain⟨h1,h2⟩:=aE6 e
   exact⟨by simp[h1],by simp;omega⟩
  ·cases h
theorem gD:∀{n:Nat} {l:List SC},DD n l=l.drop n
 |0,l=>by simp[DD]
 |n+1,[]=>by simp[DD]
 |n+1,c::l=>by simp[DD,gD]
theorem ZL:∀{n:Nat} {l:List SC},Gc n l=true->l.length=n
 |0,[],_=>rfl
 |0,_::_,h=>by simp[Gc]at h
 |n+1,[],h=>by simp[Gc]at h
 |n+1,c::l,h=>by simp only[Gc]at h;simp[ZL h]
theorem All2.take{α β:Type}{R:α->β->Prop}:∀{as:List α} {bs:List β} (n:Nat),All2 R as bs->All2 R (as.take n) (bs.take n)
 |_,_,0,_=>by simp;exact .nil
 |_,_,n+1,.nil=>by simp;exact .nil
 |_,_,n+1,.cons h t=>by simpa using .cons h (t.take n)
theorem All2.drop{α β:Type}{R:α->β->Prop}:∀{as:List α} {bs:List β} (n:Nat),All2 R as bs->All2 R (as.drop n) (bs.drop n)
 |_,_,0,h=>by simpa using h
 |_,_,n+1,.nil=>by simp;exact .nil
 |_,_,n+1,.cons h t=>by simpa using t.drop n
theorem vX:∀{n:Nat} {new old r:List SC},splice n new old=some r->r=old.take n++new++old.drop (n+new.length)/\n+new.length<=old.length
 |0,[],old,r,h=>by simp[splice]at h;subst h;simp
 |0,_::_,[],r,h=>by simp[splice]at h
 |0,c::new,_::old,r,h=>by
  simp only[splice]at h
  split at h
  ·rename_i l e
   cases h
   obtain⟨h1,h2⟩:=vX e
   refine⟨?_,by simp;omega⟩
   simp at h1
   simp[h1]
  ·cases h
 |n+1,[],[],r,h=>by simp[splice]at h
 |n+1,_::_,[],r,h=>by simp[splice]at h
 |n+1,new,c::old,r,h=>by
  simp only[splice]at h
  split at h
  ·rename_i l e
   cases h
   obtain⟨h1,h2⟩:=vX e
   refine⟨?_,by simp;omega⟩
   rw[h1]
   simp[show n+1+new.length=(n+new.length)+1 by omega]
  ·cases h
theorem ZY:∀(l:List Value) (vs:Array Value) (o:Nat),o+l.length<=vs.size->(CP vs o l).toList=vs.toList.take o++l++vs.toList.drop (o+l.length)
 | [],vs,o,_=>by simp[CP]
 |v::l,vs,o,h=>by
  simp only[cy]at h
  rw[CP,ZY l _ (o+1) (by simp;omega)]
  simp only[Array.toList_setIfInBounds]
  have h1:(vs.toList.set o v).take (o+1)=vs.toList.take o++[v]:=by
   rw[List.take_set,List.take_succ_eq_append_getElem (by simp;omega)]
   rw[List.set_append_right _ _ (by simp;omega)]
   simp[Nat.min_eq_left (show o<=vs.size by omega)]
  have h2:(vs.toList.set o v).drop (o+1+l.length)=vs.toList.drop (o+(v::l).length):=by
   rw[List.drop_set_of_lt (by omega)]
   simp[show o+1+l.length=o+(l.length+1) by omega]
  rw[h1,h2]
  simp
theorem All2.splice{R:SC->Value->Prop}{n:Nat}{new old r:List SC}{vs:Array Value}{ys:List Value}(h:Vx.splice n new old=some r)(ho:All2 R old vs.toList)(hn:All2 R new ys):
  All2 R r (CP vs n ys).toList/\n+ys.length<=vs.size:=by
 obtain⟨h1,h2⟩:=vX h;have l1:=hn.length;have l2:=ho.length;have hle:n+ys.length<=vs.size:=by simp at l2;omega
 refine⟨?_,hle⟩;rw[ZY _ _ _ hle,h1,←l1];exact((ho.take n).append hn).append (ho.drop _)
theorem aOg:∀(l:List Value) (k:Nat) (cs:Array Value) (off:Nat),(l.zipIdx k).foldl (fun cs p=>cs.setIfInBounds (off+p.2) p.1) cs=CP cs (off+k) l
 | [],_,_,_=>rfl
 |v::l,k,cs,off=>by
  simp only[List.zipIdx_cons,List.foldl_cons,CP]
  rw[aOg l (k+1) _ off]
  rfl
theorem aDC{R:SC->Value->Prop}(AB:Nat->Option (Nat×Nat)):∀{ps:List (Nat×SV)} {qs:List (Nat×Value)} {old r:List SC} {vs:Array Value},JZ AB ps old=some r->All2 R old vs.toList ->
  All2 (fun p q=>p.1=q.1/\All2 R p.2.cells q.2.cells.toList) ps qs->∃vs',Instr.fill AB vs qs=some vs'/\All2 R r vs'.toList
 | [],_,old,r,vs,h,ho,.nil=>by
  simp only[JZ]at h;cases h
  exact⟨vs,rfl,ho⟩
 |(i,x)::ps,_,old,r,vs,h,ho,.cons (b:=(i',y)) hp ht=>by
  obtain⟨rfl,hp⟩:=hp
  simp only[JZ]at h
  cases hpl:AB i with
  |none=>rw[hpl]at h;cases h
  |some q=>
   obtain⟨off,size⟩:=q
   rw[hpl]at h
   simp only at h
   cases hl:Gc size x.cells with
   |false=>rw[hl]at h;cases h
   |true=>
    rw[hl]at h
    simp only[aa]at h
    split at h
    ·rename_i old' e
     have hx:=ZL hl
     have hle:=All2.length hp
     obtain⟨h1,h2⟩:=All2.splice e ho hp
     have hsz:y.cells.size=size:=by simp at hle;omega
     have hfold:y.cells.zipIdx.foldl (fun cs (c,j)=>cs.setIfInBounds (off+j) c) vs=CP vs off y.cells.toList:=by
      rw[←Array.foldl_toList,Array.toList_zipIdx]
      exact aOg y.cells.toList 0 vs off
     obtain⟨vs',h3,h4⟩:=aDC AB h h1 ht
     refine⟨vs',?_,h4⟩
     simp only[Instr.fill,hpl]
     rw[ag (by simp at h2;simp[hsz];omega)]
     rw[hfold]
     exact h3
    ·cases h
theorem jG{P:Program}{σ:Sit}{T:TypeId}{x:SV}(h:Gj P T=some x):∃z,Bv σ x z/\∀w,(zeroValue T).run P w=.ok z w:=by
 unfold Gj at h;split at h
 ·rename_i i e;split at h
  ·rename_i z e2;exact⟨z,aE4 h,fun w=>by simp[zeroValue,typeInfo,e,e2]⟩
  ·cases h
 ·cases h
theorem Cz{P:Program}{T:TypeId}{d:TypeDesc}(h:P.underlying T=some d)(w:World):(underlying T).run P w=.ok d w:=by
 simp[underlying,h]
theorem fD{P:Program}{T:TypeId}{b:Bool}(h:GZ P T=some b)(w:World):(isAgg T).run P w=.ok b w:=by
 unfold GZ at h;unfold isAgg;split at h
 ·rename_i e;cases h;simp[underlying,e]
 ·rename_i e;cases h;simp[underlying,e]
 ·rename_i d e1 e2 e3;cases h;simp only[cz,Cz e3,cd];cases d<;>first|rfl|exact absurd e3 (e1 _)|exact absurd e3 (e2 _ _)
 ·cases h
theorem Fk{P:Program}{T:TypeId}{w:World}(h:∃i,P.info? T=some i):(oj T).run P w=.ok (P.cellsOf T) w:=by
 obtain⟨i,h⟩:=h;simp[oj,typeInfo,h,kz]
theorem iC{P:Program}{T:TypeId}{d:TypeDesc}(h:P.underlying T=some d):∃i,P.info? T=some i:=by
 unfold Program.underlying at h;cases e:P.info? T with
 |some i=>exact⟨i,rfl⟩
 |none=>rw[e]at h;cases h
theorem aL5{P:Program}{T:TypeId}{b:Bool}(h:GZ P T=some b):∃d,P.underlying T=some d:=by
 unfold GZ at h;split at h
 ·exact⟨_,by assumption⟩
 ·exact⟨_,by assumption⟩
 ·exact⟨_,by assumption⟩
 ·cases h
def aAs(σ:Sit)(cs:List SC)(off:Nat)(y:Value):Prop:=∃r o vs T fz ds,y=.pointer (some ⟨r,o+off,none⟩)/\σ.w.heap[r]? = some (.cells vs T fz)/\All2 (Aw σ) cs ds/\∀(j:Nat) (d:Value),ds[j]? = some d->vs[o+j]? = some d
theorem fZ{base:Base}{S0:Nat->Prop}{σ:Sit}(ho:Ok base S0 σ){c:SC}{y:Value}{cs:List SC}{off:Nat}(hc:Aw σ c y)(h:Pl σ.mem c=some (cs,off)):aAs σ cs off y:=by
 unfold Pl at h;split at h
 ·rename_i b off';split at h
  ·rename_i cs' e;cases h;obtain⟨_,_,hm⟩:=hc;rw[e]at hm;obtain⟨r,hr,rfl⟩:=hm;have he:=ho.ent b;unfold AE at he;rw[e]at he;obtain⟨r',vs,T,h1,h2,h3⟩:=he;rw[hr]at h1;cases h1;exact⟨r,0,vs,T,(0,0),vs.toList,by simp,h2,h3,fun j d hj=>by simpa using hj⟩
  ·cases h
 ·rename_i b i off';split at h
  ·rename_i τ xs e;cases h;obtain⟨_,_,hm⟩:=hc;rw[e]at hm;obtain⟨hi,r,hr,rfl⟩:=hm;obtain⟨_,_,vs,T,h2,h3,h4⟩:=sX (ho.ent b) e hr;have hx:xs[i]? = some (xs.getD i τ.dflt):=by
    rw[aw,bw hi];rfl
   obtain⟨ds,d1,d2⟩:=h4 i _ hx;exact⟨r,i*τ.width,vs,T,(0,0),ds,rfl,h2,LG d1,fun j d hj=>by simpa using d2 j d hj⟩
  ·cases h
 ·rename_i τ x off';cases h;obtain⟨r,o,vs,T,fz,ds,rfl,_,h2,h3,h4⟩:=hc;exact⟨r,o,vs,T,fz,ds,rfl,h2,LG h3,h4⟩
 ·cases h
theorem aOX{P:Program}{σ:Sit}{T:TypeId}{cs l:List SC}{off:Nat}{y:Value}(hl:aAs σ cs off y)(hT:GZ P T=some true)(h:H8 (P.cellsOf T) (DD off cs)=some l):
  ∃v,(Instr.loadAt T y).run P σ.w=.ok v σ.w/\Bv σ (.agg l) v:=by
 obtain⟨r,o,vs,T',fz,ds,rfl,h2,h3,h4⟩:=hl;obtain⟨h5,h6⟩:=aE6 h;rw[gD]at h5 h6;have hlen:=h3.length;have hn:P.cellsOf T<=(ds.drop off).length:=by simp at h6⊢;omega
 have hcells:=run_loadCells_list (P:=P) (w:=σ.w) ⟨r,o+off,none⟩ ((ds.drop off).take (P.cellsOf T)) (fun j v hj=>by
  rw[LA,tM h2];have hj':=(bp.1 hj).1;rw[di (by simp at hj';omega),fe]at hj;rw[io];exact h4 _ _ hj)
 rw[show((ds.drop off).take (P.cellsOf T)).length=P.cellsOf T by rw[List.length_take];omega]at hcells;refine⟨.agg ((ds.drop off).take (P.cellsOf T)).toArray,?_,⟨_,rfl,?_⟩⟩
 ·unfold Instr.loadAt loadVar Instr.sureAddr;obtain⟨d,hd⟩:=aL5 hT;simp[fD hT,Fk (iC hd),hcells]
 ·rw[h5];exact(h3.drop off).take _
theorem aOY{P:Program}{σ:Sit}{T:TypeId}{cs l:List SC}{c:SC}{off:Nat}{y:Value}(hl:aAs σ cs off y)(hT:GZ P T=some false)(h:DD off cs=c::l):
  ∃v,(Instr.loadAt T y).run P σ.w=.ok v σ.w/\Aw σ c v:=by
 obtain⟨r,o,vs,T',fz,ds,rfl,h2,h3,h4⟩:=hl;rw[gD]at h;have hc:cs[off]? = some c:=by
  have:=congrArg (fun l=>l[0]?) h;simpa using this
 obtain⟨v,hv,hR⟩:=h3.get hc;refine⟨v,?_,hR⟩;unfold Instr.loadAt loadVar Instr.sureAddr;have:σ.w.cell? ⟨r,o+off,none⟩=some v:=by rw[tM h2];exact h4 off v hv
 simp[fD hT,this]
theorem aEw{P:Program}{T:TypeId}{cs l:List SC}{σ:Sit}{ys:List Value}{d:Nat}(ha:All2 (Aw σ) cs ys)(hT:GZ P T=some true)(h:H8 (P.cellsOf T) (DD d cs)=some l)(w:World):
  ∃v,(part T ys.toArray d).run P w=.ok v w/\Bv σ (.agg l) v:=by
 obtain⟨h5,h6⟩:=aE6 h;rw[gD]at h5 h6;obtain⟨dd,hd⟩:=aL5 hT;refine⟨.agg (ys.toArray.extract d (d+P.cellsOf T)),?_,⟨(ys.drop d).take (P.cellsOf T),?_,?_⟩⟩
 ·unfold part;simp[fD hT,Fk (iC hd)]
 ·simp
 ·rw[h5];exact(ha.drop d).take _
theorem aEx{P:Program}{T:TypeId}{cs l:List SC}{c:SC}{σ:Sit}{ys:List Value}{d:Nat}(ha:All2 (Aw σ) cs ys)(hT:GZ P T=some false)(h:DD d cs=c::l)(w:World):
  ∃v,(part T ys.toArray d).run P w=.ok v w/\Aw σ c v:=by
 rw[gD]at h;have hc:cs[d]? = some c:=by
  have:=congrArg (fun l=>l[0]?) h;simpa using this
 obtain⟨v,hv,hR⟩:=ha.get hc;refine⟨v,?_,hR⟩;unfold part;simp[fD hT,hv]
theorem aZ9{P:Program}{σ:Sit}{w:World}{d:Nat}{T:TypeId}{a b:SC}{u v:Value}{x:Bool}(ha:Aw σ a u)(hb:Aw σ b v)(e1:aDz P T a b=some x):(Op.equalIn (d+1) T u v).run P w=.ok x w:=by
 unfold aDz at e1;split at e1
 ·split at e1
  ·rename_i e;split at e1
   ·rename_i hk;subst hk;cases e1;obtain⟨rfl,_⟩:=ha;obtain⟨rfl,_⟩:=hb;exact run_equalIn_int w d _ _ _ _ _ e
   ·cases e1
  ·cases e1
 ·split at e1
  ·rename_i e;cases e1;obtain⟨rfl,_⟩:=ha;obtain⟨rfl,_⟩:=hb;exact run_equalIn_bool' w d _ _ _ e
  ·cases e1
 ·cases e1
theorem aDA{P:Program}{σ:Sit}{w:World}:∀(k d:Nat) (fs:List Field) {as bs:List SC} {xs ys:List Value} {r:Bool},
  All2 (Aw σ) as xs->All2 (Aw σ) bs ys->Pt P k fs as bs=some r->(Op.eqFields (d+k) xs.toArray ys.toArray fs).run P w=.ok r w
 |0,_,_,_,_,_,_,_,_,_,h=>by simp[Pt]at h
 |k+1,d,[],_,_,_,_,_,_,_,h=>by simp only[Pt]at h;cases h;simp[Op.eqFields]
 |k+1,d,f::fs,as,bs,xs,ys,r,ha,hb,h=>by
  simp only[Pt]at h
  obtain⟨h2,h⟩:=AK h
  simp only[bne_iff_ne]at h2
  split at h
  ·rename_i x r' e1 e2
   have ih:=aDA (w:=w) k (d+1) fs ha hb e2
   rw[show d+1+k=d+(k+1) by omega]at ih
   have key:∃u v,(part f.type xs.toArray f.offset).run P w=.ok u w/\(part f.type ys.toArray f.offset).run P w=.ok v w/\(Op.equalIn (d+(k+1)) f.type u v).run P w=.ok x w:=by
    split at e1
    ·rename_i hT
     split at e1
     ·rename_i gs hu
      cases hs:P.stoodInHeld f.type with
      |true=>rw[hs]at e1;cases e1
      |false=>
       rw[hs]at e1
       simp only[ab]at e1
       split at e1
       ·rename_i a b ea eb
        obtain⟨u,p1,q1⟩:=aEw ha hT ea w
        obtain⟨v,p2,q2⟩:=aEw hb hT eb w
        refine⟨u,v,p1,p2,?_⟩
        obtain⟨us,rfl,q1⟩:=q1
        obtain⟨vs,rfl,q2⟩:=q2
        have hf:P.fieldsOf f.type=gs:=by simp[oe,hu]
        rw[show d+(k+1)=d+k+1 by omega,run_equalIn_struct w (d+k) _ _ _ (by rw[hf];exact hu) hs,hf]
        exact aDA k d gs.toList q1 q2 e1
       ·cases e1
     ·cases e1
    ·rename_i hT
     split at e1
     ·rename_i a _ b _ ea eb
      obtain⟨u,p1,q1⟩:=aEx ha hT ea w
      obtain⟨v,p2,q2⟩:=aEx hb hT eb w
      exact⟨u,v,p1,p2,aZ9 (d:=d+k) q1 q2 e1⟩
     ·cases e1
    ·cases e1
   obtain⟨u,v,p1,p2,p3⟩:=key
   have hr:r=(x&&r'):=by
    cases fs with
    |nil=>
     simp only at h;cases h
     cases k<;>simp[Pt]at e2
     subst e2;simp
    |cons _ _=>simp only at h;cases h;rfl
   simp only[Op.eqFields,ah h2,cz,p1,p2,cd,p3]
   rw[hr]
   cases x
   ·simp
   ·simpa using ih
  ·cases h
theorem aNR{P:Program}{σ:Sit}{w:World}{T:TypeId}{X Y:Operand}{fs:Array Field}{a b:List SC}{y z:Value}{r:Bool}(hT:P.underlying T=some (.struct fs))
  (h1:P.eqGuardType P.depth T=false) (h2:P.stoodInHeld T=false) (ha:Bv σ (.agg a) y) (hb:Bv σ (.agg b) z) (h:Pt P 40 fs.toList a b=some r) :
  (do eqGuard .eql T X Y y z;binOp .eql T y z:Sem Value).run P w=.ok (.bool r) w/\(do eqGuard .neq T X Y y z;binOp .neq T y z:Sem Value).run P w=.ok (.bool !r) w:=by
 obtain⟨xs,rfl,ha⟩:=ha;obtain⟨ys,rfl,hb⟩:=hb;have he:(Op.equal T (.agg xs.toArray) (.agg ys.toArray)).run P w=.ok r w:=by
  unfold Op.equal Op.maxDepth;rw[run_equalIn_struct w 9999 T _ _ (by simp[oe,hT]) h2];have hf:P.fieldsOf T=fs:=by simp[oe,hT]
  rw[hf];exact aDA 40 9959 fs.toList ha hb h
 constructor
 ·simp[eqGuard,binOp,h1,he]
 ·simp[eqGuard,binOp,h1,he]
end Vx
namespace Vx
open Go Go.RowKit
def HQ:Blk->Prop
 |.acc _ _=>True
 |_=>False
structure Moves (f:SC->SC) (σ σ':Sit):Prop where
 stab:∀r,σ.S r->σ'.S r
 heap:∀r,σ.S r->σ'.w.heap[r]? = σ.w.heap[r]?
 rep:∀c y,Aw σ c y->Aw σ' (f c) y
 len:σ.mem.length<=σ'.mem.length
 noacc:∀b,b<σ.mem.length->HQ (Ac σ'.mem b)->HQ (Ac σ.mem b)
theorem Goes.noacc{σ σ':Sit}(h:Goes σ σ')(b:Nat)(hb:b<σ.mem.length)(ha:HQ (Ac σ'.mem b)):HQ (Ac σ.mem b):=by
 have ht:=h.turns b hb;unfold BL at ht;cases e:Ac σ.mem b with
 |gone=>rw[e]at ht;simp only at ht;rw[ht]at ha;exact ha
 |raw cs=>rw[e]at ht;rcases ht with⟨_,cs',h2⟩|h2<;>(rw[h2]at ha;exact ha)
 |arr τ xs=>
  rw[e]at ht;rcases ht with⟨_,_,xs',h2,_⟩|⟨xs',h2,_⟩|h2
  ·rw[h2]at ha;exact ha
  ·rw[h2]at ha;exact ha
  ·rw[h2]at ha;exact ha
 |acc τ xs=>trivial
 |froz τ xs=>rw[e]at ht;simp only at ht;rw[ht]at ha;exact ha
 |itr s p=>rw[e]at ht;rcases ht with⟨_,_,_,h2⟩|h2<;>(rw[h2]at ha;exact ha)
theorem Goes.moves{σ σ':Sit}(h:Goes σ σ'):Moves id σ σ':=⟨h.stab,h.heap,fun _ _=>h.repC,h.len,h.noacc⟩
def BQ(C:Cfg)(base:Base)(S0:Nat->Prop)(f:SC->SC)(σ:Sit)(a:Act)(o:Oper)(x:TV)(mem':Ae):Prop:=∀(K:Act->World->Prop) (Q:Exit->Act->World->Prop),(∀(v:Value) (σ':Sit),Ok base S0 σ'->Moves f σ σ'->σ'.mem=mem'->BB σ' x v->K (a.put o.dst v) σ'.w)->o.wp C.P a σ.w K Q
theorem AY{C:Cfg}{base:Base}{S0:Nat->Prop}{f:SC->SC}{σ σ':Sit}{a:Act}{o:Oper}{x:TV}{mem':Ae}{v:Value}
  (hex:(execOp a.eval o).run C.P σ.w=.ok (.value v) σ'.w) (ho:Ok base S0 σ') (hm:Moves f σ σ') (hmem:σ'.mem=mem') (hr:BB σ' x v):BQ C base S0 f σ a o x mem':=by
 intro K Q hK;unfold Oper.wp;rw[hex];exact hK v σ' ho hm hmem hr
theorem aOB{C:Cfg}{base:Base}{S0:Nat->Prop}{f:SC->SC}{σ σ':Sit}{a:Act}{o:Oper}{x:TV}{mem':Ae}
  (hex:(execOp a.eval o).run C.P σ.w=.ok .skip σ'.w) (ho:Ok base S0 σ') (hm:Moves f σ σ') (hmem:σ'.mem=mem') (hr:BB σ' x undef):BQ C base S0 f σ a o x mem':=by
 intro K Q hK;unfold Oper.wp;rw[hex];exact hK undef σ' ho hm hmem hr
theorem BO{P:Program}{s:Sem Value}{w w':World}{v:Value}(h:s.run P w=.ok v w'):(do pure (Next.value (←s)):Sem Next).run P w=.ok (.value v) w':=by
 simp[h]
variable {C:Cfg}{base:Base}{S0:Nat->Prop}{σ:Sit}{s:St}{a:Act}{ctx:List (Nat×Bool)}{o:Oper}
theorem bCI(hr:RelT σ s a)(hx:BH a ctx){t:Nat}{A B:Operand}{cb x y:Bool}(hc:Bj s ctx (.tmp t)=some (.v (.bool cb)))(hA:Bj s ((t,true)::ctx) A=some (.v (.bool x)))
  (hB:Bj s ((t,false)::ctx) B=some (.v (.bool y))):a.eval (.tmp t)=.bool cb/\(if cb then a.eval A else a.eval B)=.bool (bif cb then x else y):=by
 have h1:a.eval (.tmp t)=.bool cb:=(BJ hr hx hc).1;refine⟨h1,?_⟩;have hctx:∀b,cb=b->BH a ((t,b)::ctx):=fun b hb t' p hm=>by
  rcases dq.1 hm with h|h
  ·cases h;rw[←hb];exact h1
  ·exact hx t' p h
 cases cb with
 |true=>exact(BJ hr (hctx true rfl) hA).1
 |false=>exact(BJ hr (hctx false rfl) hB).1
theorem PG{w:World}{o:Obj}:(w.alloc o).heap[w.heap.size]? = some o:=by
 show(w.heap.push o)[w.heap.size]? = _;simp
theorem aQw(ho:Ok base S0 σ){T:TypeId}{x:SV}{z:Value}(hz:Bv σ x z):Ok base S0 (σ.push (.raw x.cells) (.cells z.cells T) 0)/\Goes σ (σ.push (.raw x.cells) (.cells z.cells T) 0) /\
  Aw (σ.push (.raw x.cells) (.cells z.cells T) 0) (.ptr σ.mem.length 0) (.pointer (some ⟨σ.w.heap.size,0,none⟩)):=by
 have hg:=WS ho (.raw x.cells) (.cells z.cells T) 0;have hblk:Ac (σ.push (.raw x.cells) (.cells z.cells T) 0).mem σ.mem.length=.raw x.cells:=Ex;have hheap:(σ.push (.raw x.cells) (.cells z.cells T) 0).w.heap[σ.w.heap.size]? = some (.cells z.cells T (0,0)):=PG;refine⟨ZX ho _ _ _ ?_,hg,?_⟩
 ·unfold AE;rw[hblk];exact⟨σ.w.heap.size,z.cells,T,by simp[Sit.push,AI],hheap,hz.cells.mono fun _ _=>hg.repC⟩
 ·refine⟨by simp[Sit.push],⟨_,rfl⟩,?_⟩;rw[hblk];exact⟨σ.w.heap.size,by simp[Sit.push,AI],rfl⟩
theorem aCK(ho:Ok base S0 σ){T:TypeId}{τ:Shape}{xs:List (Ab τ)}{vs:Array Value}{k:Nat}(hk:xs.length<=k)(hl:k<BU)(hsz:vs.size=k*τ.width)(hrow:Rows σ.w σ.S τ vs 0 xs):
  Ok base S0 (σ.push (.arr τ xs) (.cells vs T) k)/\Goes σ (σ.push (.arr τ xs) (.cells vs T) k)/\Ac (σ.push (.arr τ xs) (.cells vs T) k).mem σ.mem.length=.arr τ xs /\
  (σ.push (.arr τ xs) (.cells vs T) k).E.β σ.mem.length=some σ.w.heap.size/\(σ.push (.arr τ xs) (.cells vs T) k).E.κ σ.mem.length=k:=by
 have hg:=WS ho (.arr τ xs) (.cells vs T) k;have hblk:Ac (σ.push (.arr τ xs) (.cells vs T) k).mem σ.mem.length=.arr τ xs:=Ex;have hheap:(σ.push (.arr τ xs) (.cells vs T) k).w.heap[σ.w.heap.size]? = some (.cells vs T (0,0)):=PG;have hκ:(σ.push (.arr τ xs) (.cells vs T) k).E.κ σ.mem.length=k:=by simp[Sit.push,AI]
 refine⟨ZX ho _ _ _ ?_,hg,hblk,by simp[Sit.push,AI],hκ⟩;unfold AE;rw[hblk];exact⟨by rw[hκ];exact hk,by rw[hκ];exact hl,.inr ⟨σ.w.heap.size,vs,T,by simp[Sit.push,AI],hheap,by rw[hκ];exact hsz,hrow.mono hg.stab hg.heap⟩⟩
theorem aES{P:Program}{T:TypeId}{z:Value}{w:World}:(newVar T z).run P w=.ok ⟨w.heap.size,0,none⟩ (w.alloc (.cells z.cells T)):=by
 simp[newVar,newRow]
theorem aCO:(1048576:Nat)<BU:=by unfold BU;omega
theorem aEg{τ:Shape}{n:Nat}{cs:List SC}{xs:List (Ab τ)}(h:JQ τ n cs=some xs):WN τ n cs=some xs/\n<=1048576:=by
 unfold JQ at h;cases hb:Nat.ble n 1048576 with
 |false=>rw[hb]at h;cases h
 |true=>rw[hb]at h;exact⟨h,kc hb⟩
theorem aQN{τ:Shape}{n:Nat}{cs:List SC}{z:Value}{xs:List (Ab τ)}(hz:All2 (Aw σ) cs z.cells.toList)(h:JQ τ n cs=some xs):
  xs.length=n/\z.cells.size=xs.length*τ.width/\Rows σ.w σ.S τ z.cells 0 xs/\xs.length<BU:=by
 obtain⟨h,hn⟩:=aEg h;obtain⟨h1,h2,h3⟩:=vC hz h;refine⟨h1,by rw[h1];simpa using h2,fun i x hi=>?_,by have:=aCO;omega⟩;obtain⟨ds,d1,d2⟩:=h3 i x hi;exact⟨ds,d1,fun j d hj=>by simpa using d2 j d hj⟩
theorem JJ{P:Program}{e:TypeId}{τ:Shape}(h:CD P e=some τ):P.cellsOf e=τ.width:=by
 unfold CD at h;split at h
 ·rename_i τ' e';cases hb:Nat.beq (P.cellsOf e) τ'.width with
  |false=>rw[hb]at h;cases h
  |true=>rw[hb]at h;cases h;exact av hb
 ·cases h
theorem aQp{σ':Sit}{b r n:Nat}{τ:Shape}{xs:List (Ab τ)}(hb:b<σ'.mem.length)(h:Ac σ'.mem b=.arr τ xs)(hr:σ'.E.β b=some r):Aw σ' (.ptr b n) (.pointer (some ⟨r,n,none⟩)):=by
 refine⟨hb,⟨_,rfl⟩,?_⟩;rw[h];exact⟨r,hr,rfl⟩
theorem aDB{P:Program}{T:TypeId}{i:Nat}{d:Nat}{ft:TypeId}(h:gG P T i=some (d,ft))(w:World)(r o:Nat):
  (Instr.fieldAt T (.pointer (some ⟨r,o,none⟩)) i).run P w=.ok (.pointer (some ⟨r,o+d,none⟩)) w:=by
 unfold gG at h;split at h
 ·rename_i fs e;split at h
  ·rename_i f ef;cases hb:Nat.beq (P.cellsOf f.type) 0 with
   |true=>rw[hb]at h;cases h
   |false=>
    rw[hb]at h;cases h;have hne:P.cellsOf f.type≠0:=fun e=>by rw[e]at hb;cases hb
    have hi:∃i,P.info? f.type=some i:=by
     unfold kz at hne;cases hq:P.info? f.type with
     |none=>rw[hq]at hne;exact absurd rfl hne
     |some i=>exact⟨i,rfl⟩
    have ef':fs[i]? = some f:=by simpa using ef
    unfold Instr.fieldAt;simp only[cz,Cz e,cd,ef',Instr.sureAddr,ej,fieldPlace,Fk hi];rw[ag hne];simp[LA]
  ·cases h
 ·cases h
def Sit.fresh(σ:Sit)(o:Obj):Sit:={E:=σ.E,mem:=σ.mem,w:=σ.w.alloc o,S:=fun r=>σ.S r∨r=σ.w.heap.size}
theorem aOl(ho:Ok base S0 σ)(o:Obj):Goes σ (σ.fresh o):=
 ⟨fun _ h=>.inl h,fun r hr=>PF (ho.stab r hr).1,ci _,fun _ _=>BL.refl rfl rfl rfl⟩
theorem bAt(ho:Ok base S0 σ)(o:Obj):Ok base S0 (σ.fresh o):=by
 refine⟨ho.below.alloc o,fun r h=>.inl (ho.stab0 r h),fun r h=>?_,fun b=>?_,fun b r h=>?_,fun b b' r h h'=>ho.inj b b' r h h'⟩
 ·rcases h with h|h
  ·have:=ho.stab r h;exact⟨by simp only[Sit.fresh,il];omega,this.2⟩
  ·subst h;exact⟨by simp[Sit.fresh],.inr (.inl ho.below.size)⟩
 ·exact AE.keep (aOl ho o) rfl rfl rfl (fun r hr=>PF (ho.own b r hr).2.1) (ho.ent b)
 ·have:=ho.own b r h;refine⟨this.1,by simp only[Sit.fresh,il];omega,fun hs=>?_⟩;rcases hs with hs|hs
  ·exact this.2.2 hs
  ·omega
theorem aQi{P:Program}:∀{l:List Field},l.all (fun f=>(P.info? f.type).isSome)=true ->
  l.mapM (fun f=>(P.info? f.type).map fun i=>(f.offset,i.size))=some (l.map fun f=>(f.offset,P.cellsOf f.type))
 | [],_=>rfl
 |f::l,h=>by
  simp only[List.all_cons,ar]at h
  obtain⟨i,hi⟩:=nt.1 h.1
  simp[List.mapM_cons,hi,aQi h.2,kz]
theorem aAl{P:Program}{T:TypeId}{x:SV}(h:Gj P T=some x):∃i z,P.info? T=some i/\i.zero=some z/\∀σ:Sit,Bv σ x z:=by
 unfold Gj at h;split at h
 ·rename_i i e;split at h
  ·rename_i z e2;exact⟨i,z,e,e2,fun σ=>aE4 h⟩
  ·cases h
 ·cases h
theorem bAP{v:Value}{l:Array Value}{i:Nat}(h:l[i]? = some v):l[i]! = v:=by
 rw[getElem!_def,h]
theorem aPG{z:Array Value}{n j:Nat}{v:Value}(hj:j<n)(h:z[j%z.size]? = some v):(madeCells z n)[j]? = some v:=by
 unfold madeCells;simp[hj,bAP h]
theorem bAj{R:SC->Value->Prop}{zc:List SC}{zv:Array Value}(h:All2 R zc zv.toList)(hw:0<zv.size):∀n,All2 R (bd n zc).flatten (madeCells zv (n*zv.size)).toList:=by
 intro n;have hl:=h.length;simp at hl;refine All2.of_get (by simp[hl,size_madeCells]) fun i c hi=>?_;have hlt:=(bp.1 hi).1;simp[hl]at hlt;have hm:i%zv.size<zc.length:=by rw[hl];exact Nat.mod_lt _ hw
 have hc:zc[i%zv.size]? = some c:=by
  clear hm;have key:∀(n i:Nat) (c:SC),(bd n zc).flatten[i]? = some c->zc[i%zv.size]? = some c:=by
   intro n;induction n with
   |zero=>intro i c h;simp at h
   |succ n ih=>
    intro i c h;rw[List.replicate_succ,List.flatten_cons]at h;rcases bc i zc.length with hlt|hge
    ·rw[cw hlt]at h;rw[Nat.mod_eq_of_lt (by omega)];exact h
    ·rw[cm hge]at h;have:=ih _ _ h;rw[hl]at this hge;rw[Nat.mod_eq_sub_mod hge];exact this
  exact key n i c hi
 obtain⟨v,hv,hR⟩:=h.get hc;refine⟨v,?_,hR⟩;have:=aPG (z:=zv) (n:=n*zv.size) hlt (by simpa using hv);simpa using this
end Vx
namespace Vx
open Go Go.RowKit
def aFk(C:Cfg)(w:World)(S:Nat->Prop):Prop:=∀g τ xs,C.glob g=some ⟨τ,xs⟩->S g/\∃vs T fz,w.heap[g]? = some (.cells vs T fz)/\Rows w S τ vs 0 xs
variable {C:Cfg}{base:Base}{S0:Nat->Prop}{σ:Sit}{s:St}{a:Act}{ctx:List (Nat×Bool)}{o:Oper}{x:TV}{mem':Ae}
theorem aP3(ho:Ok base S0 σ)(hr:RelT σ s a)(hx:BH a ctx){y:Operand}(hop:o.op=.move y∨o.op=.assign y)(h:At C s ctx o=some (.ok true x mem')):BQ C base S0 id σ a o x mem':=by
 have h':ev s ctx y=some x/\mem'=s.mem:=by
  unfold At at h;rcases hop with hop|hop<;>(rw[hop]at h;simp only at h;split at h)<;>first|(rename_i e;cases h;exact⟨e,rfl⟩)|cases h
 refine AY (σ':=σ) (v:=a.eval y) ?_ ho (Goes.refl σ).moves (hr.mem.trans h'.2.symm) (Wp hr hx h'.1);rcases hop with hop|hop<;>simp[execOp,hop]
theorem bCo(ho:Ok base S0 σ)(hr:RelT σ s a)(hx:BH a ctx){c A B:Operand}(hop:o.op=.pick c A B)(h:At C s ctx o=some (.ok true x mem')):BQ C base S0 id σ a o x mem':=by
 unfold At at h;rw[hop]at h;simp only at h;cases c with
 |tmp t=>
  simp only at h;split at h
  ·rename_i cb bx bz e1 e2 e3;obtain⟨h1,h2⟩:=bCI hr hx e1 e2 e3;have hm:mem'=s.mem/\x=.val (.one (.v (.bool (bif cb then bx else bz)))):=by
    split at h
    ·cases bx with
     |true=>simp only[ap,Res.ok.injEq,true_and]at h;obtain⟨rfl,rfl⟩:=h;exact⟨rfl,by cases cb<;>rfl⟩
     |false=>simp only[ap,Res.ok.injEq,true_and]at h;obtain⟨rfl,rfl⟩:=h;exact⟨rfl,rfl⟩
    ·cases bz with
     |true=>simp only[ap,Res.ok.injEq,true_and]at h;obtain⟨rfl,rfl⟩:=h;exact⟨rfl,rfl⟩
     |false=>simp only[ap,Res.ok.injEq,true_and]at h;obtain⟨rfl,rfl⟩:=h;exact⟨rfl,by cases cb<;>cases bx<;>rfl⟩
    ·simp only[ap,Res.ok.injEq,true_and]at h;obtain⟨rfl,rfl⟩:=h;exact⟨rfl,rfl⟩
   refine AY (σ':=σ) (v:=.bool (bif cb then bx else bz)) ?_ ho (Goes.refl σ).moves (hr.mem.trans hm.1.symm) (by rw[hm.2];exact⟨rfl,ak⟩);simp only[execOp,hop];rw[h1];simp only[asBool];simp;exact h2
  ·cases h
 |const _=>cases h
 |global _=>cases h
 |func _=>cases h
theorem bBX(ho:Ok base S0 σ)(hr:RelT σ s a){T:TypeId}(hop:o.op=.alloc T)(h:At C s ctx o=some (.ok true x mem')):BQ C base S0 id σ a o x mem':=by
 unfold At at h;rw[hop]at h;simp only at h;have hex:∀z,(zeroValue T).run C.P σ.w=.ok z σ.w->(execOp a.eval o).run C.P σ.w=.ok (.value (.pointer (some ⟨σ.w.heap.size,0,none⟩))) (σ.w.alloc (.cells z.cells T)):=fun z hz=>by
  simp only[execOp,hop,Instr.alloc];simp[hz,aES]
 split at h
 ·rename_i z n e hz hT;obtain⟨zv,h1,h2⟩:=jG (σ:=σ) hz;split at h
  ·rename_i τ eτ;split at h
   ·rename_i xs exs;simp only[ap,Res.ok.injEq,true_and]at h;obtain⟨rfl,rfl⟩:=h;obtain⟨g1,g2,g3,hlim⟩:=aQN h1.cells exs
    ·obtain⟨k1,k2,k3,k4,_⟩:=aCK ho (T:=T) (ci _) hlim g2 g3;refine AY (σ':=σ.push (.arr τ xs) (.cells zv.cells T) xs.length) (hex zv (h2 _)) k1 k2.moves (by simp[Sit.push,hr.mem]) ?_;rw[←hr.mem];exact aQp (by simp[Sit.push]) k3 k4
   ·cases h
  ·cases h
 ·rename_i z _ _ hz hT;obtain⟨zv,h1,h2⟩:=jG (σ:=σ) hz;simp only[ap,Res.ok.injEq,true_and]at h;obtain⟨rfl,rfl⟩:=h;obtain⟨k1,k2,k3⟩:=aQw ho (T:=T) h1;refine AY (σ':=σ.push (.raw z.cells) (.cells zv.cells T) 0) (hex zv (h2 _)) k1 k2.moves (by simp[Sit.push,hr.mem]) ?_;rw[←hr.mem];exact k3
 ·cases h
theorem bB0(ho:Ok base S0 σ)(hr:RelT σ s a)(hx:BH a ctx){T:TypeId}{y:Operand}(hop:o.op=.box T y)(h:At C s ctx o=some (.ok true x mem')):BQ C base S0 id σ a o x mem':=by
 unfold At at h;rw[hop]at h;simp only at h;have hex:(execOp a.eval o).run C.P σ.w=.ok (.value (.pointer (some ⟨σ.w.heap.size,0,none⟩))) (σ.w.alloc (.cells (a.eval y).cells T)):=by
  simp only[execOp,hop,Instr.box];simp[aES]
 split at h
 ·rename_i z n e hz hT;have h1:=G7 hr hx hz;split at h
  ·rename_i τ eτ;split at h
   ·rename_i xs exs;simp only[ap,Res.ok.injEq,true_and]at h;obtain⟨rfl,rfl⟩:=h;obtain⟨g1,g2,g3,hlim⟩:=aQN h1.cells exs
    ·obtain⟨k1,k2,k3,k4,_⟩:=aCK ho (T:=T) (ci _) hlim g2 g3;refine AY (σ':=σ.push (.arr τ xs) (.cells (a.eval y).cells T) xs.length) hex k1 k2.moves (by simp[Sit.push,hr.mem]) ?_;rw[←hr.mem];exact aQp (by simp[Sit.push]) k3 k4
   ·cases h
  ·cases h
 ·rename_i z _ _ hz hT;have h1:=G7 hr hx hz;simp only[ap,Res.ok.injEq,true_and]at h;obtain⟨rfl,rfl⟩:=h;obtain⟨k1,k2,k3⟩:=aQw ho (T:=T) h1;refine AY (σ':=σ.push (.raw z.cells) (.cells (a.eval y).cells T) 0) hex k1 k2.moves (by simp[Sit.push,hr.mem]) ?_;rw[←hr.mem];exact k3
 ·cases h
theorem aM6{P:Program}{σ:Sit}{T:TypeId}{parts:List (Nat×SV)}{qs:List (Nat×Value)}{z:SV}{cs:List SC}{AB:Nat->Option (Nat×Nat)}(hz:Gj P T=some z)
  (hps:All2 (fun p q=>p.1=q.1/\Bv σ p.2 q.2) parts qs) (h:JZ AB parts z.cells=some cs) (hb:∀zv i,P.info? T=some i->i.zero=some zv->P.built T qs=Instr.fill AB zv.cells qs) (w:World) :
  ∃v,(Instr.build T qs.toArray).run P w=.ok v w/\Bv σ (.agg cs) v:=by
 obtain⟨i,zv,h1,h2,h3⟩:=aAl hz
 obtain⟨vs',h4,h5⟩:=aDC AB h (h3 σ).cells (hps.mono fun p q hpq=>⟨hpq.1,hpq.2.cells⟩)
 exact⟨.agg vs',run_build w T qs.toArray vs' (by simpa using(hb zv i h1 h2).trans h4),vs'.toList,by simp,h5⟩
theorem bB1(ho:Ok base S0 σ)(hr:RelT σ s a)(hx:BH a ctx){T:TypeId}{parts:Array (Nat×Operand)}(hop:o.op=.build T parts)(h:At C s ctx o=some (.ok true x mem')):BQ C base S0 id σ a o x mem':=by
 unfold At at h;rw[hop]at h;simp only at h;have hparts:(parts.map fun(i,x)=>(i,a.eval x))=(parts.toList.map fun p=>(p.1,a.eval p.2)).toArray:=by
  apply gy.1;simp
 split at h
 ·rename_i z ps fs hz hps hT;cases hb:fs.toList.all (fun f=>(C.P.info? f.type).isSome)with
  |false=>rw[hb]at h;cases h
  |true=>
   rw[hb]at h;simp only[aa]at h;split at h
   ·rename_i cs ecs;simp only[ap,Res.ok.injEq,true_and]at h;obtain⟨rfl,rfl⟩:=h;obtain⟨v,h1,h2⟩:=aM6 (P:=C.P) (σ:=σ) hz (t8 hr hx hps) ecs (fun zv i hi hzv=>by
     unfold rc;simp only[hi,hT,hzv,aQi hb];congr 1;funext i;simp only[List.getElem?_toArray,List.getElem?_map];cases fs.toList[i]?<;>rfl) σ.w
    exact AY (σ':=σ) (v:=v) (by simp only[execOp,hop];rw[hparts];exact BO h1) ho (Goes.refl σ).moves hr.mem h2
   ·cases h
 ·rename_i z ps n e hz hps hT;cases hb:(C.P.info? e).isSome with
  |false=>rw[hb]at h;cases h
  |true=>
   rw[hb]at h;simp only[aa]at h;split at h
   ·rename_i cs ecs;simp only[ap,Res.ok.injEq,true_and]at h;obtain⟨rfl,rfl⟩:=h;obtain⟨ie,hie⟩:=nt.1 hb;obtain⟨v,h1,h2⟩:=aM6 (P:=C.P) (σ:=σ) hz (t8 hr hx hps) ecs (fun zv i hi hzv=>by
     unfold rc;simp only[hi,hT,hzv,hie];simp[kz,hie]) σ.w
    exact AY (σ':=σ) (v:=v) (by simp only[execOp,hop];rw[hparts];exact BO h1) ho (Goes.refl σ).moves hr.mem h2
   ·cases h
 ·cases h
theorem bB2(ho:Ok base S0 σ)(hr:RelT σ s a)(hx:BH a ctx){T:TypeId}{n:Nat}{parts:Array (Nat×Operand)}(hop:o.op=.buildSlice T n parts)(h:At C s ctx o=some (.ok true x mem')):BQ C base S0 id σ a o x mem':=by
 unfold At at h;rw[hop]at h;simp only at h;have hparts:(parts.map fun(i,x)=>(i,a.eval x)).toList=(parts.toList.map fun p=>(p.1,a.eval p.2)):=by simp
 split at h
 ·rename_i e hT;split at h
  ·rename_i τ z ps eτ hz hps;cases hn0:(Nat.beq n 0&&ps.isEmpty)with
   |true=>
    rw[hn0]at h;simp only[aa,ap,Res.ok.injEq,true_and]at h;obtain⟨rfl,rfl⟩:=h;simp only[ar]at hn0;have hn:=av hn0.1;subst hn;have hp0:parts.toList=[]:=by
     cases hl:parts.toList with
     |nil=>rfl
     |cons q r=>
      rw[hl]at hps;simp only[G6]at hps;split at hps
      ·cases hps;simp at hn0
      ·cases hps
    obtain⟨i,zv,hi,hzv,hzr⟩:=aAl hz;have hsize:(oj e).run C.P σ.w=.ok (C.P.cellsOf e) σ.w:=Fk ⟨i,hi⟩;have hr0:rj 0=#[]:=Array.eq_empty_of_size_eq_zero (by simp);have hrun:(Instr.buildSlice T 0 (parts.map fun(i,x)=>(i,a.eval x))).run C.P σ.w=.ok (.slice (some ⟨σ.w.heap.size,0,none⟩) 0 0) (σ.w.alloc (.cells #[] e)):=by
     have h24:¬0*C.P.cellsOf e>2^24:=by omega
     unfold Instr.buildSlice;simp only[cz,Cz hT,cd,hsize];rw[ag h24];simp only[fq,if_true,ej,cd,hparts,hp0,List.map_nil,Instr.fill];simp only[newRow,cz,ej,newObj,Sem.run];rw[hr0];simp only[cd,show ∀f:Nat->Value,Array.map f #[]=#[]from fun f=>by simp];rfl
    have hg:=WS ho (.acc τ []) (.cells #[] e) 0;have hblk:Ac (σ.push (.acc τ []) (.cells #[] e) 0).mem σ.mem.length=.acc τ []:=Ex;have hβ:(σ.push (.acc τ []) (.cells #[] e) 0).E.β σ.mem.length=some σ.w.heap.size:=by simp[Sit.push,AI]
    have hκ:(σ.push (.acc τ []) (.cells #[] e) 0).E.κ σ.mem.length=0:=by simp[Sit.push,AI]
    refine AY (σ':=σ.push (.acc τ []) (.cells #[] e) 0) (v:=.slice (some ⟨σ.w.heap.size,0,none⟩) 0 0) ?_ (ZX ho _ _ _ ?_) hg.moves (by simp[Sit.push,hr.mem]) ?_
    ·simp only[execOp,hop];exact BO hrun
    ·unfold AE;rw[hblk,hβ,hκ];exact⟨ci _,by unfold BU;omega,.inr ⟨σ.w.heap.size,#[],e,rfl,PG,by simp,fun i x hi=>by simp at hi⟩⟩
    ·rw[←hr.mem];refine⟨by simp[Sit.push],ak,?_⟩;rw[hblk,hβ,hκ];rfl
   |false=>
   rw[hn0]at h;simp only[ab]at h;split at h
   ·rename_i cs ecs;cases hf:Fg s.mem cs with
    |mk cs' m1=>
     rw[hf]at h;simp only at h;split at h
     ·rename_i xs exs;cases hb:(Nat.ble (n*C.P.cellsOf e) 16777216&&Nat.blt 0 (C.P.cellsOf e)&&Gc (C.P.cellsOf e) z.cells&&Nat.blt 0 n)with
      |false=>rw[hb]at h;cases h
      |true=>
       rw[hb]at h;simp only[ar]at hb;simp only[aa]at h;have hle:=kc hb.1.1.1;have hpos:0<C.P.cellsOf e:=by simpa using hb.1.1.2
       obtain⟨i,zv,hi,hzv,hzr⟩:=aAl hz;obtain⟨hmany,hn⟩:=aEg exs;have hw:=JJ eτ;have hzsz:zv.cells.size=C.P.cellsOf e:=by
        have:=(hzr σ).cells.length;rw[ZL hb.1.2]at this;simpa using this.symm
       have hmade:=bAj (hzr σ).cells (by omega) n;rw[hzsz]at hmade;obtain⟨vs',f1,f2⟩:=aDC _ ecs hmade ((t8 hr hx hps).mono fun p q hpq=>⟨hpq.1,hpq.2.cells⟩);rw[←hr.mem]at hf;obtain⟨σ1,a1,a2,a3,a4,a5,a6⟩:=gO ho hf;have hcells:=a6 _ f2;obtain⟨g1,g2,g3⟩:=vC hcells hmany;have hsize:(oj e).run C.P σ.w=.ok (C.P.cellsOf e) σ.w:=Fk ⟨i,hi⟩;have hrun:(Instr.buildSlice T n (parts.map fun(i,x)=>(i,a.eval x))).run C.P σ.w=.ok (.slice (some ⟨σ.w.heap.size,0,none⟩) n n) (σ.w.alloc (.cells vs' e)):=by
        have hz0:(zeroValue e).run C.P σ.w=.ok zv σ.w:=by simp[zeroValue,typeInfo,hi,hzv]
        have h24:¬n*C.P.cellsOf e>2^24:=by omega
        unfold Instr.buildSlice;simp only[cz,Cz hT,cd,hsize];rw[ag h24];have hn0:0<n:=by simpa using hb.2
        have hz1:¬n*C.P.cellsOf e=0:=la (Nat.mul_pos hn0 hpos);have hm0:(rj (n*C.P.cellsOf e)).map (zv.cells[·%zv.cells.size]!)=madeCells zv.cells (n*C.P.cellsOf e):=rfl;simp only[ag hz1,cz,hz0,ej,cd,hm0,hparts,f1];simp[newRow]
       cases hA:HT C T with
       |true=>
        rw[hA]at h;simp only[aa,ap,Res.ok.injEq,true_and]at h;obtain⟨rfl,rfl⟩:=h;have hpg:=WS a4 (.arr τ xs) (.cells vs' e) n;have hblk:Ac (σ1.push (.arr τ xs) (.cells vs' e) n).mem σ1.mem.length=.arr τ xs:=Ex;have hβ:(σ1.push (.arr τ xs) (.cells vs' e) n).E.β σ1.mem.length=some σ1.w.heap.size:=by simp[Sit.push,AI]
        have hκ:(σ1.push (.arr τ xs) (.cells vs' e) n).E.κ σ1.mem.length=n:=by simp[Sit.push,AI]
        have hvs:vs'.size=n*τ.width:=by simpa using g2
        have hok:Ok base S0 (σ1.push (.arr τ xs) (.cells vs' e) n):=by
         refine ZX a4 _ _ _ ?_;unfold AE;rw[hblk,hβ,hκ];refine⟨by omega,by have:=aCO;omega,.inr ⟨σ1.w.heap.size,vs',e,rfl,?_,hvs,?_⟩⟩
         ·simp only[Sit.push];exact PG
         ·intro i x hix;obtain⟨ds,d1,d2⟩:=g3 i x hix;exact⟨ds,d1.mono hpg.stab hpg.heap,fun j d hj=>by simpa using d2 j d hj⟩
        refine AY (σ':=σ1.push (.arr τ xs) (.cells vs' e) n) (v:=.slice (some ⟨σ.w.heap.size,0,none⟩) n n) ?_ hok (a5.trans hpg).moves (by simp[Sit.push,a1]) ?_
        ·simp only[execOp,hop];have:(σ1.push (.arr τ xs) (.cells vs' e) n).w=σ.w.alloc (.cells vs' e):=by simp[Sit.push,a2]
         rw[this];exact BO hrun
        ·rw[←a1];refine⟨by simp[Sit.push],ak,?_⟩;rw[hblk,hβ,hκ];simp only[a2,g1];rfl
       |false=>
       rw[hA]at h;simp only[ab,ap,Res.ok.injEq,true_and]at h;obtain⟨rfl,rfl⟩:=h;have hfg:=aOl a4 (.cells vs' e);refine AY (σ':=σ1.fresh (.cells vs' e)) (v:=.slice (some ⟨σ.w.heap.size,0,none⟩) n n) ?_ (bAt a4 _) (a5.trans hfg).moves a1 ?_
       ·simp only[execOp,hop];have:(σ1.fresh (.cells vs' e)).w=σ.w.alloc (.cells vs' e):=by simp[Sit.fresh,a2]
        rw[this];exact BO hrun
       ·refine⟨_,n,by rw[g1],by omega,by have:=aCO;omega,fun _=>⟨σ.w.heap.size,0,vs',e,(0,0),rfl,.inr (by rw[a2]),?_,?_⟩⟩
        ·simp only[Sit.fresh,a2];exact PG
        ·intro i x hix;obtain⟨ds,d1,d2⟩:=g3 i x hix;exact⟨ds,d1.mono hfg.stab hfg.heap,fun j d hj=>by simpa using d2 j d hj⟩
     ·cases h
   ·cases h
  ·cases h
 ·cases h
theorem bCg(ho:Ok base S0 σ)(hr:RelT σ s a)(hx:BH a ctx){T:TypeId}{y:Operand}(hop:o.op=.load T y)(h:At C s ctx o=some (.ok true x mem')):BQ C base S0 id σ a o x mem':=by
 unfold At at h;rw[hop]at h;simp only at h;split at h
 ·rename_i c ec;have hc:=BJ hr hx ec;split at h
  ·rename_i cs off e1 e2;have hl:=fZ ho hc (by rw[hr.mem];exact e1);split at h
   ·rename_i l e3;simp only[ap,Res.ok.injEq,true_and]at h;obtain⟨rfl,rfl⟩:=h;obtain⟨v,h1,h2⟩:=aOX hl e2 e3;exact AY (σ':=σ) (v:=v) (by simp only[execOp,hop];exact BO h1) ho (Goes.refl σ).moves hr.mem h2
   ·cases h
  ·rename_i cs off e1 e2;have hl:=fZ ho hc (by rw[hr.mem];exact e1);split at h
   ·rename_i c' l e3;simp only[ap,Res.ok.injEq,true_and]at h;obtain⟨rfl,rfl⟩:=h;obtain⟨v,h1,h2⟩:=aOY hl e2 e3;exact AY (σ':=σ) (v:=v) (by simp only[execOp,hop];exact BO h1) ho (Goes.refl σ).moves hr.mem h2
   ·cases h
  ·cases h
 ·cases h
theorem aEv{σ:Sit}{n:Nat}(ho:Ok base S0 σ):Ok base S0 {σ with w:={σ.w with drawn:=n} }/\Goes σ {σ with w:={σ.w with drawn:=n} }:=by
 have hg:Goes σ {σ with w:={σ.w with drawn:=n} }:=⟨fun _ h=>h,fun _ _=>rfl,ci _,fun _ _=>BL.refl rfl rfl rfl⟩
 exact⟨⟨⟨ho.below.os,ho.below.tape,ho.below.output,ho.below.size,ho.below.block⟩,ho.stab0,ho.stab,fun b=>AE.keep hg rfl rfl rfl (fun _ _=>rfl) (ho.ent b),ho.own,ho.inj⟩,hg⟩
theorem bBZ(ho:Ok base S0 σ)(hr:RelT σ s a)(hx:BH a ctx){op:BinOp}{T T':TypeId}{y z:Operand}(hop:o.op=.binOp op T y z T')(h:At C s ctx o=some (.ok true x mem')):BQ C base S0 id σ a o x mem':=by
 unfold At at h;rw[hop]at h;simp only at h;split at h
 ·rename_i c d e1 e2;have h1:=G7 hr hx e1;have h2:=G7 hr hx e2;cases hb:aPX C.P T c with
  |false=>rw[hb]at h;cases h
  |true=>
   rw[hb]at h;simp only[aa]at h;split at h
   ·rename_i g r e3;simp only[ap,Res.ok.injEq]at h;obtain⟨rfl,rfl,rfl⟩:=h;obtain⟨v,n,h3,h4⟩:=aYA (P:=C.P) (X:=y) (Y:=z) (T:=T) (w:=σ.w) (by
     cases c with
     |v q=>cases q with
      |bool b=>exact .inl hb
      |_=>exact .inr (by simp)
     |_=>exact .inr (by simp)) h1 h2 e3
    obtain⟨k1,k2⟩:=aEv (n:=n) ho;exact AY (σ':={σ with w:={σ.w with drawn:=n} }) (v:=v) (by simp only[execOp,hop];exact BO h3) k1 k2.moves hr.mem (k2.repC h4)
   ·split at h
    ·rename_i r e' en hT;simp only[ap,Res.ok.injEq,true_and]at h;obtain⟨rfl,rfl⟩:=h;have:=bC6 (X:=y) (Y:=z) (w:=σ.w) hT h1 h2 en;exact AY (σ':=σ) (v:=.bool r) (by simp only[execOp,hop];exact BO this) ho (Goes.refl σ).moves hr.mem ⟨rfl,ak⟩
    ·cases h
 ·rename_i c d e1 e2;have h1:=G7 hr hx e1;have h2:=G7 hr hx e2;split at h
  ·rename_i fs hT;cases hb:(!(C.P.eqGuardType C.P.depth T)&&!(C.P.stoodInHeld T))with
   |false=>rw[hb]at h;cases h
   |true=>
    rw[hb]at h;simp only[ar,Bool.not_eq_true']at hb;simp only[aa]at h;split at h
    ·rename_i r e3;simp only[ap,Res.ok.injEq,true_and]at h;obtain⟨rfl,rfl⟩:=h;have:=(aNR (X:=y) (Y:=z) (w:=σ.w) hT hb.1 hb.2 h1 h2 e3).1;exact AY (σ':=σ) (v:=.bool r) (by simp only[execOp,hop];exact BO this) ho (Goes.refl σ).moves hr.mem ⟨rfl,ak⟩
    ·rename_i r e3;simp only[ap,Res.ok.injEq,true_and]at h;obtain⟨rfl,rfl⟩:=h;have:=(aNR (X:=y) (Y:=z) (w:=σ.w) hT hb.1 hb.2 h1 h2 e3).2;exact AY (σ':=σ) (v:=.bool !r) (by simp only[execOp,hop];exact BO this) ho (Goes.refl σ).moves hr.mem ⟨rfl,ak⟩
    ·cases h
  ·cases h
 ·cases h
end Vx
namespace Vx
open Go Go.RowKit
variable {C:Cfg}{base:Base}{S0:Nat->Prop}{σ:Sit}{s:St}{a:Act}{ctx:List (Nat×Bool)}{o:Oper}{x:TV}{mem':Ae}
theorem aQR{P:Program}{T:TypeId}{r off:Nat}{v:Value}{w:World}{vs:Array Value}{T':TypeId}(hh:w.heap[r]? = some (.cells vs T' (0,0)))(hi:∃i,P.info? T=some i)(hsz:v.cells.size=P.cellsOf T)
  (hv:∀u∈v.cells.toList,scalar u) (hle:off+v.cells.size<=vs.size) :
  (Instr.storeAt T (.pointer (some ⟨r,off,none⟩)) v).run P w=.ok () (C7 w r (.cells (CP vs off v.cells.toList) T' (0,0))):=by
 unfold Instr.storeAt storeVar Instr.sureAddr;have h1:=iZ (P:=P) (r:=r) (o:=off) (T:=T') v.cells.toList 0 w vs hh (by simpa using hle) hv;simp[Fk hi,hsz];simpa using h1
theorem All2.allScalar{cs:List SC}{ys:List Value}(h:All2 (Aw σ) cs ys):∀u∈ys,scalar u:=by
 induction h with
 |nil=>simp
 |cons h _ ih=>
  intro u hu;rcases dq.1 hu with rfl|hu
  ·exact h.scalar
  ·exact ih u hu
theorem Aw.ptr_raw{b off:Nat}{y:Value}{cs:List SC}(h:Aw σ (.ptr b off) y)(e:Ac σ.mem b=.raw cs):∃r,σ.E.β b=some r/\y=.pointer (some ⟨r,off,none⟩):=by
 obtain⟨_,_,hm⟩:=h;rw[e]at hm;exact hm
theorem aON{P:Program}{T:TypeId}(h:P.cellsOf T≠0):∃i,P.info? T=some i:=by
 unfold kz at h;cases hq:P.info? T with
 |none=>rw[hq]at h;exact absurd rfl h
 |some i=>exact⟨i,rfl⟩
theorem bCs(ho:Ok base S0 σ)(hr:RelT σ s a)(hx:BH a ctx){T:TypeId}{y z:Operand}(hop:o.op=.store T y z)(h:At C s ctx o=some (.ok true x mem')):BQ C base S0 id σ a o x mem':=by
 unfold At at h;rw[hop]at h;simp only at h;split at h
 ·rename_i b off v e1 e2;have hp:=BJ hr hx e1;have hv:=G7 hr hx e2;split at h
  ·rename_i cs eb;rw[←hr.mem]at eb;cases hb:(Gc (C.P.cellsOf T) v.cells&&fE v.cells&&Nat.blt 0 (C.P.cellsOf T))with
   |false=>rw[hb]at h;cases h
   |true=>
    rw[hb]at h;simp only[ar]at hb;simp only[aa]at h;split at h
    ·rename_i cs' es;simp only[ap,Res.ok.injEq,true_and]at h;obtain⟨rfl,rfl⟩:=h;obtain⟨r,hβ,hy⟩:=hp.ptr_raw eb;have he:=ho.ent b;unfold AE at he;rw[eb]at he;obtain⟨r',vs,T',h1,h2,h3⟩:=he;rw[hβ]at h1;cases h1;have hown:σ.owned b r:=⟨by rw[eb];trivial,hβ⟩
     obtain⟨k1,k2⟩:=All2.splice es h3 hv.cells;have hlt:b<σ.mem.length:=DP (by rw[eb];simp);have hrl:=(ho.own b r hown).2.1;obtain⟨g1,g2⟩:=vY ho hown (e:=.raw cs') (vs:=CP vs off (a.eval z).cells.toList) (T:=T') (by rw[eb];exact⟨cs',rfl⟩) (fun hg=>by
      unfold AE;simp only[Sit.store];rw[B9 hlt,ah rfl];exact⟨r,_,T',hβ,Wy hrl,k1.mono fun _ _=>hg.repC⟩)
     have hl:=ZL hb.1.1;have hcl:=hv.cells.length;have hsz:(a.eval z).cells.size=C.P.cellsOf T:=by simp at hcl;omega
     have hpos:C.P.cellsOf T≠0:=la (by simpa using hb.2);have hrun:=aQR (P:=C.P) (T:=T) (off:=off) h2 (aON hpos) hsz hv.cells.allScalar (by simpa using k2);refine aOB (σ':=σ.store b r (.raw cs') (CP vs off (a.eval z).cells.toList) T') ?_ g1 g2.moves (by simp[Sit.store,hr.mem]) trivial;simp only[execOp,hop,hy];simp only[cz,hrun,cd,ej];rfl
    ·cases h
  ·cases h
 ·rename_i b i off v e1 e2;have hp:=BJ hr hx e1;have hv:=G7 hr hx e2;cases hf:F9 s.mem v with
  |mk v' m1=>
   rw[hf]at h;simp only at h;rw[←hr.mem]at hf;obtain⟨σ1,a1,a2,a3,a4,a5,a6⟩:=aOk ho hf;have hp1:=a5.repC hp;have hv1:=a6 _ hv;split at h
   ·rename_i τ xs eb;rw[←a1]at eb;cases hb:(Gc (C.P.cellsOf T) v'.cells&&fE v'.cells&&Nat.blt 0 (C.P.cellsOf T))with
    |false=>rw[hb]at h;cases h
    |true=>
     rw[hb]at h;simp only[ar]at hb;simp only[aa]at h;split at h
     ·rename_i cs' es;split at h
      ·rename_i x' ep;simp only[ap,Res.ok.injEq,true_and]at h;obtain⟨rfl,rfl⟩:=h;obtain⟨_,_,hm⟩:=hp1;rw[eb]at hm;obtain⟨hi,r,hβ,hy⟩:=hm;obtain⟨hl0,hl1,vs,T',h2,h3,h4⟩:=sX (a4.ent b) eb hβ;have hown:σ1.owned b r:=⟨by rw[eb];trivial,hβ⟩
       have hlt:b<σ1.mem.length:=DP (by rw[eb];simp);have hrl:=(a4.own b r hown).2.1;have hxi:xs[i]? = some (xs.getD i τ.dflt):=by
        rw[aw,bw hi];rfl
       obtain⟨ds,d1,d2⟩:=h4 i _ hxi;have hdl:=d1.len;obtain⟨k1,k2⟩:=All2.splice es (vs:=ds.toArray) (by simpa using LG d1) hv1.cells;obtain⟨y1,y2,hyy,p1,p2⟩:=H2 k1 ep;cases p2;rw[List.append_nil]at hyy;have hle:off+(a.eval z).cells.size<=τ.width:=by simp at k2;omega
       have hfit:i*τ.width+off+(a.eval z).cells.size<=vs.size:=by
        rw[h3];have:=bh τ.width (show i+1<=σ1.E.κ b by omega);rw[ks]at this;omega
       have hnew:∀j d,y1[j]? = some d->(CP vs (i*τ.width+off) (a.eval z).cells.toList)[i*τ.width+j]? = some d:=fun j d hj=>by
        have hpl:=ZY (a.eval z).cells.toList vs (i*τ.width+off) (by simpa using hfit);have hpd:=ZY (a.eval z).cells.toList ds.toArray off (by simpa using k2);rw[←hyy,hpd]at hj;have hjw:j<τ.width:=by
         have:=(bp.1 hj).1;simp at this;simp at k2;omega
        rw[←kx,hpl];simp only[fy]at hj⊢;rcases bc j off with hjo|hjo
        ·rw[cw (by simp;omega),di (by omega)]at *
         simpa using d2 j d (by simpa using hj)
        ·rw[cm (by simp;omega)]at hj⊢;have e1:i*τ.width+j-(lb (i*τ.width+off) vs.toList).length=j-(lb off ds.toArray.toList).length:=by
          simp at k2⊢;omega
         rw[e1];rcases bc (j-(lb off ds.toArray.toList).length) (a.eval z).cells.toList.length with hq|hq
         ·rw[cw hq]at hj⊢;exact hj
         ·rw[cm hq]at hj⊢;rw[fe]at hj⊢;have e2:i*τ.width+off+(a.eval z).cells.toList.length+(j-(lb off ds.toArray.toList).length-(a.eval z).cells.toList.length)=i*τ.width+(off+(a.eval z).cells.toList.length+(j-(lb off ds.toArray.toList).length-(a.eval z).cells.toList.length)):=by omega
          rw[e2];simpa using d2 _ d (by simpa using hj)
       have hold:∀i',i'≠i->∀j,j<τ.width->(CP vs (i*τ.width+off) (a.eval z).cells.toList)[i'*τ.width+j]? = vs[i'*τ.width+j]?:=fun i' hne j hj=>by
        have hpl:=ZY (a.eval z).cells.toList vs (i*τ.width+off) (by simpa using hfit);rw[←kx,hpl];rcases Nat.lt_or_gt_of_ne hne with hlt' | hgt
        ·have:=bh τ.width (show i'+1<=i by omega);rw[ks]at this;rw[fy,cw (by simp;omega),di (by omega)];simp
        ·have:=bh τ.width (show i+1<=i' by omega);rw[ks]at this;rw[cm (by simp;omega),fe];have e2:i*τ.width+off+(a.eval z).cells.toList.length+(i'*τ.width+j-(lb (i*τ.width+off) vs.toList++(a.eval z).cells.toList).length)=i'*τ.width+j:=by simp;omega
         rw[e2];simp
       obtain⟨g1,g2⟩:=vY a4 hown (e:=.arr τ (xs.set i x')) (vs:=CP vs (i*τ.width+off) (a.eval z).cells.toList) (T:=T') (by rw[eb];exact⟨_,rfl,by simp⟩) (fun hg=>by
        unfold AE;simp only[Sit.store];rw[B9 hlt,ah rfl];refine⟨by simpa using hl0,hl1,.inr ⟨r,_,T',hβ,Wy hrl,by rw[iR,h3],fun i' u hu=>?_⟩⟩;rw[qe]at hu;split at hu
        ·rename_i hii;subst hii;cases hu;exact⟨y1,p1.mono hg.stab hg.heap,fun j d hj=>by simpa using hnew j d hj⟩
        ·rename_i hii;obtain⟨ds',d1',d2'⟩:=h4 i' u hu;refine⟨ds',d1'.mono hg.stab hg.heap,fun j d hj=>?_⟩;have hjl:=(bp.1 hj).1;rw[d1'.len]at hjl;rw[dj,hold i' (fun e=>hii e.symm) j hjl];simpa using d2' j d hj)
       have hl:=ZL hb.1.1;have hcl:=hv1.cells.length;have hsz:(a.eval z).cells.size=C.P.cellsOf T:=by simp at hcl;omega
       have hpos:C.P.cellsOf T≠0:=la (by simpa using hb.2);have hrun:=aQR (P:=C.P) (T:=T) (off:=i*τ.width+off) h2 (aON hpos) hsz hv1.cells.allScalar (by omega);refine aOB (σ':=σ1.store b r (.arr τ (xs.set i x')) (CP vs (i*τ.width+off) (a.eval z).cells.toList) T') ?_ g1 (a5.trans g2).moves (by simp[Sit.store,a1]) trivial;simp only[execOp,hop,hy];simp only[cz];rw[←a2,hrun];simp only[cd,ej];rfl
      ·cases h
     ·cases h
   ·cases h
 ·cases h
theorem bCn(ho:Ok base S0 σ)(hr:RelT σ s a)(hx:BH a ctx){y:Operand}(hop:o.op=.nilCheck y)(h:At C s ctx o=some (.ok true x mem')):BQ C base S0 id σ a o x mem':=by
 unfold At at h;rw[hop]at h;simp only at h;split at h
 ·rename_i b off e;have hp:=Wp hr hx e;split at h
  ·rename_i cs eb;simp only[ap,Res.ok.injEq,true_and]at h;obtain⟨rfl,rfl⟩:=h;rw[←hr.mem]at eb;obtain⟨r,hβ,hy⟩:=Aw.ptr_raw hp eb;refine AY (σ':=σ) (v:=a.eval y) ?_ ho (Goes.refl σ).moves hr.mem hp;simp only[execOp,hop,hy];rfl
  ·cases h
 ·rename_i τ z off e;have hp:=Wp hr hx e;simp only[ap,Res.ok.injEq,true_and]at h;obtain⟨rfl,rfl⟩:=h;obtain⟨r,oo,vs,T,fz,ds,hy,_⟩:=id hp;refine AY (σ':=σ) (v:=a.eval y) ?_ ho (Goes.refl σ).moves hr.mem hp;simp only[execOp,hop,hy];rfl
 ·cases h
theorem bCw(ho:Ok base S0 σ)(hr:RelT σ s a)(hx:BH a ctx){op:UnOp}{T:TypeId}{y:Operand}(hop:o.op=.unOp op T y)(h:At C s ctx o=some (.ok true x mem')):BQ C base S0 id σ a o x mem':=by
 unfold At at h;rw[hop]at h;simp only at h;split at h
 ·rename_i c ec;split at h
  ·rename_i r er;simp only[ap,Res.ok.injEq,true_and]at h;obtain⟨rfl,rfl⟩:=h;obtain⟨v,h1,h2⟩:=bIT (P:=C.P) (w:=σ.w) (BJ hr hx ec) er;exact AY (σ':=σ) (v:=v) (by simp only[execOp,hop];exact BO h1) ho (Goes.refl σ).moves hr.mem h2
  ·cases h
 ·cases h
theorem bB4(ho:Ok base S0 σ)(hr:RelT σ s a)(hx:BH a ctx){T1 T2:TypeId}{y:Operand}(hop:o.op=.convert T1 T2 y)(h:At C s ctx o=some (.ok true x mem')):BQ C base S0 id σ a o x mem':=by
 unfold At at h;rw[hop]at h;simp only at h;split at h
 ·rename_i k k' n hT e;split at h
  ·rename_i d hT1;simp only[ap,Res.ok.injEq,true_and]at h;obtain⟨rfl,rfl⟩:=h;obtain⟨h1,h2⟩:=BJ hr hx e;refine AY (σ':=σ) (v:=.int k (k.wrap n)) ?_ ho (Goes.refl σ).moves hr.mem (H9 (σ:=σ) k n);simp only[execOp,hop,h1];refine BO ?_;unfold convert;simp only[cz,Cz hT1,Cz hT,cd];cases d<;>simp[Conv.intToInt]
  ·cases h
 ·cases h
theorem bB8(ho:Ok base S0 σ)(hr:RelT σ s a)(hx:BH a ctx){T:TypeId}{y:Operand}{i:Nat}(hop:o.op=.fieldAddr T y i)(h:At C s ctx o=some (.ok true x mem')):BQ C base S0 id σ a o x mem':=by
 unfold At at h;rw[hop]at h;simp only at h;split at h
 ·rename_i b off d ft e1 e2;split at h
  ·rename_i cs eb;simp only[ap,Res.ok.injEq,true_and]at h;obtain⟨rfl,rfl⟩:=h;rw[←hr.mem]at eb;have hp:=BJ hr hx e1;obtain⟨r,hβ,hy⟩:=Aw.ptr_raw hp eb;refine AY (σ':=σ) (v:=.pointer (some ⟨r,off+d,none⟩)) (by simp only[execOp,hop,hy];exact BO (aDB e2 _ _ _)) ho (Goes.refl σ).moves hr.mem ?_;refine⟨hp.1,⟨_,rfl⟩,?_⟩;rw[eb];exact⟨r,hβ,rfl⟩
  ·cases h
 ·rename_i b j off d ft e1 e2;split at h
  ·rename_i τ xs eb;simp only[ap,Res.ok.injEq,true_and]at h;obtain⟨rfl,rfl⟩:=h;rw[←hr.mem]at eb;have hp:=BJ hr hx e1;obtain⟨hlt,_,hm⟩:=hp;rw[eb]at hm;obtain⟨hi,r,hβ,hy⟩:=hm;refine AY (σ':=σ) (v:=.pointer (some ⟨r,j*τ.width+off+d,none⟩)) (by simp only[execOp,hop,hy];exact BO (aDB e2 _ _ _)) ho (Goes.refl σ).moves hr.mem ?_;refine⟨hlt,ak,?_⟩;rw[eb];exact⟨hi,r,hβ,by rw[io]⟩
  ·cases h
 ·rename_i τ y' off d ft e1 e2;simp only[ap,Res.ok.injEq,true_and]at h;obtain⟨rfl,rfl⟩:=h;obtain⟨r,q,vs,T',fz,ds,hy,h1,h2,h3,h4⟩:=BJ hr hx e1;refine AY (σ':=σ) (v:=.pointer (some ⟨r,q+off+d,none⟩)) (by simp only[execOp,hop,hy];exact BO (aDB e2 _ _ _)) ho (Goes.refl σ).moves hr.mem ?_;exact⟨r,q,vs,T',fz,ds,by rw[io],h1,h2,h3,h4⟩
 ·cases h
end Vx
end
