/- Part 4 of the proof. What is proved: symbolic execution of the functions, proved sound; what each function of the program computes, and that every run ends with it; what these functions compute, in plain numbers. Conditions: each theorem bears its own. -/
import Derived.Test.YthajbkcpnbiobaaGreatDoorVxG3
import Derived.Test.YthajbkcpnbiobaaGreatDoorProg
set_option linter.all false
set_option exponentiation.threshold 1000000
noncomputable section
open Go.IntKind renaming wrap->al
open Int renaming tmod->ii,toNat->aq
open List renaming replicate->bd
namespace Vx
open Go Go.Proofs
abbrev Za:Shape:=.int .i64
abbrev Zb:Shape:=.int .u64
abbrev Zc:Shape:=.box .pfn
abbrev Zd:Shape:=.pair .bool .unit
abbrev Ze:Shape:=.slice Zb
abbrev Zf:Shape:=.pair Za .unit
abbrev Zg:Shape:=.pair Zb .unit
abbrev Zh:Shape:=.pair Za Zd
abbrev Zi:Shape:=.pair Za Zf
abbrev Zj:Shape:=.pair Zb Zg
abbrev Zk:Shape:=.pair Zb Zf
abbrev Zl:Shape:=.pair Ze Zf
abbrev Zm:Shape:=.slice Zj
abbrev Zn:Shape:=.pair .bool Zk
abbrev Zo:Shape:=.pair Zj .unit
abbrev Zp:Shape:=.pair Za Zi
abbrev Zq:Shape:=.pair Zb Zj
abbrev Zr:Shape:=.pair Ze Zh
abbrev Zs:Shape:=.pair .bool Zl
abbrev Zt:Shape:=.pair Za Zn
abbrev Zu:Shape:=.pair .bool Zr
abbrev Zv:Shape:=.pair Zs .unit
abbrev Zw:Shape:=.pair Za Zp
abbrev Zx:Shape:=.pair Za Zq
abbrev Zy:Shape:=.pair .bool Zv
abbrev Zz:Shape:=.pair Za Zx
abbrev ZA:Shape:=.pair .bool Zy
abbrev ZB:Shape:=.pair Zj Zo
abbrev ZC:Shape:=.pair .bool ZA
abbrev ZD:Shape:=.pair Za ZB
abbrev ZE:Shape:=.pair .bool ZC
abbrev ZF:Shape:=.pair .bool ZE
abbrev ZG:Shape:=.pair Za ZD
abbrev rowsSh:Shape:=Zw
abbrev kindsSh:Shape:=Zj
def k_rows:List (Ab rowsSh):=[(16,11,-14,15,()),(16,8,-126,127,()),(32,24,-126,127,()),(64,53,-1022,1023,())]
def JO:List UInt8:=[0,1,2,2,3,3,3,3,4,4,4,4,4,4,4,4,5,5,5,5,5,5,5,5,5,5,5,5,5,5,5,5,6,6,6,6,6,6,6,6,6,6,6,6,6,6,6,6,6,6,6,6,6,6,6,6,6,6,6,6,6,6,6,6,7,7,7,7,7,7,7,7,7,7,7,7,7,7,7,7,7,7,7,7,7,7,7,7,7,7,7,7,7,7,7,7,7,7,7,7,7,7,7,7,7,7,7,7,7,7,7,7,7,7,7,7,7,7,7,7,7,7,7,7,7,7,7,7,8,8,8,8,8,8,8,8,8,8,8,8,8,8,8,8,8,8,8,8,8,8,8,8,8,8,8,8,8,8,8,8,8,8,8,8,8,8,8,8,8,8,8,8,8,8,8,8,8,8,8,8,8,8,8,8,8,8,8,8,8,8,8,8,8,8,8,8,8,8,8,8,8,8,8,8,8,8,8,8,8,8,8,8,8,8,8,8,8,8,8,8,8,8,8,8,8,8,8,8,8,8,8,8,8,8,8,8,8,8,8,8,8,8,8,8,8,8,8,8,8,8,8,8,8,8,8,8]
def k_deb:List (Ab (.int .u8)):=[0,1,56,2,57,49,28,3,61,58,42,50,38,29,17,4,62,47,59,36,45,43,51,22,53,39,33,30,24,18,12,5,63,55,48,27,60,41,37,16,46,35,44,21,52,32,23,11,54,26,40,15,34,20,31,10,25,14,19,9,13,8,7,6]
def k_kinds:List (Ab kindsSh):=[(2147483648,2147483647,()),(9223372036854775808,9223372036854775807,()),(0,4294967295,()),(0,18446744073709551615,())]
def G1:List (Nat×Sigma fun τ=>List (Ab τ)):=[(1,⟨rowsSh,k_rows⟩),(4,⟨kindsSh,k_kinds⟩),(5,⟨.int .u8,k_deb⟩)]
abbrev Ah(I:Aa):=DenS I->Bool
abbrev Ag(I O:Aa):=DenS I->DenS O
@[reducible] def cf(s:List (FuncId×Sum))(l:List (FuncId×Nat×LoopSpec)):Cfg:={P:=Tryz.prog,sums:=s,loops:=l,globs:=G1}
theorem sd(C:Cfg)(n:FuncId)(fn:Func)(hs:Xf C.P C.globs C.sums)(hl:Vr C n fn C.loops)(I O:Aa)(t:DenS I->Option (DenS O))(d:DenS O)(h:∀x,run C 9 n fn I O x=t x)(hls:Xg C.P C.globs C.lsums:=by exact trivial)(hfs:Xd C.P C.globs C.fns:=by exact trivial)(hms:Xe C.P C.globs C.meths:=by exact trivial)
  (hm : C.P.follows .mixedOrders = true := by kernel_rfl) (hf : C.P.funcs[n]? = some fn := by kernel_rfl) (hb : (match fn.body with | some c => JT ((CS c).map Dq) | none => false) = true := by kernel_rfl) (hn : (fn.name == "runtime.NumGoroutine") = false := by kernel_rfl) : Sound C.P C.globs n (Aj I O t d) :=
 bAn C 9 n fn hm hf hb hn hs hl I O t d h hls hfs hms
theorem EK(C:Cfg)(n:FuncId)(fn:Func)(hs:Xf C.P C.globs C.sums)(hl:Vr C n fn C.loops)(k:LK)(I O:Aa)(t:k.D×DenS I->Option (k.B×DenS O))(d:k.B×DenS O)(h:∀x,DI C 9 n fn k I O x=t x)(hls:Xg C.P C.globs C.lsums:=by exact trivial)(hfs:Xd C.P C.globs C.fns:=by exact trivial)(hms:Xe C.P C.globs C.meths:=by exact trivial)
  (hm : C.P.follows .mixedOrders = true := by kernel_rfl) (hf : C.P.funcs[n]? = some fn := by kernel_rfl) (hb : (match fn.body with | some c => JT ((CS c).map Dq) | none => false) = true := by kernel_rfl) (hn : (fn.name == "runtime.NumGoroutine") = false := by kernel_rfl) : SoundL C.P C.globs n (DK k I O t d) :=
 bAo C 9 n fn hm hf hb hn hs hl k I O t d h hls hfs hms
abbrev B6:Aa:=[(false,Za)]
abbrev B7:Aa:=[(true,Zw),(false,Za)]
def zP(a0:Ab Za):Option (DenS B7):=let e1_:=((0:Int),(0:Int),(0:Int),(0:Int),());bif((decide (a0<(0:Int)))||(decide (a0>=(4:Int))))then(some (e1_,(2:Int),()))else bif((decide ((0:Int)<=a0))&&(decide (a0<((4:Nat):Int))))then(some ((Vx.k_rows.getD (aq a0) e1_),(0:Int),()))else none
theorem r69(x:DenS B6):run (cf [] []) 9 71 Tryz.f71 B6 B7 x=zP x.1:=by kernel_rfl
def VM(x:DenS B6):Option (DenS B7):=zP x.1
def Ap:Sum:=Aj B6 B7 VM (DenS.dflt B7)
theorem D1:Sound Tryz.prog G1 71 Ap:=sd (cf [] []) 71 Tryz.f71 trivial trivial B6 B7 VM _ (fun _=>r69 ..)
abbrev BS:=Ah B6
abbrev BT:=Ag B6 B7
variable (p69:BS)(f69:BT)
abbrev CG:Aa:=[(false,Za),(false,Zb)]
abbrev CH:Aa:=[(false,Za)]
def zM(p69:BS)(f69:BT)(a0:Ab Za)(a1:Ab Zb):Option (DenS CH):=bif(p69 (a0,()))then(bif((f69 (a0,())).2.1 !=(0:Int))then(some (f69 (a0,())).2)else bif((decide ((0:Int)<=(f69 (a0,())).1.1))||(!(decide ((f69 (a0,())).1.1<(64:Int)))))then(bif((decide ((f69 (a0,())).1.1<(64:Int)))&&((AR .u64 a1 (f69 (a0,())).1.1)!=(0:Int)))then(some ((4:Int),()))else some ((0:Int),()))else none)else none
theorem r66(x:DenS CG):run (cf [(71,⟨B6,B7,p69,f69⟩)] []) 9 85 Tryz.f85 CG CH x=zM p69 f69 x.1 x.2.1:=by kernel_rfl
def pI(x:DenS CG):Option (DenS CH):=zM Ap.pre Ap.F x.1 x.2.1
def Av:Sum:=Aj CG CH pI (DenS.dflt CH)
theorem FY:Sound Tryz.prog G1 85 Av:=sd (cf [(71,Ap)] []) 85 Tryz.f85 ⟨D1,ak⟩ trivial CG CH pI _ (fun _=>r66 ..)
abbrev Cd:=Ah CG
abbrev Ce:=Ag CG CH
variable (p66:Cd)(f66:Ce)
abbrev ES:Aa:=[(false,Za)]
abbrev EV:Aa:=[(false,Zb)]
def zW(a0:Ab Za):Option (DenS EV):=bif(decide ((0:Int)<=a0))then(some ((al .u64 ((Bk .u64 (1:Int) a0)-(1:Int))),()))else none
theorem r91(x:DenS ES):run (cf [] []) 9 72 Tryz.f72 ES EV x=zW x.1:=by kernel_rfl
def XP(x:DenS ES):Option (DenS EV):=zW x.1
def BV:Sum:=Aj ES EV XP (DenS.dflt EV)
theorem Oc:Sound Tryz.prog G1 72 BV:=sd (cf [] []) 72 Tryz.f72 trivial trivial ES EV XP _ (fun _=>r91 ..)
abbrev HM:=Ah ES
abbrev HP:=Ag ES EV
variable (p91:HM)(f91:HP)
abbrev Kv:Aa:=[(true,Zw),(false,Zb)]
abbrev KY:Aa:=[(false,.bool),(false,Zb),(false,Zb)]
def zV(p91:HM)(f91:HP)(a0:Ab Zw)(a1:Ab Zb):Option (DenS KY):=let e5_:=(al .i64 (a0.2.1-(1:Int)));let e1_:=(e5_,());let e2_:=((al .i64 (a0.1-a0.2.1)),());let e3_:=e5_;let e4_:=(al .i64 (a0.1-(1:Int)));bif(decide ((0:Int)<=e4_))then(bif(decide ((0:Int)<=e3_))then(bif(p91 e2_)then(bif(p91 e1_)then(some (((AR .u64 a1 e4_)!=(0:Int)),(BR .u64 (AR .u64 a1 e3_) (f91 e2_).1),(BR .u64 a1 (f91 e1_).1),()))else none)else none)else none)else none
theorem r90(x:DenS Kv):run (cf [(72,⟨ES,EV,p91,f91⟩)] []) 9 87 Tryz.f87 Kv KY x=zV p91 f91 x.1 x.2.1:=by kernel_rfl
def pR(x:DenS Kv):Option (DenS KY):=zV BV.pre BV.F x.1 x.2.1
def D2:Sum:=Aj Kv KY pR (DenS.dflt KY)
theorem aA0:Sound Tryz.prog G1 87 D2:=sd (cf [(72,BV)] []) 87 Tryz.f87 ⟨Oc,ak⟩ trivial Kv KY pR _ (fun _=>r90 ..)
abbrev eB:=Ah Kv
abbrev eX:=Ag Kv KY
variable (p90:eB)(f90:eX)
abbrev DW:Aa:=[(false,Za),(false,Zb)]
abbrev DX:Aa:=[(false,Za),(false,Za)]
def aA(p66:Cd)(f66:Ce)(p90:eB)(f90:eX)(p91:HM)(f91:HP)(a0:Ab Za)(a1:Ab Zb):Option (DenS DX):=let e10_:=(Vx.k_rows.getD (aq a0) ((0:Int),(0:Int),(0:Int),(0:Int),()));let e9_:=(f90 (e10_,a1,()));let e8_:=((al .i64 (e10_.1-e10_.2.1)),());let e1_:=(e9_.2.1==(f91 e8_).1);let e2_:=(p91 e8_);let e3_:=(al .i64 (e10_.2.1-(2:Int)));let e4_:=(e9_.2.2.1==(0:Int));let e5_:=(e9_.2.1==(0:Int));let e6_:=e9_;let e7_:=e10_;bif(p66 (a0,a1,()))then(bif((f66 (a0,a1,())).1 !=(0:Int))then(some ((0:Int),(f66 (a0,a1,()))))else bif((decide ((0:Int)<=a0))&&(decide (a0<((4:Nat):Int))))then(bif(p90 (e7_,a1,()))then(bif e2_ then(bif(e1_&&e4_)then(bif e6_.1 then(some ((al .i64 ((11:Int)-(9:Int))),(0:Int),()))else some ((9:Int),(0:Int),()))else bif e2_ then(bif((decide ((0:Int)<=e3_))||(!(decide (e6_.2.1=(f91 ((al .i64 (e7_.1-e7_.2.1)),())).1))))then(bif(e1_&&((AR .u64 e6_.2.2.1 e3_)!=(0:Int)))then(some ((1:Int),(0:Int),()))else bif e2_ then(bif e1_ then(some ((0:Int),(0:Int),()))else bif(e5_&&e4_)then(bif e6_.1 then(some ((al .i64 ((11:Int)-(6:Int))),(0:Int),()))else some ((6:Int),(0:Int),()))else bif e5_ then(bif e6_.1 then(some ((al .i64 ((11:Int)-(7:Int))),(0:Int),()))else some ((7:Int),(0:Int),()))else bif e6_.1 then(some ((al .i64 ((11:Int)-(8:Int))),(0:Int),()))else some ((8:Int),(0:Int),()))else none)else none)else none)else none)else none)else none)else none
theorem r65(x:DenS DW):run (cf [(85,⟨CG,CH,p66,f66⟩),(87,⟨Kv,KY,p90,f90⟩),(72,⟨ES,EV,p91,f91⟩)] []) 9 59 Tryz.f59 DW DX x=aA p66 f66 p90 f90 p91 f91 x.1 x.2.1:=by kernel_rfl
def cV(x:DenS DW):Option (DenS DX):=aA Av.pre Av.F D2.pre D2.F BV.pre BV.F x.1 x.2.1
def Bs:Sum:=Aj DW DX cV (DenS.dflt DX)
theorem HH:Sound Tryz.prog G1 59 Bs:=sd (cf [(85,Av),(87,D2),(72,BV)] []) 59 Tryz.f59 ⟨FY,aA0,Oc,ak⟩ trivial DW DX cV _ (fun _=>r65 ..)
abbrev D3:=Ah DW
abbrev D4:=Ag DW DX
variable (p65:D3)(f65:D4)
abbrev Kc:Aa:=[(true,Zw)]
abbrev KB:Aa:=[(false,Zb)]
def aRg(a0:Ab Zw):Option (DenS KB):=some ((0:Int),())
theorem bDr(x:DenS Kc):run (cf [] []) 9 89 Tryz.f89 Kc KB x=aRg x.1:=by kernel_rfl
def aGN(x:DenS Kc):Option (DenS KB):=aRg x.1
def La:Sum:=Aj Kc KB aGN (DenS.dflt KB)
theorem aAG:Sound Tryz.prog G1 89 La:=sd (cf [] []) 89 Tryz.f89 trivial trivial Kc KB aGN _ (fun _=>bDr ..)
abbrev rF:=Ah Kc
abbrev r7:=Ag Kc KB
variable (p116:rF)(f116:r7)
abbrev P5:Aa:=[(true,Zw)]
abbrev R0:Aa:=[(false,Zb)]
def aRh(a0:Ab Zw):Option (DenS R0):=let e1_:=(al .i64 (a0.2.1-(2:Int)));bif(decide ((0:Int)<=e1_))then(some ((Bk .u64 (1:Int) e1_),()))else none
theorem bDs(x:DenS P5):run (cf [] []) 9 90 Tryz.f90 P5 R0 x=aRh x.1:=by kernel_rfl
def aGO(x:DenS P5):Option (DenS R0):=aRh x.1
def k9:Sum:=Aj P5 R0 aGO (DenS.dflt R0)
theorem aTV:Sound Tryz.prog G1 90 k9:=sd (cf [] []) 90 Tryz.f90 trivial trivial P5 R0 aGO _ (fun _=>bDs ..)
abbrev aI0:=Ah P5
abbrev aKy:=Ag P5 R0
variable (p117:aI0)(f117:aKy)
abbrev Ie:Aa:=[(true,Zw),(false,.bool),(false,Zb),(false,Zb)]
abbrev Iu:Aa:=[(false,Zb)]
def aRk(a0:Ab Zw)(a1:Ab (.bool))(a2 a3:Ab Zb):Option (DenS Iu):=let e3_:=(al .i64 (a0.2.1-(1:Int)));let e1_:=(Ao .u64 (Bk .u64 a2 e3_) a3);let e2_:=(al .i64 (a0.1-(1:Int)));bif(decide ((0:Int)<=e3_))then(bif a1 then(bif(decide ((0:Int)<=e2_))then(some ((Ao .u64 e1_ (Bk .u64 (1:Int) e2_)),()))else none)else some (e1_,()))else none
theorem bDL(x:DenS Ie):run (cf [] []) 9 73 Tryz.f73 Ie Iu x=aRk x.1 x.2.1 x.2.2.1 x.2.2.2.1:=by kernel_rfl
def aGV(x:DenS Ie):Option (DenS Iu):=aRk x.1 x.2.1 x.2.2.1 x.2.2.2.1
def GO:Sum:=Aj Ie Iu aGV (DenS.dflt Iu)
theorem lB:Sound Tryz.prog G1 73 GO:=sd (cf [] []) 73 Tryz.f73 trivial trivial Ie Iu aGV _ (fun _=>bDL ..)
abbrev XU:=Ah Ie
abbrev X4:=Ag Ie Iu
variable (p140:XU)(f140:X4)
abbrev Du:Aa:=[(false,Za)]
abbrev Dv:Aa:=[(false,Zb),(false,Za)]
def t70(p116:rF)(f116:r7)(p117:aI0)(f117:aKy)(p69:BS)(f69:BT)(p91:HM)(f91:HP)(p140:XU)(f140:X4)(a0:Ab Za):Option (DenS Dv):=let e2_:=((al .i64 ((f69 (a0,())).1.1-(f69 (a0,())).1.2.1)),());let e1_:=((f69 (a0,())).1,false,(al .u64 ((f91 e2_).1-(f116 ((f69 (a0,())).1,())).1)),(f117 ((f69 (a0,())).1,())));bif(p69 (a0,()))then(bif((f69 (a0,())).2.1 !=(0:Int))then(some ((0:Int),(f69 (a0,())).2))else bif(p91 e2_)then(bif(p116 ((f69 (a0,())).1,()))then(bif(p117 ((f69 (a0,())).1,()))then(bif(p140 e1_)then(some ((f140 e1_).1,(0:Int),()))else none)else none)else none)else none)else none
theorem r70(x:DenS Du):run (cf [(89,⟨Kc,KB,p116,f116⟩),(90,⟨P5,R0,p117,f117⟩),(71,⟨B6,B7,p69,f69⟩),(72,⟨ES,EV,p91,f91⟩),(73,⟨Ie,Iu,p140,f140⟩)] []) 9 61 Tryz.f61 Du Dv x=t70 p116 f116 p117 f117 p69 f69 p91 f91 p140 f140 x.1:=by kernel_rfl
def VN(x:DenS Du):Option (DenS Dv):=t70 La.pre La.F k9.pre k9.F Ap.pre Ap.F BV.pre BV.F GO.pre GO.F x.1
def Bh:Sum:=Aj Du Dv VN (DenS.dflt Dv)
theorem FZ:Sound Tryz.prog G1 61 Bh:=sd (cf [(89,La),(90,k9),(71,Ap),(72,BV),(73,GO)] []) 61 Tryz.f61 ⟨aAG,aTV,D1,Oc,lB,ak⟩ trivial Du Dv VN _ (fun _=>r70 ..)
abbrev DA:=Ah Du
abbrev DB:=Ag Du Dv
variable (p70:DA)(f70:DB)
abbrev FG:Aa:=[(false,Za),(false,Zb)]
abbrev FR:Aa:=[(false,.bool),(false,Zb),(false,Zb),(false,Za)]
def zY(p66:Cd)(f66:Ce)(p90:eB)(f90:eX)(a0:Ab Za)(a1:Ab Zb):Option (DenS FR):=let e2_:=((Vx.k_rows.getD (aq a0) ((0:Int),(0:Int),(0:Int),(0:Int),())),a1,());let e1_:=(f90 e2_);bif(p66 (a0,a1,()))then(bif((f66 (a0,a1,())).1 !=(0:Int))then(some (false,(0:Int),(0:Int),(f66 (a0,a1,()))))else bif(bif(decide ((0:Int)<=a0))then(decide (a0<((4:Nat):Int)))else false)then(bif(p90 e2_)then(some (e1_.1,e1_.2.1,e1_.2.2.1,(0:Int),()))else none)else none)else none
theorem r98(x:DenS FG):run (cf [(85,⟨CG,CH,p66,f66⟩),(87,⟨Kv,KY,p90,f90⟩)] []) 9 91 Tryz.f91 FG FR x=zY p66 f66 p90 f90 x.1 x.2.1:=by kernel_rfl
def pU(x:DenS FG):Option (DenS FR):=zY Av.pre Av.F D2.pre D2.F x.1 x.2.1
def Cs:Sum:=Aj FG FR pU (DenS.dflt FR)
theorem VD:Sound Tryz.prog G1 91 Cs:=sd (cf [(85,Av),(87,D2)] []) 91 Tryz.f91 ⟨FY,aA0,ak⟩ trivial FG FR pU _ (fun _=>r98 ..)
abbrev Lu:=Ah FG
abbrev Ly:=Ag FG FR
variable (p98:Lu)(f98:Ly)
abbrev RS:Aa:=[(false,Za),(true,Zw),(false,Zb)]
abbrev TO:Aa:=[(true,Zn)]
def zQ(p98:Lu)(f98:Ly)(a0:Ab Za)(a1:Ab Zw)(a2:Ab Zb):Option (DenS TO):=let e1_:=(al .i64 ((al .i64 (a1.2.2.1-a1.2.1))+(1:Int)));let e2_:=(al .i64 (a1.2.1-(1:Int)));bif(p98 (a0,a2,()))then(bif(decide ((f98 (a0,a2,())).2.1>(0:Int)))then(bif(decide ((0:Int)<=e2_))then(some (((f98 (a0,a2,())).1,(Ao .u64 (f98 (a0,a2,())).2.2.1 (Bk .u64 (1:Int) e2_)),(al .i64 (e1_+(al .i64 ((al .i64 (f98 (a0,a2,())).2.1)-(1:Int))))),()),()))else none)else some (((f98 (a0,a2,())).1,(f98 (a0,a2,())).2.2.1,e1_,()),()))else none
theorem r72(x:DenS RS):run (cf [(91,⟨FG,FR,p98,f98⟩)] []) 9 194 Tryz.f194 RS TO x=zQ p98 f98 x.1 x.2.1 x.2.2.1:=by kernel_rfl
def pK(x:DenS RS):Option (DenS TO):=zQ Cs.pre Cs.F x.1 x.2.1 x.2.2.1
def UJ:Sum:=Aj RS TO pK (DenS.dflt TO)
theorem aVH:Sound Tryz.prog G1 194 UJ:=sd (cf [(91,Cs)] []) 194 Tryz.f194 ⟨VD,ak⟩ trivial RS TO pK _ (fun _=>r72 ..)
abbrev Y72:=Ah RS
abbrev Z72:=Ag RS TO
variable (p72:Y72)(f72:Z72)
abbrev Md:Aa:=[(true,Zj),(false,Za)]
abbrev KC:Aa:=[(true,Zj)]
def wE(a0:Ab Zj)(a1:Ab Za):Option (DenS KC):=let e1_:=(al .i64 (a1-(64:Int)));let e2_:=(al .i64 ((64:Int)-a1));bif(decide (a1<=(0:Int)))then(some ((a0.1,a0.2),()))else bif(decide (a1>=(128:Int)))then(some (((0:Int),(0:Int),()),()))else bif(decide (a1>=(64:Int)))then(bif(decide ((0:Int)<=e1_))then(some (((Bk .u64 a0.2.1 e1_),(0:Int),()),()))else none)else bif(decide ((0:Int)<=a1))then(bif(decide ((0:Int)<=e2_))then(bif(decide ((0:Int)<=a1))then(some (((Ao .u64 (Bk .u64 a0.1 a1) (AR .u64 a0.2.1 e2_)),(Bk .u64 a0.2.1 a1),()),()))else none)else none)else none
theorem bDx(x:DenS Md):run (cf [] []) 9 208 Tryz.f208 Md KC x=wE x.1 x.2.1:=by kernel_rfl
def XA(x:DenS Md):Option (DenS KC):=wE x.1 x.2.1
def Jo:Sum:=Aj Md KC XA (DenS.dflt KC)
theorem aFS:Sound Tryz.prog G1 208 Jo:=sd (cf [] []) 208 Tryz.f208 trivial trivial Md KC XA _ (fun _=>bDx ..)
abbrev VO:=Ah Md
abbrev VZ:=Ag Md KC
variable (p119:VO)(f119:VZ)
abbrev P8:Aa:=[(true,Zj),(false,Za)]
abbrev MP:Aa:=[(true,Zj)]
def wF(a0:Ab Zj)(a1:Ab Za):Option (DenS MP):=let e1_:=(al .i64 (a1-(64:Int)));let e2_:=(al .i64 ((64:Int)-a1));bif(decide (a1<=(0:Int)))then(some ((a0.1,a0.2),()))else bif(decide (a1>=(128:Int)))then(some (((0:Int),(0:Int),()),()))else bif(decide (a1>=(64:Int)))then(bif(decide ((0:Int)<=e1_))then(some (((0:Int),(AR .u64 a0.1 e1_),()),()))else none)else bif(decide ((0:Int)<=a1))then(bif(decide ((0:Int)<=a1))then(bif(decide ((0:Int)<=e2_))then(some (((AR .u64 a0.1 a1),(Ao .u64 (AR .u64 a0.2.1 a1) (Bk .u64 a0.1 e2_)),()),()))else none)else none)else none
theorem bDy(x:DenS P8):run (cf [] []) 9 234 Tryz.f234 P8 MP x=wF x.1 x.2.1:=by kernel_rfl
def bQ(x:DenS P8):Option (DenS MP):=wF x.1 x.2.1
def TX:Sum:=Aj P8 MP bQ (DenS.dflt MP)
theorem aTW:Sound Tryz.prog G1 234 TX:=sd (cf [] []) 234 Tryz.f234 trivial trivial P8 MP bQ _ (fun _=>bDy ..)
abbrev dN:=Ah P8
abbrev eG:=Ag P8 MP
variable (p120:dN)(f120:eG)
abbrev Fo:Aa:=W0
abbrev FN:Aa:=Z5
def AD:Sum:=aL1
theorem Xu:Sound Tryz.prog G1 94 AD:=aYj Tryz.func94 (by kernel_rfl) (by kernel_rfl) (by kernel_rfl) (by kernel_rfl)
abbrev Dk:=Ah Fo
abbrev Dl:=Ag Fo FN
variable (p155:Dk)(f155:Dl)
abbrev P9:Aa:=[(true,Zj),(true,Zj)]
abbrev R3:Aa:=[(true,Zj),(false,Zb)]
def wG(p155:Dk)(f155:Dl)(a0 a1:Ab Zj):Option (DenS R3):=let e2_:=(a0.1,a1.1,(f155 (a0.2.1,a1.2.1,(0:Int),())).2);let e1_:=(f155 e2_);bif(p155 (a0.2.1,a1.2.1,(0:Int),()))then(bif(p155 e2_)then(some ((e1_.1,(f155 (a0.2.1,a1.2.1,(0:Int),())).1,()),e1_.2))else none)else none
theorem bDz(x:DenS P9):run (cf [(94,⟨Fo,FN,p155,f155⟩)] []) 9 235 Tryz.f235 P9 R3 x=wG p155 f155 x.1 x.2.1:=by kernel_rfl
def nC(x:DenS P9):Option (DenS R3):=wG AD.pre AD.F x.1 x.2.1
def TY:Sum:=Aj P9 R3 nC (DenS.dflt R3)
theorem aTX:Sound Tryz.prog G1 235 TY:=sd (cf [(94,AD)] []) 235 Tryz.f235 ⟨Xu,ak⟩ trivial P9 R3 nC _ (fun _=>bDz ..)
abbrev dO:=Ah P9
abbrev eH:=Ag P9 R3
variable (p121:dO)(f121:eH)
abbrev Kd:Aa:=[(true,Zj),(true,Zj)]
abbrev KD:Aa:=[(false,Za)]
def wI(a0 a1:Ab Zj):Option (DenS KD):=bif((a0.1==a1.1)&&(a0.2.1==a1.2.1))then(some ((0:Int),()))else bif((decide (a0.1<a1.1))||((a0.1==a1.1)&&(decide (a0.2.1<a1.2.1))))then(some ((-(1:Int)),()))else some ((1:Int),())
theorem bDB(x:DenS Kd):run (cf [] []) 9 236 Tryz.f236 Kd KD x=wI x.1 x.2.1:=by kernel_rfl
def nE(x:DenS Kd):Option (DenS KD):=wI x.1 x.2.1
def EB:Sum:=Aj Kd KD nE (DenS.dflt KD)
theorem aFT:Sound Tryz.prog G1 236 EB:=sd (cf [] []) 236 Tryz.f236 trivial trivial Kd KD nE _ (fun _=>bDB ..)
abbrev OY:=Ah Kd
abbrev O6:=Ag Kd KD
variable (p123:OY)(f123:O6)
abbrev Ml:Aa:=W0
abbrev Sg:Aa:=Z5
def BI:Sum:=aQ5
theorem lF:Sound Tryz.prog G1 148 BI:=bIw Tryz.func148 (by kernel_rfl) (by kernel_rfl) (by kernel_rfl) (by kernel_rfl)
abbrev HL:=Ah Ml
abbrev HO:=Ag Ml Sg
variable (p157:HL)(f157:HO)
abbrev Qa:Aa:=[(true,Zj),(true,Zj)]
abbrev R4:Aa:=[(true,Zj),(false,Zb)]
def wJ(p157:HL)(f157:HO)(a0 a1:Ab Zj):Option (DenS R4):=let e2_:=(a0.1,a1.1,(f157 (a0.2.1,a1.2.1,(0:Int),())).2);let e1_:=(f157 e2_);bif(p157 (a0.2.1,a1.2.1,(0:Int),()))then(bif(p157 e2_)then(some ((e1_.1,(f157 (a0.2.1,a1.2.1,(0:Int),())).1,()),e1_.2))else none)else none
theorem bDC(x:DenS Qa):run (cf [(148,⟨Ml,Sg,p157,f157⟩)] []) 9 237 Tryz.f237 Qa R4 x=wJ p157 f157 x.1 x.2.1:=by kernel_rfl
def nF(x:DenS Qa):Option (DenS R4):=wJ BI.pre BI.F x.1 x.2.1
def TZ:Sum:=Aj Qa R4 nF (DenS.dflt R4)
theorem aTY:Sound Tryz.prog G1 237 TZ:=sd (cf [(148,BI)] []) 237 Tryz.f237 ⟨lF,ak⟩ trivial Qa R4 nF _ (fun _=>bDC ..)
abbrev dP:=Ah Qa
abbrev eI:=Ag Qa R4
variable (p124:dP)(f124:eI)
abbrev Qj:Aa:=[(true,Zw)]
abbrev Sf:Aa:=[(false,Zb)]
def aRm(p91:HM)(f91:HP)(a0:Ab Zw):Option (DenS Sf):=let e1_:=((al .i64 (a0.1-a0.2.1)),());bif(p91 e1_)then(some (f91 e1_))else none
theorem bDY(x:DenS Qj):run (cf [(72,⟨ES,EV,p91,f91⟩)] []) 9 92 Tryz.f92 Qj Sf x=aRm p91 f91 x.1:=by kernel_rfl
def aGZ(x:DenS Qj):Option (DenS Sf):=aRm BV.pre BV.F x.1
def lE:Sum:=Aj Qj Sf aGZ (DenS.dflt Sf)
theorem aT8:Sound Tryz.prog G1 92 lE:=sd (cf [(72,BV)] []) 92 Tryz.f92 ⟨Oc,ak⟩ trivial Qj Sf aGZ _ (fun _=>bDY ..)
abbrev aJb:=Ah Qj
abbrev aKJ:=Ag Qj Sf
variable (p154:aJb)(f154:aKJ)
abbrev Gk:Aa:=[(false,Za),(false,.bool)]
abbrev Gw:Aa:=[(false,Zb),(false,Za)]
def aRi(p154:aJb)(f154:aKJ)(p116:rF)(f116:r7)(p69:BS)(f69:BT)(p91:HM)(f91:HP)(p140:XU)(f140:X4)(a0:Ab Za)(a1:Ab (.bool)):Option (DenS Gw):=let e2_:=((al .i64 ((f69 (a0,())).1.1-(f69 (a0,())).1.2.1)),());let e1_:=((f69 (a0,())).1,a1,(al .u64 ((f91 e2_).1-(f154 ((f69 (a0,())).1,())).1)),(f116 ((f69 (a0,())).1,())));bif(p69 (a0,()))then(bif((f69 (a0,())).2.1 !=(0:Int))then(some ((0:Int),(f69 (a0,())).2))else bif(p91 e2_)then(bif(p154 ((f69 (a0,())).1,()))then(bif(p116 ((f69 (a0,())).1,()))then(bif(p140 e1_)then(some ((f140 e1_).1,(0:Int),()))else none)else none)else none)else none)else none
theorem bDw(x:DenS Gk):run (cf [(92,⟨Qj,Sf,p154,f154⟩),(89,⟨Kc,KB,p116,f116⟩),(71,⟨B6,B7,p69,f69⟩),(72,⟨ES,EV,p91,f91⟩),(73,⟨Ie,Iu,p140,f140⟩)] []) 9 64 Tryz.f64 Gk Gw x=aRi p154 f154 p116 f116 p69 f69 p91 f91 p140 f140 x.1 x.2.1:=by kernel_rfl
def nB(x:DenS Gk):Option (DenS Gw):=aRi lE.pre lE.F La.pre La.F Ap.pre Ap.F BV.pre BV.F GO.pre GO.F x.1 x.2.1
def Cw:Sum:=Aj Gk Gw nB (DenS.dflt Gw)
theorem Xp:Sound Tryz.prog G1 64 Cw:=sd (cf [(92,lE),(89,La),(71,Ap),(72,BV),(73,GO)] []) 64 Tryz.f64 ⟨aT8,aAG,D1,Oc,lB,ak⟩ trivial Gk Gw nB _ (fun _=>bDw ..)
abbrev GX:=Ah Gk
abbrev GY:=Ag Gk Gw
variable (p118:GX)(f118:GY)
abbrev Qf:Aa:=[(false,Za)]
abbrev Sa:Aa:=[(false,Za)]
def wW(a0:Ab Za):Option (DenS Sa):=bif((decide (a0<(0:Int)))||(decide (a0>(5:Int))))then(some ((3:Int),()))else some ((0:Int),())
theorem bDS(x:DenS Qf):run (cf [] []) 9 139 Tryz.f139 Qf Sa x=wW x.1:=by kernel_rfl
def nM(x:DenS Qf):Option (DenS Sa):=wW x.1
def T5:Sum:=Aj Qf Sa nM (DenS.dflt Sa)
theorem aT3:Sound Tryz.prog G1 139 T5:=sd (cf [] []) 139 Tryz.f139 trivial trivial Qf Sa nM _ (fun _=>bDS ..)
abbrev aI7:=Ah Qf
abbrev aKF:=Ag Qf Sa
variable (p147:aI7)(f147:aKF)
abbrev J8:Aa:=[(false,Za),(false,Za)]
abbrev Kx:Aa:=[(true,Zw),(false,Za)]
def v6(p69:BS)(f69:BT)(p147:aI7)(f147:aKF)(a0 a1:Ab Za):Option (DenS Kx):=bif(p69 (a0,()))then(bif((f69 (a0,())).2.1 !=(0:Int))then(some (f69 (a0,())))else bif(p147 (a1,()))then(some ((f69 (a0,())).1,(f147 (a1,()))))else none)else none
theorem bDl(x:DenS J8):run (cf [(71,⟨B6,B7,p69,f69⟩),(139,⟨Qf,Sa,p147,f147⟩)] []) 9 121 Tryz.f121 J8 Kx x=v6 p69 f69 p147 f147 x.1 x.2.1:=by kernel_rfl
def mY(x:DenS J8):Option (DenS Kx):=v6 Ap.pre Ap.F T5.pre T5.F x.1 x.2.1
def FU:Sum:=Aj J8 Kx mY (DenS.dflt Kx)
theorem aAC:Sound Tryz.prog G1 121 FU:=sd (cf [(71,Ap),(139,T5)] []) 121 Tryz.f121 ⟨D1,aT3,ak⟩ trivial J8 Kx mY _ (fun _=>bDl ..)
abbrev XS:=Ah J8
abbrev X2:=Ag J8 Kx
variable (p105:XS)(f105:X2)
abbrev BW:Aa:=[(false,Ze)]
abbrev BX:Aa:=[(false,Ze)]
abbrev IZ:Pat:=⟨21,[(0,.one (.sl Zb)),(3,.one (.v .i64))],[]⟩
abbrev jY:List (Nat×Shape):=[]
abbrev OB:List (Nat×Pat):=[(0,⟨21,[(0,.one (.sl Zb)),(3,.one (.v .i64))],[]⟩)]
abbrev NK:Option Pat:=none
variable (w173_2:Pat.D IZ->Option (Ad OB NK))
def YO{R:Type}(L:Pat.D IZ->Option R)(e:Ad OB NK->Option R)(x:Pat.D IZ):Option R:=let e1_:=(al .i64 (x.1.2.1-(1:Int)));bif(((decide ((0:Int)<=e1_))&&(decide (e1_<(x.1.1.length:Int))))||(!(decide (x.1.2.1>(0:Int)))))then(bif((decide (x.1.2.1>(0:Int)))&&((x.1.1.getD (aq e1_) (0:Int))==(0:Int)))then(((L ((x.1.1,e1_,()),()))))else(e (.inl (x.1,()))))else none
theorem bHw(d:Nat)(R:Type)(L:Pat.D IZ->Option R)(e:Ad OB NK->Option R)(x:Pat.D IZ):
  Bq (cf [] [(93,2,LoopSpec.of IZ jY OB NK w173_2)]) (d+2) 93 (Bp Tryz.f93 2) IZ jY OB NK (R:=R) L e x=YO L e x:=by kernel_rfl
theorem aPh:Bn fun L e x=>YO L e x:=by intro _ _ _ _ _ _ _ h0 hL he _;unfold YO;repeat' (first|exact h0|exact hL _|exact he _|apply By|(apply Bz h0;intro _)|(apply BA<;>intro _))
def xE(w173_2:Pat.D IZ->Option (Ad OB NK))(a0:Ab Ze):Option (DenS BX):=
 Vx.AQ (w173_2 ((a0,(a0.length:Int),()),())) fun y0=>
 Vx.AP y0 (fun y1=>
 bif((decide ((0:Int)<=y1.1.2.1))&&(decide (y1.1.2.1<=(y1.1.1.length:Int))))then(some (((y1.1.1.take (aq y1.1.2.1)).drop (aq (0:Int))),()))
 else none) (fun z1=>
 none)
theorem bD7(x:DenS BW):run (cf [] [(93,2,LoopSpec.of IZ jY OB NK w173_2)]) 9 93 Tryz.f93 BW BX x=xE w173_2 x.1:=by kernel_rfl
def qI:IZ.D->Option (Ad OB NK):=Bi fun L=>YO L some
def UL(x:DenS BW):Option (DenS BX):=xE qI x.1
def Ak:Sum:=Aj BW BX UL (DenS.dflt BX)
theorem Er:Sound Tryz.prog G1 93 Ak:=sd (cf [] [(93,2,LoopSpec.of IZ jY OB NK qI)]) 93 Tryz.f93 trivial ⟨rfl,fun d=>Bw (fun L e x=>YO L e x) (aPh) (fun _ _ _ _=>bHw ..),ak⟩ BW BX UL _ (fun _=>bD7 ..)
abbrev BD:=Ah BW
abbrev BE:=Ag BW BX
variable (p173:BD)(f173:BE)
abbrev Ig:Aa:=[(false,Ze)]
abbrev Iv:Aa:=[(false,Ze)]
def wV(p173:BD)(f173:BE)(a0:Ab Ze):Option (DenS Iv):=let e1_:=(bd (aq ((f173 (a0,())).1.length:Int)) (0:Int));bif(p173 (a0,()))then(bif((decide ((0:Int)<=((f173 (a0,())).1.length:Int)))&&(decide ((((f173 (a0,())).1.length:Int)*(8:Int))<=(140737488355328:Int))))then(some ((((f173 (a0,())).1.take e1_.length)++(e1_.drop (f173 (a0,())).1.length)),()))else none)else none
theorem bDR(x:DenS Ig):run (cf [(93,⟨BW,BX,p173,f173⟩)] []) 9 116 Tryz.f116 Ig Iv x=wV p173 f173 x.1:=by kernel_rfl
def nL(x:DenS Ig):Option (DenS Iv):=wV Ak.pre Ak.F x.1
def CT:Sum:=Aj Ig Iv nL (DenS.dflt Iv)
theorem aAI:Sound Tryz.prog G1 116 CT:=sd (cf [(93,Ak)] []) 116 Tryz.f116 ⟨Er,ak⟩ trivial Ig Iv nL _ (fun _=>bDR ..)
abbrev VQ:=Ah Ig
abbrev V1:=Ag Ig Iv
variable (p146:VQ)(f146:V1)
abbrev FF:Aa:=[(false,Ze)]
abbrev FM:Aa:=[(false,Ze)]
def v5(p146:VQ)(f146:V1)(a0:Ab Ze):Option (DenS FM):=bif(p146 (a0,()))then(some (f146 (a0,())))else none
theorem bDi(x:DenS FF):run (cf [(116,⟨Ig,Iv,p146,f146⟩)] []) 9 122 Tryz.f122 FF FM x=v5 p146 f146 x.1:=by kernel_rfl
def bO(x:DenS FF):Option (DenS FM):=v5 CT.pre CT.F x.1
def Cj:Sum:=Aj FF FM bO (DenS.dflt FM)
theorem aS:Sound Tryz.prog G1 122 Cj:=sd (cf [(116,CT)] []) 122 Tryz.f122 ⟨aAI,ak⟩ trivial FF FM bO _ (fun _=>bDi ..)
abbrev HK:=Ah FF
abbrev HN:=Ag FF FM
variable (p102:HK)(f102:HN)
abbrev Gp:Aa:=[(false,Zb)]
abbrev FO:Aa:=[(false,Za)]
def xI(a0:Ab Zb):Option (DenS FO):=let e10_:=(AR .u64 (AR .u64 a0 (32:Int)) (16:Int));let e1_:=(al .u8 (AR .u64 e10_ (8:Int)));let e2_:=(al .u8 e10_);let e3_:=(al .u8 (AR .u64 (AR .u64 a0 (32:Int)) (8:Int)));let e4_:=(al .u8 (AR .u64 (AR .u64 a0 (16:Int)) (8:Int)));let e5_:=(al .u8 (AR .u64 a0 (32:Int)));let e6_:=(al .u8 (AR .u64 a0 (16:Int)));let e7_:=(al .u8 (AR .u64 a0 (8:Int)));let e8_:=(al .i64 ((32:Int)+(16:Int)));let e9_:=(al .i64 ((0:Int)+(16:Int)));bif(decide (a0>=(4294967296:Int)))then(bif(decide ((AR .u64 a0 (32:Int))>=(65536:Int)))then(bif(decide (e10_>=(256:Int)))then(bif((decide ((0:Int)<=e1_))&&(decide (e1_<(256:Int))))then(some ((al .i64 ((al .i64 (e8_+(8:Int)))+(al .i64 ((UInt8.toNat (Vx.JO.getD (aq e1_) (0:UInt8))):Int)))),()))else none)else bif((decide ((0:Int)<=e2_))&&(decide (e2_<(256:Int))))then(some ((al .i64 (e8_+(al .i64 ((UInt8.toNat (Vx.JO.getD (aq e2_) (0:UInt8))):Int)))),()))else none)else bif(decide ((AR .u64 a0 (32:Int))>=(256:Int)))then(bif((decide ((0:Int)<=e3_))&&(decide (e3_<(256:Int))))then(some ((al .i64 ((al .i64 ((32:Int)+(8:Int)))+(al .i64 ((UInt8.toNat (Vx.JO.getD (aq e3_) (0:UInt8))):Int)))),()))else none)else bif((decide ((0:Int)<=e5_))&&(decide (e5_<(256:Int))))then(some ((al .i64 ((32:Int)+(al .i64 ((UInt8.toNat (Vx.JO.getD (aq e5_) (0:UInt8))):Int)))),()))else none)else bif(decide (a0>=(65536:Int)))then(bif(decide ((AR .u64 a0 (16:Int))>=(256:Int)))then(bif((decide ((0:Int)<=e4_))&&(decide (e4_<(256:Int))))then(some ((al .i64 ((al .i64 (e9_+(8:Int)))+(al .i64 ((UInt8.toNat (Vx.JO.getD (aq e4_) (0:UInt8))):Int)))),()))else none)else bif((decide ((0:Int)<=e6_))&&(decide (e6_<(256:Int))))then(some ((al .i64 (e9_+(al .i64 ((UInt8.toNat (Vx.JO.getD (aq e6_) (0:UInt8))):Int)))),()))else none)else bif(decide (a0>=(256:Int)))then(bif((decide ((0:Int)<=e7_))&&(decide (e7_<(256:Int))))then(some ((al .i64 ((al .i64 ((0:Int)+(8:Int)))+(al .i64 ((UInt8.toNat (Vx.JO.getD (aq e7_) (0:UInt8))):Int)))),()))else none)else bif((decide ((0:Int)<=(al .u8 a0)))&&(decide ((al .u8 a0)<(256:Int))))then(some ((al .i64 ((0:Int)+(al .i64 ((UInt8.toNat (Vx.JO.getD (aq (al .u8 a0)) (0:UInt8))):Int)))),()))else none
theorem bEc(x:DenS Gp):run (cf [] []) 9 115 Tryz.f115 Gp FO x=xI x.1:=by kernel_rfl
def nU(x:DenS Gp):Option (DenS FO):=xI x.1
def CL:Sum:=Aj Gp FO nU (DenS.dflt FO)
theorem aU:Sound Tryz.prog G1 115 CL:=sd (cf [] []) 115 Tryz.f115 trivial trivial Gp FO nU _ (fun _=>bEc ..)
abbrev Jw:=Ah Gp
abbrev Jz:=Ag Gp FO
variable (p178:Jw)(f178:Jz)
abbrev Gn:Aa:=[(false,Ze)]
abbrev Gz:Aa:=[(false,Za)]
def w0(p173:BD)(f173:BE)(p178:Jw)(f178:Jz)(a0:Ab Ze):Option (DenS Gz):=let e3_:=(al .i64 (((f173 (a0,())).1.length:Int)-(1:Int)));let e1_:=(((f173 (a0,())).1.getD (aq e3_) (0:Int)),());let e2_:=e3_;bif(p173 (a0,()))then(bif(((f173 (a0,())).1.length:Int)==(0:Int))then(some ((0:Int),()))else bif((decide ((0:Int)<=e2_))&&(decide (e2_<((f173 (a0,())).1.length:Int))))then(bif(p178 e1_)then(some ((al .i64 ((al .i64 ((64:Int)*e2_))+(f178 e1_).1)),()))else none)else none)else none
theorem bDW(x:DenS Gn):run (cf [(93,⟨BW,BX,p173,f173⟩),(115,⟨Gp,FO,p178,f178⟩)] []) 9 98 Tryz.f98 Gn Gz x=w0 p173 f173 p178 f178 x.1:=by kernel_rfl
def bY(x:DenS Gn):Option (DenS Gz):=w0 Ak.pre Ak.F CL.pre CL.F x.1
def Ck:Sum:=Aj Gn Gz bY (DenS.dflt Gz)
theorem aT:Sound Tryz.prog G1 98 Ck:=sd (cf [(93,Ak),(115,CL)] []) 98 Tryz.f98 ⟨Er,aU,ak⟩ trivial Gn Gz bY _ (fun _=>bDW ..)
abbrev Lr:=Ah Gn
abbrev Lv:=Ag Gn Gz
variable (p151:Lr)(f151:Lv)
abbrev Mk:Aa:=[(false,Za),(false,.bool)]
abbrev MW:Aa:=[(false,Zb),(false,Za),(false,Za)]
def w7(p118:GX)(f118:GY)(a0:Ab Za)(a1:Ab (.bool)):Option (DenS MW):=bif(p118 (a0,a1,()))then(some ((f118 (a0,a1,())).1,(0:Int),(f118 (a0,a1,())).2))else none
theorem bDZ(x:DenS Mk):run (cf [(64,⟨Gk,Gw,p118,f118⟩)] []) 9 123 Tryz.f123 Mk MW x=w7 p118 f118 x.1 x.2.1:=by kernel_rfl
def nQ(x:DenS Mk):Option (DenS MW):=w7 Cw.pre Cw.F x.1 x.2.1
def Jq:Sum:=Aj Mk MW nQ (DenS.dflt MW)
theorem aF1:Sound Tryz.prog G1 123 Jq:=sd (cf [(64,Cw)] []) 123 Tryz.f123 ⟨Xp,ak⟩ trivial Mk MW nQ _ (fun _=>bDZ ..)
abbrev rK:=Ah Mk
abbrev sC:=Ag Mk MW
variable (p156:rK)(f156:sC)
abbrev Qg:Aa:=[(true,Zu)]
abbrev Sb:Aa:=[(false,Za)]
def wX(p151:Lr)(f151:Lv)(a0:Ab Zu):Option (DenS Sb):=bif(p151 (a0.2.1,()))then(some ((al .i64 ((al .i64 (a0.2.2.1+(f151 (a0.2.1,())).1))-(1:Int))),()))else none
theorem bDT(x:DenS Qg):run (cf [(98,⟨Gn,Gz,p151,f151⟩)] []) 9 140 Tryz.f140 Qg Sb x=wX p151 f151 x.1:=by kernel_rfl
def nN(x:DenS Qg):Option (DenS Sb):=wX Ck.pre Ck.F x.1
def Xr:Sum:=Aj Qg Sb nN (DenS.dflt Sb)
theorem aT4:Sound Tryz.prog G1 140 Xr:=sd (cf [(98,Ck)] []) 140 Tryz.f140 ⟨aT,ak⟩ trivial Qg Sb nN _ (fun _=>bDT ..)
abbrev aI8:=Ah Qg
abbrev aKG:=Ag Qg Sb
variable (p148:aI8)(f148:aKG)
abbrev Ic:Aa:=[(true,Ze)]
abbrev It:Aa:=[(true,Ze)]
abbrev IK:Pat:=⟨21,[(0,.one (.own 0)),(3,.one (.v .i64))],[.arr Zb]⟩
abbrev jJ:List (Nat×Shape):=[]
abbrev Oi:List (Nat×Pat):=[(0,⟨21,[(0,.one (.own 0)),(3,.one (.v .i64))],[.arr Zb]⟩)]
abbrev Nv:Option Pat:=none
variable (w1173_2:Pat.D IK->Option (Ad Oi Nv))
def YA{R:Type}(L:Pat.D IK->Option R)(e:Ad Oi Nv->Option R)(x:Pat.D IK):Option R:=let e1_:=(al .i64 (x.1.2.1-(1:Int)));bif(((decide ((0:Int)<=e1_))&&(decide (e1_<(x.2.1.length:Int))))||(!(decide (x.1.2.1>(0:Int)))))then(bif((decide (x.1.2.1>(0:Int)))&&((x.2.1.getD (aq e1_) (0:Int))==(0:Int)))then(((L (((),e1_,()),x.2))))else(e (.inl (((),x.1.2),x.2))))else none
theorem bHh(d:Nat)(R:Type)(L:Pat.D IK->Option R)(e:Ad Oi Nv->Option R)(x:Pat.D IK):
  Bq ({cf [] [(93,2,LoopSpec.of IK jJ Oi Nv w1173_2)]with keep:=true}) (d+2) 93 (Bp Tryz.f93 2) IK jJ Oi Nv (R:=R) L e x=YA L e x:=by kernel_rfl
theorem aO3:Bn fun L e x=>YA L e x:=by intro _ _ _ _ _ _ _ h0 hL he _;unfold YA;repeat' (first|exact h0|exact hL _|exact he _|apply By|(apply Bz h0;intro _)|(apply BA<;>intro _))
def wC(w1173_2:Pat.D IK->Option (Ad Oi Nv))(a0:Ab Ze):Option (DenS It):=
 Vx.AQ (w1173_2 (((),(a0.length:Int),()),a0,())) fun y0=>
 Vx.AP y0 (fun y1=>
 bif((decide ((0:Int)<=y1.1.2.1))&&(decide (y1.1.2.1<=(y1.2.1.length:Int))))then(some ((y1.2.1.take (aq y1.1.2.1)),()))
 else none) (fun z1=>
 none)
theorem bDu(x:DenS Ic):run ({cf [] [(93,2,LoopSpec.of IK jJ Oi Nv w1173_2)]with keep:=true}) 9 93 Tryz.f93 Ic It x=wC w1173_2 x.1:=by kernel_rfl
def pW:IK.D->Option (Ad Oi Nv):=Bi fun L=>YA L some
def Xz(x:DenS Ic):Option (DenS It):=wC pW x.1
def B8:Sum:=Aj Ic It Xz (DenS.dflt It)
theorem aFR:Sound Tryz.prog G1 93 B8:=sd ({cf [] [(93,2,LoopSpec.of IK jJ Oi Nv pW)]with keep:=true}) 93 Tryz.f93 trivial ⟨rfl,fun d=>Bw (fun L e x=>YA L e x) (aO3) (fun _ _ _ _=>bHh ..),ak⟩ Ic It Xz _ (fun _=>bDu ..)
abbrev UN:=Ah Ic
abbrev US:=Ag Ic It
variable (p1173:UN)(f1173:US)
abbrev P6:Aa:=[(false,Ze),(false,Za)]
abbrev R1:Aa:=[(true,Ze)]
abbrev IJ:Pat:=⟨66,[(25,.one (.v .i64)),(0,.one (.sl Zb)),(5,.one (.v .i64)),(6,.one (.v .i64)),(26,.one (.v .i64)),(7,.one (.own 0))],[.arr Zb]⟩
abbrev jI:List (Nat×Shape):=[]
abbrev Oh:List (Nat×Pat):=[(0,⟨66,[(7,.one (.own 0))],[.arr Zb]⟩)]
abbrev Nu:Option Pat:=none
variable (w1171_7:Pat.D IJ->Option (Ad Oh Nu))
def Yz(p1173:UN)(f1173:US)(p173:BD)(f173:BE){R:Type}(L:Pat.D IJ->Option R)(e:Ad Oh Nu->Option R)(x:Pat.D IJ):Option R:=let e10_:=(al .i64 (x.1.2.2.1+x.1.2.2.2.2.1));let e8_:=(x.2.1.set (aq x.1.2.2.2.2.1) (AR .u64 (x.1.2.1.getD (aq e10_) (0:Int)) x.1.2.2.2.1));let e1_:=((decide ((0:Int)<=x.1.2.2.2.2.1))&&(decide (x.1.2.2.2.2.1<(e8_.length:Int))));let e2_:=e8_;let e9_:=(al .i64 (e10_+(1:Int)));let e3_:=(decide (e9_<(x.1.2.1.length:Int)));let e4_:=(x.1.1,x.1.2.1,x.1.2.2.1,x.1.2.2.2.1,(al .i64 (x.1.2.2.2.2.1+(1:Int))),(),());let e5_:=e9_;let e6_:=e10_;let e7_:=(al .i64 ((64:Int)-x.1.2.2.2.1));bif(decide (x.1.2.2.2.2.1<x.1.1))then(bif((decide ((0:Int)<=e6_))&&(decide (e6_<(x.1.2.1.length:Int))))then(bif(decide ((0:Int)<=x.1.2.2.2.1))then(bif((decide ((0:Int)<=x.1.2.2.2.2.1))&&(decide (x.1.2.2.2.2.1<(x.2.1.length:Int))))then(bif e3_ then(bif e1_ then(bif((decide ((0:Int)<=e5_))&&e3_)then(bif(decide ((0:Int)<=e7_))then(bif e1_ then(((L (e4_,(e2_.set (aq x.1.2.2.2.2.1) (Ao .u64 (e2_.getD (aq x.1.2.2.2.2.1) (0:Int)) (Bk .u64 (x.1.2.1.getD (aq e5_) (0:Int)) e7_))),()))))else none)else none)else none)else none)else(L (e4_,e2_,())))else none)else none)else none)else(e (.inl (((),()),x.2)))
theorem bHg(d:Nat)(R:Type)(L:Pat.D IJ->Option R)(e:Ad Oh Nu->Option R)(x:Pat.D IJ):
  Bq ({cf [(93,⟨Ic,It,p1173,f1173⟩),(93,⟨BW,BX,p173,f173⟩)] [(100,7,LoopSpec.of IJ jI Oh Nu w1171_7)]with keep:=true}) (d+2) 100 (Bp Tryz.f100 7) IJ jI Oh Nu (R:=R) L e x=Yz p1173 f1173 p173 f173 L e x:=by kernel_rfl
theorem aO2(p1173:UN)(f1173:US)(p173:BD)(f173:BE):Bn fun L e x=>Yz p1173 f1173 p173 f173 L e x:=by intro _ _ _ _ _ _ _ h0 hL he _;unfold Yz;repeat' (first|exact h0|exact hL _|exact he _|apply By|(apply Bz h0;intro _)|(apply BA<;>intro _))
def v9(p1173:UN)(f1173:US)(p173:BD)(f173:BE)(w1171_7:Pat.D IJ->Option (Ad Oh Nu))(a0:Ab Ze)(a1:Ab Za):Option (DenS R1):=
 let e3_:=(al .i64 (((f173 (a0,())).1.length:Int)-(Bl .i64 a1 (64:Int))))
 let e1_:=(bd (aq e3_) (0:Int))
 let e2_:=e3_
 bif(p173 (a0,()))then(bif(decide ((Bl .i64 a1 (64:Int))>=((f173 (a0,())).1.length:Int)))then(some ([],()))
 else bif((decide ((0:Int)<=e2_))&&(decide ((e2_*(8:Int))<=(140737488355328:Int))))then(Vx.AQ (w1171_7 (((e1_.length:Int),(f173 (a0,())).1,(Bl .i64 a1 (64:Int)),(ii a1 (64:Int)),(0:Int),(),()),e1_,())) fun y3=>
 Vx.AP y3 (fun y4=>
 bif(p1173 y4.2)then(some (f1173 y4.2))
 else none) (fun z4=>
 none))
 else none)
 else none
theorem bDt(x:DenS P6):run ({cf [(93,⟨Ic,It,p1173,f1173⟩),(93,⟨BW,BX,p173,f173⟩)] [(100,7,LoopSpec.of IJ jI Oh Nu w1171_7)]with keep:=true}) 9 100 Tryz.f100 P6 R1 x=v9 p1173 f1173 p173 f173 w1171_7 x.1 x.2.1:=by kernel_rfl
def pV:IJ.D->Option (Ad Oh Nu):=Bi fun L=>Yz B8.pre B8.F Ak.pre Ak.F L some
def m9(x:DenS P6):Option (DenS R1):=v9 B8.pre B8.F Ak.pre Ak.F pV x.1 x.2.1
def TU:Sum:=Aj P6 R1 m9 (DenS.dflt R1)
theorem aTT:Sound Tryz.prog G1 100 TU:=sd ({cf [(93,B8),(93,Ak)] [(100,7,LoopSpec.of IJ jI Oh Nu pV)]with keep:=true}) 100 Tryz.f100 ⟨aFR,Er,ak⟩ ⟨rfl,fun d=>Bw (fun L e x=>Yz B8.pre B8.F Ak.pre Ak.F L e x) (aO2 B8.pre B8.F Ak.pre Ak.F) (fun _ _ _ _=>bHg ..),ak⟩ P6 R1 m9 _ (fun _=>bDt ..)
abbrev aI1:=Ah P6
abbrev aKz:=Ag P6 R1
variable (p1171:aI1)(f1171:aKz)
abbrev Ih:Aa:=[(false,Ze),(false,Za)]
abbrev Iw:Aa:=[(false,Ze)]
abbrev IX:Pat:=⟨66,[(25,.one (.v .i64)),(0,.one (.sl Zb)),(5,.one (.v .i64)),(6,.one (.v .i64)),(26,.one (.v .i64)),(7,.one (.own 0))],[.arr Zb]⟩
abbrev jW:List (Nat×Shape):=[]
abbrev Oz:List (Nat×Pat):=[(0,⟨66,[(7,.one (.own 0))],[.arr Zb]⟩)]
abbrev NI:Option Pat:=none
variable (w171_7:Pat.D IX->Option (Ad Oz NI))
def YN(p173:BD)(f173:BE){R:Type}(L:Pat.D IX->Option R)(e:Ad Oz NI->Option R)(x:Pat.D IX):Option R:=let e10_:=(al .i64 (x.1.2.2.1+x.1.2.2.2.2.1));let e8_:=(x.2.1.set (aq x.1.2.2.2.2.1) (AR .u64 (x.1.2.1.getD (aq e10_) (0:Int)) x.1.2.2.2.1));let e1_:=((decide ((0:Int)<=x.1.2.2.2.2.1))&&(decide (x.1.2.2.2.2.1<(e8_.length:Int))));let e2_:=e8_;let e9_:=(al .i64 (e10_+(1:Int)));let e3_:=(decide (e9_<(x.1.2.1.length:Int)));let e4_:=(x.1.1,x.1.2.1,x.1.2.2.1,x.1.2.2.2.1,(al .i64 (x.1.2.2.2.2.1+(1:Int))),(),());let e5_:=e9_;let e6_:=e10_;let e7_:=(al .i64 ((64:Int)-x.1.2.2.2.1));bif(decide (x.1.2.2.2.2.1<x.1.1))then(bif((decide ((0:Int)<=e6_))&&(decide (e6_<(x.1.2.1.length:Int))))then(bif(decide ((0:Int)<=x.1.2.2.2.1))then(bif((decide ((0:Int)<=x.1.2.2.2.2.1))&&(decide (x.1.2.2.2.2.1<(x.2.1.length:Int))))then(bif e3_ then(bif e1_ then(bif((decide ((0:Int)<=e5_))&&e3_)then(bif(decide ((0:Int)<=e7_))then(bif e1_ then(((L (e4_,(e2_.set (aq x.1.2.2.2.2.1) (Ao .u64 (e2_.getD (aq x.1.2.2.2.2.1) (0:Int)) (Bk .u64 (x.1.2.1.getD (aq e5_) (0:Int)) e7_))),()))))else none)else none)else none)else none)else(L (e4_,e2_,())))else none)else none)else none)else(e (.inl (((),()),x.2)))
theorem bHu(d:Nat)(R:Type)(L:Pat.D IX->Option R)(e:Ad Oz NI->Option R)(x:Pat.D IX):
  Bq (cf [(93,⟨BW,BX,p173,f173⟩)] [(100,7,LoopSpec.of IX jW Oz NI w171_7)]) (d+2) 100 (Bp Tryz.f100 7) IX jW Oz NI (R:=R) L e x=YN p173 f173 L e x:=by kernel_rfl
theorem aPg(p173:BD)(f173:BE):Bn fun L e x=>YN p173 f173 L e x:=by intro _ _ _ _ _ _ _ h0 hL he _;unfold YN;repeat' (first|exact h0|exact hL _|exact he _|apply By|(apply Bz h0;intro _)|(apply BA<;>intro _))
def xD(p173:BD)(f173:BE)(w171_7:Pat.D IX->Option (Ad Oz NI))(a0:Ab Ze)(a1:Ab Za):Option (DenS Iw):=
 let e3_:=(al .i64 (((f173 (a0,())).1.length:Int)-(Bl .i64 a1 (64:Int))))
 let e1_:=(bd (aq e3_) (0:Int))
 let e2_:=e3_
 bif(p173 (a0,()))then(bif(decide ((Bl .i64 a1 (64:Int))>=((f173 (a0,())).1.length:Int)))then(some ([],()))
 else bif((decide ((0:Int)<=e2_))&&(decide ((e2_*(8:Int))<=(140737488355328:Int))))then(Vx.AQ (w171_7 (((e1_.length:Int),(f173 (a0,())).1,(Bl .i64 a1 (64:Int)),(ii a1 (64:Int)),(0:Int),(),()),e1_,())) fun y3=>
 Vx.AP y3 (fun y4=>
 bif(p173 y4.2)then(some (f173 y4.2))
 else none) (fun z4=>
 none))
 else none)
 else none
theorem bD5(x:DenS Ih):run (cf [(93,⟨BW,BX,p173,f173⟩)] [(100,7,LoopSpec.of IX jW Oz NI w171_7)]) 9 100 Tryz.f100 Ih Iw x=xD p173 f173 w171_7 x.1 x.2.1:=by kernel_rfl
def qH:IX.D->Option (Ad Oz NI):=Bi fun L=>YN Ak.pre Ak.F L some
def cA(x:DenS Ih):Option (DenS Iw):=xD Ak.pre Ak.F qH x.1 x.2.1
def CU:Sum:=Aj Ih Iw cA (DenS.dflt Iw)
theorem aAJ:Sound Tryz.prog G1 100 CU:=sd (cf [(93,Ak)] [(100,7,LoopSpec.of IX jW Oz NI qH)]) 100 Tryz.f100 ⟨Er,ak⟩ ⟨rfl,fun d=>Bw (fun L e x=>YN Ak.pre Ak.F L e x) (aPg Ak.pre Ak.F) (fun _ _ _ _=>bHu ..),ak⟩ Ih Iw cA _ (fun _=>bD5 ..)
abbrev UO:=Ah Ih
abbrev UT:=Ag Ih Iw
variable (p171:UO)(f171:UT)
abbrev Hj:Aa:=[(false,Zb)]
abbrev Hw:Aa:=[(false,Za)]
def zX(a0:Ab Zb):Option (DenS Hw):=let e1_:=(AR .u64 (al .u64 ((BR .u64 a0 (al .u64 ((0:Int)-a0)))*(285870213051353865:Int))) (58:Int));bif(a0==(0:Int))then(some ((64:Int),()))else bif(Vx.aET ((decide ((0:Int)<=e1_))&&(decide (e1_<((64:Nat):Int)))))then(some ((al .i64 (Vx.k_deb.getD (aq e1_) (0:Int))),()))else none
theorem r92(x:DenS Hj):run (cf [] []) 9 191 Tryz.f191 Hj Hw x=zX x.1:=by kernel_rfl
def XQ(x:DenS Hj):Option (DenS Hw):=zX x.1
def Cr:Sum:=Aj Hj Hw XQ (DenS.dflt Hw)
theorem aA1:Sound Tryz.prog G1 191 Cr:=sd (cf [] []) 191 Tryz.f191 trivial trivial Hj Hw XQ _ (fun _=>r92 ..)
abbrev Lt:=Ah Hj
abbrev Lx:=Ag Hj Hw
variable (p92:Lt)(f92:Lx)
abbrev Qt:Aa:=[(false,Ze),(false,Za)]
abbrev Sq:Aa:=[(false,.bool)]
abbrev I2:Pat:=⟨25,[(9,.one (.v .i64)),(8,.one (.sl Zb)),(1,.one (.v .i64)),(10,.one (.v .i64))],[]⟩
abbrev j2:List (Nat×Shape):=[]
abbrev OE:List (Nat×Pat):=[(0,⟨25,[],[]⟩)]
abbrev NN:Option Pat:=(some ⟨25,[(4,.one (.bool))],[]⟩)
variable (w184_2:Pat.D I2->Option (Ad OE NN))
def YQ(p173:BD)(f173:BE)(p92:Lt)(f92:Lx){R:Type}(L:Pat.D I2->Option R)(e:Ad OE NN->Option R)(x:Pat.D I2):Option R:=let e2_:=(x.1.2.1.getD (aq x.1.2.2.2.1) (0:Int));let e1_:=(e2_,());bif(decide (x.1.2.2.2.1<x.1.1))then(bif((decide ((0:Int)<=x.1.2.2.2.1))&&(decide (x.1.2.2.2.1<(x.1.2.1.length:Int))))then(bif(e2_ !=(0:Int))then(bif(p92 e1_)then(((e (.inr (((decide ((al .i64 ((al .i64 ((64:Int)*x.1.2.2.2.1))+(f92 e1_).1))>=x.1.2.2.1)),()),())))))else none)else(L ((x.1.1,x.1.2.1,x.1.2.2.1,(al .i64 (x.1.2.2.2.1+(1:Int))),()),())))else none)else(e (.inl ((),())))
theorem bHz(d:Nat)(R:Type)(L:Pat.D I2->Option R)(e:Ad OE NN->Option R)(x:Pat.D I2):
  Bq (cf [(93,⟨BW,BX,p173,f173⟩),(191,⟨Hj,Hw,p92,f92⟩)] [(156,2,LoopSpec.of I2 j2 OE NN w184_2)]) (d+2) 156 (Bp Tryz.f156 2) I2 j2 OE NN (R:=R) L e x=YQ p173 f173 p92 f92 L e x:=by kernel_rfl
theorem aPj(p173:BD)(f173:BE)(p92:Lt)(f92:Lx):Bn fun L e x=>YQ p173 f173 p92 f92 L e x:=by intro _ _ _ _ _ _ _ h0 hL he _;unfold YQ;repeat' (first|exact h0|exact hL _|exact he _|apply By|(apply Bz h0;intro _)|(apply BA<;>intro _))
def xK(p173:BD)(f173:BE)(p92:Lt)(f92:Lx)(w184_2:Pat.D I2->Option (Ad OE NN))(a0:Ab Ze)(a1:Ab Za):Option (DenS Sq):=
 bif(p173 (a0,()))then(Vx.AQ (w184_2 ((((f173 (a0,())).1.length:Int),(f173 (a0,())).1,a1,(0:Int),()),())) fun y1=>
 Vx.AP y1 (fun y2=>
 some (true,())) (fun z2=>
 some z2.1))
 else none
theorem bEf(x:DenS Qt):run (cf [(93,⟨BW,BX,p173,f173⟩),(191,⟨Hj,Hw,p92,f92⟩)] [(156,2,LoopSpec.of I2 j2 OE NN w184_2)]) 9 156 Tryz.f156 Qt Sq x=xK p173 f173 p92 f92 w184_2 x.1 x.2.1:=by kernel_rfl
def qK:I2.D->Option (Ad OE NN):=Bi fun L=>YQ Ak.pre Ak.F Cr.pre Cr.F L some
def nW(x:DenS Qt):Option (DenS Sq):=xK Ak.pre Ak.F Cr.pre Cr.F qK x.1 x.2.1
def Uc:Sum:=Aj Qt Sq nW (DenS.dflt Sq)
theorem aUi:Sound Tryz.prog G1 156 Uc:=sd (cf [(93,Ak),(191,Cr)] [(156,2,LoopSpec.of I2 j2 OE NN qK)]) 156 Tryz.f156 ⟨Er,aA1,ak⟩ ⟨rfl,fun d=>Bw (fun L e x=>YQ Ak.pre Ak.F Cr.pre Cr.F L e x) (aPj Ak.pre Ak.F Cr.pre Cr.F) (fun _ _ _ _=>bHz ..),ak⟩ Qt Sq nW _ (fun _=>bEf ..)
abbrev aJl:=Ah Qt
abbrev aKT:=Ag Qt Sq
variable (p184:aJl)(f184:aKT)
abbrev Qq:Aa:=[(false,Ze),(false,Za)]
abbrev Sn:Aa:=[(false,Ze),(false,Za)]
def xF(p1171:aI1)(f1171:aKz)(p171:UO)(f171:UT)(p184:aJl)(f184:aKT)(a0:Ab Ze)(a1:Ab Za):Option (DenS Sn):=let e1_:=(decide ((0:Int)<((f1171 (a0,a1,())).1.length:Int)));bif(decide (a1<(0:Int)))then(some ([],(7:Int),()))else bif(p1171 (a0,a1,()))then(bif(p184 (a0,a1,()))then(bif(!(f184 (a0,a1,())).1)then(bif(((f1171 (a0,a1,())).1.length:Int)==(0:Int))then(some (((1:Int)::[]),(0:Int),()))else bif e1_ then(bif e1_ then(some (((f1171 (a0,a1,())).1.set (aq (0:Int)) (Ao .u64 ((f1171 (a0,a1,())).1.getD (aq (0:Int)) (0:Int)) (1:Int))),(0:Int),()))else none)else none)else some ((f1171 (a0,a1,())).1,(0:Int),()))else none)else none
theorem bD9(x:DenS Qq):run (cf [(100,⟨P6,R1,p1171,f1171⟩),(100,⟨Ih,Iw,p171,f171⟩),(156,⟨Qt,Sq,p184,f184⟩)] []) 9 150 Tryz.f150 Qq Sn x=xF p1171 f1171 p171 f171 p184 f184 x.1 x.2.1:=by kernel_rfl
def cB(x:DenS Qq):Option (DenS Sn):=xF TU.pre TU.F CU.pre CU.F Uc.pre Uc.F x.1 x.2.1
def Xw:Sum:=Aj Qq Sn cB (DenS.dflt Sn)
theorem aUf:Sound Tryz.prog G1 150 Xw:=sd (cf [(100,TU),(100,CU),(156,Uc)] []) 150 Tryz.f150 ⟨aTT,aAJ,aUi,ak⟩ trivial Qq Sn cB _ (fun _=>bD9 ..)
abbrev aJi:=Ah Qq
abbrev aKQ:=Ag Qq Sn
variable (p175:aJi)(f175:aKQ)
abbrev Ki:Aa:=[(false,Ze),(false,Za)]
abbrev KI:Aa:=[(false,Ze)]
abbrev I4:Pat:=⟨56,[(26,.one (.v .i64)),(25,.one (.sl Zb)),(5,.one (.v .i64)),(6,.one (.v .i64)),(27,.one (.v .i64)),(7,.one (.own 0))],[.arr Zb]⟩
abbrev j5:List (Nat×Shape):=[]
abbrev OG:List (Nat×Pat):=[(0,⟨56,[(7,.one (.own 0))],[.arr Zb]⟩)]
abbrev NP:Option Pat:=none
variable (w186_7:Pat.D I4->Option (Ad OG NP))
def YS(p173:BD)(f173:BE){R:Type}(L:Pat.D I4->Option R)(e:Ad OG NP->Option R)(x:Pat.D I4):Option R:=let e6_:=(al .i64 (x.1.2.2.1+x.1.2.2.2.2.1));let e5_:=(aq e6_);let e7_:=(x.1.2.1.getD (aq x.1.2.2.2.2.1) (0:Int));let e1_:=(x.2.1.set e5_ (Ao .u64 (x.2.1.getD e5_ (0:Int)) (Bk .u64 e7_ x.1.2.2.2.1)));let e2_:=((decide ((0:Int)<=e6_))&&(decide (e6_<(x.2.1.length:Int))));let e3_:=(al .i64 (e6_+(1:Int)));let e4_:=(al .i64 ((64:Int)-x.1.2.2.2.1));bif(decide (x.1.2.2.2.2.1<x.1.1))then(bif((decide ((0:Int)<=x.1.2.2.2.2.1))&&(decide (x.1.2.2.2.2.1<(x.1.2.1.length:Int))))then(bif e2_ then(bif(decide ((0:Int)<=x.1.2.2.2.1))then(bif e2_ then(bif(decide ((0:Int)<=e4_))then(bif((decide ((0:Int)<=e3_))&&(decide (e3_<(e1_.length:Int))))then(((L ((x.1.1,x.1.2.1,x.1.2.2.1,x.1.2.2.2.1,(al .i64 (x.1.2.2.2.2.1+(1:Int))),(),()),(e1_.set (aq e3_) (AR .u64 e7_ e4_)),()))))else none)else none)else none)else none)else none)else none)else(e (.inl (((),()),x.2)))
theorem bHB(d:Nat)(R:Type)(L:Pat.D I4->Option R)(e:Ad OG NP->Option R)(x:Pat.D I4):
  Bq (cf [(93,⟨BW,BX,p173,f173⟩)] [(97,7,LoopSpec.of I4 j5 OG NP w186_7)]) (d+2) 97 (Bp Tryz.f97 7) I4 j5 OG NP (R:=R) L e x=YS p173 f173 L e x:=by kernel_rfl
theorem aPl(p173:BD)(f173:BE):Bn fun L e x=>YS p173 f173 L e x:=by intro _ _ _ _ _ _ _ h0 hL he _;unfold YS;repeat' (first|exact h0|exact hL _|exact he _|apply By|(apply Bz h0;intro _)|(apply BA<;>intro _))
def xM(p173:BD)(f173:BE)(w186_7:Pat.D I4->Option (Ad OG NP))(a0:Ab Ze)(a1:Ab Za):Option (DenS KI):=
 let e1_:=(al .i64 ((al .i64 ((Bl .i64 a1 (64:Int))+((f173 (a0,())).1.length:Int)))+(1:Int)))
 bif(p173 (a0,()))then(bif(((f173 (a0,())).1.length:Int)==(0:Int))then(some ([],()))
 else bif((decide ((0:Int)<=e1_))&&(decide ((e1_*(8:Int))<=(140737488355328:Int))))then(Vx.AQ (w186_7 ((((f173 (a0,())).1.length:Int),(f173 (a0,())).1,(Bl .i64 a1 (64:Int)),(ii a1 (64:Int)),(0:Int),(),()),(bd (aq e1_) (0:Int)),())) fun y3=>
 Vx.AP y3 (fun y4=>
 bif(p173 y4.2)then(some (f173 y4.2))
 else none) (fun z4=>
 none))
 else none)
 else none
theorem bEh(x:DenS Ki):run (cf [(93,⟨BW,BX,p173,f173⟩)] [(97,7,LoopSpec.of I4 j5 OG NP w186_7)]) 9 97 Tryz.f97 Ki KI x=xM p173 f173 w186_7 x.1 x.2.1:=by kernel_rfl
def qM:I4.D->Option (Ad OG NP):=Bi fun L=>YS Ak.pre Ak.F L some
def XG(x:DenS Ki):Option (DenS KI):=xM Ak.pre Ak.F qM x.1 x.2.1
def DN:Sum:=Aj Ki KI XG (DenS.dflt KI)
theorem aF4:Sound Tryz.prog G1 97 DN:=sd (cf [(93,Ak)] [(97,7,LoopSpec.of I4 j5 OG NP qM)]) 97 Tryz.f97 ⟨Er,ak⟩ ⟨rfl,fun d=>Bw (fun L e x=>YS Ak.pre Ak.F L e x) (aPl Ak.pre Ak.F) (fun _ _ _ _=>bHB ..),ak⟩ Ki KI XG _ (fun _=>bEh ..)
abbrev VT:=Ah Ki
abbrev V4:=Ag Ki KI
variable (p186:VT)(f186:V4)
abbrev Kh:Aa:=[(false,.slice Ze)]
abbrev KH:Aa:=[(false,.bool)]
abbrev I3:Pat:=⟨16,[(6,.one (.v .i64)),(5,.one (.sl Ze)),(7,.one (.v .i64))],[]⟩
abbrev j3:List (Nat×Shape):=[]
abbrev OF:List (Nat×Pat):=[(0,⟨16,[],[]⟩)]
abbrev NO:Option Pat:=(some ⟨16,[(2,.one (.bool))],[]⟩)
variable (w185_2:Pat.D I3->Option (Ad OF NO))
def YR(p173:BD)(f173:BE){R:Type}(L:Pat.D I3->Option R)(e:Ad OF NO->Option R)(x:Pat.D I3):Option R:=bif(decide (x.1.2.2.1<x.1.1))then(bif((decide ((0:Int)<=x.1.2.2.1))&&(decide (x.1.2.2.1<(x.1.2.1.length:Int))))then(bif(p173 ((x.1.2.1.getD (aq x.1.2.2.1) []),()))then(bif(decide (((f173 ((x.1.2.1.getD (aq x.1.2.2.1) []),())).1.length:Int)>(1024:Int)))then(((e (.inr ((true,()),())))))else(L ((x.1.1,x.1.2.1,(al .i64 (x.1.2.2.1+(1:Int))),()),())))else none)else none)else(e (.inl ((),())))
theorem bHA(d:Nat)(R:Type)(L:Pat.D I3->Option R)(e:Ad OF NO->Option R)(x:Pat.D I3):
  Bq (cf [(93,⟨BW,BX,p173,f173⟩)] [(96,2,LoopSpec.of I3 j3 OF NO w185_2)]) (d+2) 96 (Bp Tryz.f96 2) I3 j3 OF NO (R:=R) L e x=YR p173 f173 L e x:=by kernel_rfl
theorem aPk(p173:BD)(f173:BE):Bn fun L e x=>YR p173 f173 L e x:=by intro _ _ _ _ _ _ _ h0 hL he _;unfold YR;repeat' (first|exact h0|exact hL _|exact he _|apply By|(apply Bz h0;intro _)|(apply BA<;>intro _))
def xL(p173:BD)(f173:BE)(w185_2:Pat.D I3->Option (Ad OF NO))(a0:Ab (.slice Ze)):Option (DenS KH):=
 Vx.AQ (w185_2 (((a0.length:Int),a0,(0:Int),()),())) fun y0=>
 Vx.AP y0 (fun y1=>
 some (false,())) (fun z1=>
 some z1.1)
theorem bEg(x:DenS Kh):run (cf [(93,⟨BW,BX,p173,f173⟩)] [(96,2,LoopSpec.of I3 j3 OF NO w185_2)]) 9 96 Tryz.f96 Kh KH x=xL p173 f173 w185_2 x.1:=by kernel_rfl
def qL:I3.D->Option (Ad OF NO):=Bi fun L=>YR Ak.pre Ak.F L some
def VJ(x:DenS Kh):Option (DenS KH):=xL Ak.pre Ak.F qL x.1
def EX:Sum:=Aj Kh KH VJ (DenS.dflt KH)
theorem aAK:Sound Tryz.prog G1 96 EX:=sd (cf [(93,Ak)] [(96,2,LoopSpec.of I3 j3 OF NO qL)]) 96 Tryz.f96 ⟨Er,ak⟩ ⟨rfl,fun d=>Bw (fun L e x=>YR Ak.pre Ak.F L e x) (aPk Ak.pre Ak.F) (fun _ _ _ _=>bHA ..),ak⟩ Kh KH VJ _ (fun _=>bEg ..)
abbrev VS:=Ah Kh
abbrev V3:=Ag Kh KH
variable (p185:VS)(f185:V3)
abbrev Kg:Aa:=[(false,Ze),(false,Za)]
abbrev KG:Aa:=[(false,Ze),(false,Za)]
def xG(p186:VT)(f186:V4)(p185:VS)(f185:V3)(a0:Ab Ze)(a1:Ab Za):Option (DenS KG):=bif((decide (a1<(0:Int)))||(decide (a1>(65536:Int))))then(some ([],(7:Int),()))else bif(p185 ((a0::[]),()))then(bif(f185 ((a0::[]),())).1 then(some ([],(5:Int),()))else bif(p186 (a0,a1,()))then(bif(p185 (((f186 (a0,a1,())).1::[]),()))then(bif(f185 (((f186 (a0,a1,())).1::[]),())).1 then(some ([],(5:Int),()))else some ((f186 (a0,a1,())).1,(0:Int),()))else none)else none)else none
theorem bEa(x:DenS Kg):run (cf [(97,⟨Ki,KI,p186,f186⟩),(96,⟨Kh,KH,p185,f185⟩)] []) 9 67 Tryz.f67 Kg KG x=xG p186 f186 p185 f185 x.1 x.2.1:=by kernel_rfl
def XD(x:DenS Kg):Option (DenS KG):=xG DN.pre DN.F EX.pre EX.F x.1 x.2.1
def Ee:Sum:=Aj Kg KG XD (DenS.dflt KG)
theorem aF2:Sound Tryz.prog G1 67 Ee:=sd (cf [(97,DN),(96,EX)] []) 67 Tryz.f67 ⟨aF4,aAK,ak⟩ trivial Kg KG XD _ (fun _=>bEa ..)
abbrev VR:=Ah Kg
abbrev V2:=Ag Kg KG
variable (p176:VR)(f176:V2)
abbrev Ke:Aa:=[(false,Ze),(false,Za)]
abbrev KE:Aa:=[(false,Ze),(false,Za)]
def wR(p171:UO)(f171:UT)(a0:Ab Ze)(a1:Ab Za):Option (DenS KE):=bif(decide (a1<(0:Int)))then(some ([],(7:Int),()))else bif(p171 (a0,a1,()))then(some ((f171 (a0,a1,())).1,(0:Int),()))else none
theorem bDM(x:DenS Ke):run (cf [(100,⟨Ih,Iw,p171,f171⟩)] []) 9 103 Tryz.f103 Ke KE x=wR p171 f171 x.1 x.2.1:=by kernel_rfl
def VF(x:DenS Ke):Option (DenS KE):=wR CU.pre CU.F x.1 x.2.1
def Fu:Sum:=Aj Ke KE VF (DenS.dflt KE)
theorem aFY:Sound Tryz.prog G1 103 Fu:=sd (cf [(100,CU)] []) 103 Tryz.f103 ⟨aAJ,ak⟩ trivial Ke KE VF _ (fun _=>bDM ..)
abbrev VP:=Ah Ke
abbrev V0:=Ag Ke KE
variable (p141:VP)(f141:V0)
abbrev Qr:Aa:=[(false,Za),(false,.bool),(false,.bool),(false,Zb)]
abbrev So:Aa:=[(false,.bool)]
def xH(a0:Ab Za)(a1 a2:Ab (.bool))(a3:Ab Zb):Option (DenS So):=bif(a0==(4:Int))then(some ((!(!a1)),()))else bif(a0==(3:Int))then(some ((!a1),()))else bif(a0==(0:Int))then(bif(a3==(2:Int))then(some (a2,()))else some ((decide (a3>=(2:Int))),()))else bif(a0==(1:Int))then(some ((decide (a3>=(2:Int))),()))else bif(a0==(5:Int))then(some ((!a2),()))else some (false,())
theorem bEb(x:DenS Qr):run (cf [] []) 9 151 Tryz.f151 Qr So x=xH x.1 x.2.1 x.2.2.1 x.2.2.2.1:=by kernel_rfl
def XE(x:DenS Qr):Option (DenS So):=xH x.1 x.2.1 x.2.2.1 x.2.2.2.1
def Xx:Sum:=Aj Qr So XE (DenS.dflt So)
theorem aUg:Sound Tryz.prog G1 151 Xx:=sd (cf [] []) 151 Tryz.f151 trivial trivial Qr So XE _ (fun _=>bEb ..)
abbrev aJj:=Ah Qr
abbrev aKR:=Ag Qr So
variable (p177:aJj)(f177:aKR)
abbrev If:Aa:=[(false,Ze),(false,Ze)]
abbrev Hp:Aa:=[(false,Ze)]
abbrev IS:Pat:=⟨61,[(28,.one (.v .i64)),(1,.one (.sl Zb)),(29,.one (.v .i64)),(0,.one (.sl Zb)),(6,.one (.v .u64)),(5,.one (.own 0))],[.arr Zb]⟩
abbrev jR:List (Nat×Shape):=[]
abbrev Ou:List (Nat×Pat):=[(0,⟨61,[(0,.one (.sl Zb)),(6,.one (.v .u64)),(5,.one (.own 0))],[.arr Zb]⟩)]
abbrev ND:Option Pat:=none
variable (w143_8:Pat.D IS->Option (Ad Ou ND))
def YI(p155:Dk)(f155:Dl)(p173:BD)(f173:BE){R:Type}(L:Pat.D IS->Option R)(e:Ad Ou ND->Option R)(x:Pat.D IS):Option R:=let e8_:=(x.1.2.2.2.1.getD (aq x.1.2.2.1) (0:Int));let e7_:=((x.1.2.1.getD (aq x.1.2.2.1) (0:Int)),x.1.2.2.2.2.1,());let e1_:=(f155 (e8_,e7_));let e2_:=(f155 (e8_,(0:Int),x.1.2.2.2.2.1,()));let e3_:=((decide ((0:Int)<=x.1.2.2.1))&&(decide (x.1.2.2.1<(x.1.2.2.2.1.length:Int))));let e4_:=((decide ((0:Int)<=x.1.2.2.1))&&(decide (x.1.2.2.1<(x.2.1.length:Int))));let e5_:=(al .i64 (x.1.2.2.1+(1:Int)));let e6_:=e8_;bif(decide (x.1.2.2.1<x.1.1))then(bif(decide (x.1.2.2.1<(x.1.2.1.length:Int)))then(bif((decide ((0:Int)<=x.1.2.2.1))&&(decide (x.1.2.2.1<(x.1.2.1.length:Int))))then(bif e3_ then(bif(p155 (e6_,e7_))then(bif e4_ then(((L ((x.1.1,x.1.2.1,e5_,x.1.2.2.2.1,e1_.2.1,(),()),(x.2.1.set (aq x.1.2.2.1) e1_.1),()))))else none)else none)else none)else none)else bif e3_ then(bif(p155 (e6_,(0:Int),x.1.2.2.2.2.1,()))then(bif e4_ then(((L ((x.1.1,x.1.2.1,e5_,x.1.2.2.2.1,e2_.2.1,(),()),(x.2.1.set (aq x.1.2.2.1) e2_.1),()))))else none)else none)else none)else(e (.inl ((x.1.2.2.2.1,x.1.2.2.2.2.1,(),()),x.2)))
theorem bHp(d:Nat)(R:Type)(L:Pat.D IS->Option R)(e:Ad Ou ND->Option R)(x:Pat.D IS):
  Bq (cf [(94,⟨Fo,FN,p155,f155⟩),(93,⟨BW,BX,p173,f173⟩)] [(65,8,LoopSpec.of IS jR Ou ND w143_8)]) (d+2) 65 (Bp Tryz.f65 8) IS jR Ou ND (R:=R) L e x=YI p155 f155 p173 f173 L e x:=by kernel_rfl
theorem aPb(p155:Dk)(f155:Dl)(p173:BD)(f173:BE):Bn fun L e x=>YI p155 f155 p173 f173 L e x:=by intro _ _ _ _ _ _ _ h0 hL he _;unfold YI;repeat' (first|exact h0|exact hL _|exact he _|apply By|(apply Bz h0;intro _)|(apply BA<;>intro _))
def wS(p155:Dk)(f155:Dl)(p173:BD)(f173:BE)(w143_8:Pat.D IS->Option (Ad Ou ND))(a0 a1:Ab Ze):Option (DenS Hp):=
 let e5_:=(al .i64 (((f173 (a1,())).1.length:Int)+(1:Int)))
 let e1_:=(bd (aq e5_) (0:Int))
 let e6_:=(al .i64 (((f173 (a0,())).1.length:Int)+(1:Int)))
 let e2_:=(bd (aq e6_) (0:Int))
 let e3_:=e5_
 let e4_:=e6_
 bif(p173 (a0,()))then(bif(p173 (a1,()))then(bif(decide (((f173 (a0,())).1.length:Int)<((f173 (a1,())).1.length:Int)))then(bif((decide ((0:Int)<=e3_))&&(decide ((e3_*(8:Int))<=(140737488355328:Int))))then(Vx.AQ (w143_8 ((((f173 (a1,())).1.length:Int),(f173 (a0,())).1,(0:Int),(f173 (a1,())).1,(0:Int),(),()),(((f173 (a1,())).1.take e1_.length)++(e1_.drop (f173 (a1,())).1.length)),())) fun y4=>
 Vx.AP y4 (fun y5=>
 bif((decide ((0:Int)<=(y5.1.1.length:Int)))&&(decide ((y5.1.1.length:Int)<(y5.2.1.length:Int))))then(bif(p173 ((y5.2.1.set (aq (y5.1.1.length:Int)) y5.1.2.1),()))then(some (f173 ((y5.2.1.set (aq (y5.1.1.length:Int)) y5.1.2.1),())))
 else none)
 else none) (fun z5=>
 none))
 else none)
 else bif((decide ((0:Int)<=e4_))&&(decide ((e4_*(8:Int))<=(140737488355328:Int))))then(Vx.AQ (w143_8 ((((f173 (a0,())).1.length:Int),(f173 (a1,())).1,(0:Int),(f173 (a0,())).1,(0:Int),(),()),(((f173 (a0,())).1.take e2_.length)++(e2_.drop (f173 (a0,())).1.length)),())) fun y4=>
 Vx.AP y4 (fun y5=>
 bif((decide ((0:Int)<=(y5.1.1.length:Int)))&&(decide ((y5.1.1.length:Int)<(y5.2.1.length:Int))))then(bif(p173 ((y5.2.1.set (aq (y5.1.1.length:Int)) y5.1.2.1),()))then(some (f173 ((y5.2.1.set (aq (y5.1.1.length:Int)) y5.1.2.1),())))
 else none)
 else none) (fun z5=>
 none))
 else none)
 else none)
 else none
theorem bDO(x:DenS If):run (cf [(94,⟨Fo,FN,p155,f155⟩),(93,⟨BW,BX,p173,f173⟩)] [(65,8,LoopSpec.of IS jR Ou ND w143_8)]) 9 65 Tryz.f65 If Hp x=wS p155 f155 p173 f173 w143_8 x.1 x.2.1:=by kernel_rfl
def dE:IS.D->Option (Ad Ou ND):=Bi fun L=>YI AD.pre AD.F Ak.pre Ak.F L some
def XB(x:DenS If):Option (DenS Hp):=wS AD.pre AD.F Ak.pre Ak.F dE x.1 x.2.1
def Dx:Sum:=Aj If Hp XB (DenS.dflt Hp)
theorem aAH:Sound Tryz.prog G1 65 Dx:=sd (cf [(94,AD),(93,Ak)] [(65,8,LoopSpec.of IS jR Ou ND dE)]) 65 Tryz.f65 ⟨Xu,Er,ak⟩ ⟨rfl,fun d=>Bw (fun L e x=>YI AD.pre AD.F Ak.pre Ak.F L e x) (aPb AD.pre AD.F Ak.pre Ak.F) (fun _ _ _ _=>bHp ..),ak⟩ If Hp XB _ (fun _=>bDO ..)
abbrev OZ:=Ah If
abbrev O7:=Ag If Hp
variable (p143:OZ)(f143:O7)
abbrev Mj:Aa:=[(true,Zu),(false,Za),(false,Za)]
abbrev MV:Aa:=[(false,Ze),(false,.bool)]
def wZ(p175:aJi)(f175:aKQ)(p176:VR)(f176:V2)(p141:VP)(f141:V0)(p177:aJj)(f177:aKR)(p143:OZ)(f143:O7)(a0:Ab Zu)(a1 a2:Ab Za):Option (DenS MV):=let e47_:=(al .i64 (a2-a0.2.2.1));let e44_:=(f175 (a0.2.1,(al .i64 (e47_-(2:Int))),()));let e42_:=(e44_.1,(2:Int),());let e40_:=(f141 e42_);let e38_:=(e40_.1.length:Int);let e34_:=(decide (e38_>(0:Int)));let e28_:=(e34_&&((BR .u64 (e40_.1.getD (aq (0:Int)) (0:Int)) (1:Int))==(1:Int)));let e32_:=(BR .u64 (e44_.1.getD (aq (0:Int)) (0:Int)) (3:Int));let e30_:=(Ao .u64 e32_ (1:Int));let e1_:=(a1,a0.1,e28_,e30_,());let e45_:=(f176 (a0.2.1,(al .i64 ((2:Int)-e47_)),()));let e43_:=(e45_.1,(2:Int),());let e41_:=(f141 e43_);let e39_:=(e41_.1.length:Int);let e35_:=(decide (e39_>(0:Int)));let e29_:=(e35_&&((BR .u64 (e41_.1.getD (aq (0:Int)) (0:Int)) (1:Int))==(1:Int)));let e33_:=(BR .u64 (e45_.1.getD (aq (0:Int)) (0:Int)) (3:Int));let e31_:=(Ao .u64 e33_ (1:Int));let e2_:=(a1,a0.1,e29_,e31_,());let e3_:=(a1,a0.1,e28_,e32_,());let e4_:=(a1,a0.1,e29_,e33_,());let e46_:=((Ao .u64 (0:Int) (1:Int)),());let e5_:=(a1,a0.1,e28_,e46_);let e6_:=(a1,a0.1,e29_,e46_);let e7_:=((decide ((0:Int)<e38_))||(!e34_));let e8_:=((decide ((0:Int)<e39_))||(!e35_));let e9_:=((e30_ !=(0:Int)),());let e10_:=((e31_ !=(0:Int)),());let e11_:=e30_;let e12_:=e31_;let e13_:=((e32_ !=(0:Int)),());let e14_:=((e33_ !=(0:Int)),());let e15_:=e32_;let e16_:=e33_;let e36_:=(e40_.1,((1:Int)::[]),());let e17_:=(p143 e36_);let e18_:=(f143 e36_);let e37_:=(e41_.1,((1:Int)::[]),());let e19_:=(p143 e37_);let e20_:=(f143 e37_);let e21_:=e40_;let e22_:=e41_;let e23_:=(p141 e42_);let e24_:=(p141 e43_);let e25_:=(e44_.1.length:Int);let e26_:=(e45_.1.length:Int);let e27_:=e47_;bif(decide (e27_>=(2:Int)))then(bif(p175 (a0.2.1,(al .i64 (e27_-(2:Int))),()))then(bif(decide (e25_>(0:Int)))then(bif(decide ((0:Int)<e25_))then(bif a0.2.2.2.1 then(bif e23_ then(bif e7_ then(bif((p177 e1_)||(!(bif(e11_==(0:Int))then false else true)))then(bif((e11_ !=(0:Int))&&(f177 e1_).1)then(bif e17_ then(some (e18_.1,e9_))else none)else some (e21_.1,e9_))else none)else none)else none)else bif e23_ then(bif e7_ then(bif((p177 e3_)||(!(bif(e15_==(0:Int))then false else true)))then(bif((e15_ !=(0:Int))&&(f177 e3_).1)then(bif e17_ then(some (e18_.1,e13_))else none)else some (e21_.1,e13_))else none)else none)else none)else none)else bif a0.2.2.2.1 then(bif e23_ then(bif e7_ then(bif((p177 e5_)||false)then(bif(f177 e5_).1 then(bif e17_ then(some (e18_.1,true,()))else none)else some (e21_.1,true,()))else none)else none)else none)else bif e23_ then(bif e7_ then(bif((p177 (a1,a0.1,((decide ((e21_.1.length:Int)>(0:Int)))&&((BR .u64 (e21_.1.getD (aq (0:Int)) (0:Int)) (1:Int))==(1:Int))),(0:Int),()))||true)then(some (e21_.1,false,()))else none)else none)else none)else none)else bif(p176 (a0.2.1,(al .i64 ((2:Int)-e27_)),()))then(bif(decide (e26_>(0:Int)))then(bif(decide ((0:Int)<e26_))then(bif a0.2.2.2.1 then(bif e24_ then(bif e8_ then(bif((p177 e2_)||(!(bif(e12_==(0:Int))then false else true)))then(bif((e12_ !=(0:Int))&&(f177 e2_).1)then(bif e19_ then(some (e20_.1,e10_))else none)else some (e22_.1,e10_))else none)else none)else none)else bif e24_ then(bif e8_ then(bif((p177 e4_)||(!(bif(e16_==(0:Int))then false else true)))then(bif((e16_ !=(0:Int))&&(f177 e4_).1)then(bif e19_ then(some (e20_.1,e14_))else none)else some (e22_.1,e14_))else none)else none)else none)else none)else bif a0.2.2.2.1 then(bif e24_ then(bif e8_ then(bif((p177 e6_)||false)then(bif(f177 e6_).1 then(bif e19_ then(some (e20_.1,true,()))else none)else some (e22_.1,true,()))else none)else none)else none)else bif e24_ then(bif e8_ then(bif((p177 (a1,a0.1,((decide ((e22_.1.length:Int)>(0:Int)))&&((BR .u64 (e22_.1.getD (aq (0:Int)) (0:Int)) (1:Int))==(1:Int))),(0:Int),()))||true)then(some (e22_.1,false,()))else none)else none)else none)else none
theorem bDV(x:DenS Mj):run (cf [(150,⟨Qq,Sn,p175,f175⟩),(67,⟨Kg,KG,p176,f176⟩),(103,⟨Ke,KE,p141,f141⟩),(151,⟨Qr,So,p177,f177⟩),(65,⟨If,Hp,p143,f143⟩)] []) 9 142 Tryz.f142 Mj MV x=wZ p175 f175 p176 f176 p141 f141 p177 f177 p143 f143 x.1 x.2.1 x.2.2.1:=by kernel_rfl
def bX(x:DenS Mj):Option (DenS MV):=wZ Xw.pre Xw.F Ee.pre Ee.F Fu.pre Fu.F Xx.pre Xx.F Dx.pre Dx.F x.1 x.2.1 x.2.2.1
def Jp:Sum:=Aj Mj MV bX (DenS.dflt MV)
theorem aF0:Sound Tryz.prog G1 142 Jp:=sd (cf [(150,Xw),(67,Ee),(103,Fu),(151,Xx),(65,Dx)] []) 142 Tryz.f142 ⟨aUf,aF2,aFY,aUg,aAH,ak⟩ trivial Mj MV bX _ (fun _=>bDV ..)
abbrev aBp:=Ah Mj
abbrev aB3:=Ag Mj MV
variable (p150:aBp)(f150:aB3)
abbrev Hk:Aa:=[(false,Za),(false,.bool)]
abbrev Hx:Aa:=[(false,Zb),(false,Za)]
def t97(p116:rF)(f116:r7)(p69:BS)(f69:BT)(p91:HM)(f91:HP)(p140:XU)(f140:X4)(a0:Ab Za)(a1:Ab (.bool)):Option (DenS Hx):=let e2_:=((al .i64 ((f69 (a0,())).1.1-(f69 (a0,())).1.2.1)),());let e1_:=((f69 (a0,())).1,a1,(al .u64 ((f91 e2_).1-(f116 ((f69 (a0,())).1,())).1)),(f116 ((f69 (a0,())).1,())));bif(p69 (a0,()))then(bif((f69 (a0,())).2.1 !=(0:Int))then(some ((0:Int),(f69 (a0,())).2))else bif(p91 e2_)then(bif(p116 ((f69 (a0,())).1,()))then(bif(p116 ((f69 (a0,())).1,()))then(bif(p140 e1_)then(some ((f140 e1_).1,(0:Int),()))else none)else none)else none)else none)else none
theorem r97(x:DenS Hk):run (cf [(89,⟨Kc,KB,p116,f116⟩),(71,⟨B6,B7,p69,f69⟩),(72,⟨ES,EV,p91,f91⟩),(73,⟨Ie,Iu,p140,f140⟩)] []) 9 62 Tryz.f62 Hk Hx x=t97 p116 f116 p69 f69 p91 f91 p140 f140 x.1 x.2.1:=by kernel_rfl
def XR(x:DenS Hk):Option (DenS Hx):=t97 La.pre La.F Ap.pre Ap.F BV.pre BV.F GO.pre GO.F x.1 x.2.1
def CM:Sum:=Aj Hk Hx XR (DenS.dflt Hx)
theorem bN:Sound Tryz.prog G1 62 CM:=sd (cf [(89,La),(71,Ap),(72,BV),(73,GO)] []) 62 Tryz.f62 ⟨aAG,D1,Oc,lB,ak⟩ trivial Hk Hx XR _ (fun _=>r97 ..)
abbrev O5:=Ah Hk
abbrev Pd:=Ag Hk Hx
variable (p97:O5)(f97:Pd)
abbrev RV:Aa:=[(true,Zw)]
abbrev TR:Aa:=[(false,Zb)]
def t95(a0:Ab Zw):Option (DenS TR):=some ((1:Int),())
theorem r95(x:DenS RV):run (cf [] []) 9 154 Tryz.f154 RV TR x=t95 x.1:=by kernel_rfl
def T95(x:DenS RV):Option (DenS TR):=t95 x.1
def mW:Sum:=Aj RV TR T95 (DenS.dflt TR)
theorem aVK:Sound Tryz.prog G1 154 mW:=sd (cf [] []) 154 Tryz.f154 trivial trivial RV TR T95 _ (fun _=>r95 ..)
abbrev Y95:=Ah RV
abbrev Z95:=Ag RV TR
variable (p95:Y95)(f95:Z95)
abbrev RW:Aa:=[(true,Zw)]
abbrev TS:Aa:=[(false,Zb)]
def t96(p91:HM)(f91:HP)(a0:Ab Zw):Option (DenS TS):=let e1_:=((al .i64 (a0.2.1-(1:Int))),());bif(p91 e1_)then(some (f91 e1_))else none
theorem r96(x:DenS RW):run (cf [(72,⟨ES,EV,p91,f91⟩)] []) 9 155 Tryz.f155 RW TS x=t96 p91 f91 x.1:=by kernel_rfl
def T96(x:DenS RW):Option (DenS TS):=t96 BV.pre BV.F x.1
def mX:Sum:=Aj RW TS T96 (DenS.dflt TS)
theorem aVL:Sound Tryz.prog G1 155 mX:=sd (cf [(72,BV)] []) 155 Tryz.f155 ⟨Oc,ak⟩ trivial RW TS T96 _ (fun _=>r96 ..)
abbrev Y96:=Ah RW
abbrev Z96:=Ag RW TS
variable (p96:Y96)(f96:Z96)
abbrev Ru:Aa:=[(false,Za),(false,.bool)]
abbrev Tt:Aa:=[(false,Zb),(false,Za)]
def t43(p95:Y95)(f95:Z95)(p96:Y96)(f96:Z96)(p69:BS)(f69:BT)(p91:HM)(f91:HP)(p140:XU)(f140:X4)(a0:Ab Za)(a1:Ab (.bool)):Option (DenS Tt):=let e2_:=((al .i64 ((f69 (a0,())).1.1-(f69 (a0,())).1.2.1)),());let e1_:=((f69 (a0,())).1,a1,(al .u64 ((f91 e2_).1-(f95 ((f69 (a0,())).1,())).1)),(f96 ((f69 (a0,())).1,())));bif(p69 (a0,()))then(bif((f69 (a0,())).2.1 !=(0:Int))then(some ((0:Int),(f69 (a0,())).2))else bif(p91 e2_)then(bif(p95 ((f69 (a0,())).1,()))then(bif(p96 ((f69 (a0,())).1,()))then(bif(p140 e1_)then(some ((f140 e1_).1,(0:Int),()))else none)else none)else none)else none)else none
theorem r43(x:DenS Ru):run (cf [(154,⟨RV,TR,p95,f95⟩),(155,⟨RW,TS,p96,f96⟩),(71,⟨B6,B7,p69,f69⟩),(72,⟨ES,EV,p91,f91⟩),(73,⟨Ie,Iu,p140,f140⟩)] []) 9 149 Tryz.f149 Ru Tt x=t43 p95 f95 p96 f96 p69 f69 p91 f91 p140 f140 x.1 x.2.1:=by kernel_rfl
def cP(x:DenS Ru):Option (DenS Tt):=t43 mW.pre mW.F mX.pre mX.F Ap.pre Ap.F BV.pre BV.F GO.pre GO.F x.1 x.2.1
def Lc:Sum:=Aj Ru Tt cP (DenS.dflt Tt)
theorem aVd:Sound Tryz.prog G1 149 Lc:=sd (cf [(154,mW),(155,mX),(71,Ap),(72,BV),(73,GO)] []) 149 Tryz.f149 ⟨aVK,aVL,D1,Oc,lB,ak⟩ trivial Ru Tt cP _ (fun _=>r43 ..)
abbrev Y43:=Ah Ru
abbrev Z43:=Ag Ru Tt
variable (p43:Y43)(f43:Z43)
abbrev Qh:Aa:=[(false,Za),(false,Za),(false,.bool)]
abbrev Sc:Aa:=[(false,Zb)]
def wY(p97:O5)(f97:Pd)(p43:Y43)(f43:Z43)(a0 a1:Ab Za)(a2:Ab (.bool)):Option (DenS Sc):=bif((((a1==(0:Int))||(a1==(1:Int)))||((a1==(3:Int))&&(!a2)))||((a1==(4:Int))&&a2))then(bif(p97 (a0,a2,()))then(some ((f97 (a0,a2,())).1,()))else none)else bif(p43 (a0,a2,()))then(some ((f43 (a0,a2,())).1,()))else none
theorem bDU(x:DenS Qh):run (cf [(62,⟨Hk,Hx,p97,f97⟩),(149,⟨Ru,Tt,p43,f43⟩)] []) 9 141 Tryz.f141 Qh Sc x=wY p97 f97 p43 f43 x.1 x.2.1 x.2.2.1:=by kernel_rfl
def nO(x:DenS Qh):Option (DenS Sc):=wY CM.pre CM.F Lc.pre Lc.F x.1 x.2.1 x.2.2.1
def Xs:Sum:=Aj Qh Sc nO (DenS.dflt Sc)
theorem aT5:Sound Tryz.prog G1 141 Xs:=sd (cf [(62,CM),(149,Lc)] []) 141 Tryz.f141 ⟨bN,aVd,ak⟩ trivial Qh Sc nO _ (fun _=>bDU ..)
abbrev aI9:=Ah Qh
abbrev aKH:=Ag Qh Sc
variable (p149:aI9)(f149:aKH)
abbrev Qi:Aa:=[(true,Zu),(true,Zw),(false,Za),(false,Za)]
abbrev Se:Aa:=[(false,.bool)]
def w6(p150:aBp)(f150:aB3)(p151:Lr)(f151:Lv)(a0:Ab Zu)(a1:Ab Zw)(a2 a3:Ab Za):Option (DenS Se):=let e3_:=(al .i64 (a3-a1.2.1));let e1_:=((f150 ((a0.1,a0.2),a2,(al .i64 (e3_+(1:Int))),())).1,());let e2_:=e3_;bif(decide (a3>=a1.2.2.1))then(some (false,()))else bif(p150 ((a0.1,a0.2),a2,(al .i64 (e2_+(1:Int))),()))then(bif(p151 e1_)then(some ((decide ((al .i64 (e2_+(f151 e1_).1))<a1.2.2.1)),()))else none)else none
theorem bDX(x:DenS Qi):run (cf [(142,⟨Mj,MV,p150,f150⟩),(98,⟨Gn,Gz,p151,f151⟩)] []) 9 143 Tryz.f143 Qi Se x=w6 p150 f150 p151 f151 x.1 x.2.1 x.2.2.1 x.2.2.2.1:=by kernel_rfl
def nP(x:DenS Qi):Option (DenS Se):=w6 Jp.pre Jp.F Ck.pre Ck.F x.1 x.2.1 x.2.2.1 x.2.2.2.1
def Xt:Sum:=Aj Qi Se nP (DenS.dflt Se)
theorem aT7:Sound Tryz.prog G1 143 Xt:=sd (cf [(142,Jp),(98,Ck)] []) 143 Tryz.f143 ⟨aF0,aT,ak⟩ trivial Qi Se nP _ (fun _=>bDX ..)
abbrev aJa:=Ah Qi
abbrev aKI:=Ag Qi Se
variable (p152:aJa)(f152:aKI)
abbrev J9:Aa:=[(true,Zu),(false,Za),(true,Zw),(false,Za)]
abbrev Ky:Aa:=[(false,Zb),(false,Za)]
def v7(p148:aI8)(f148:aKG)(p150:aBp)(f150:aB3)(p151:Lr)(f151:Lv)(p149:aI9)(f149:aKH)(p152:aJa)(f152:aKI)(a0:Ab Zu)(a1:Ab Za)(a2:Ab Zw)(a3:Ab Za):Option (DenS Ky):=let e18_:=(al .i64 ((al .i64 ((if(a2.2.2.1>(f148 ((a0.1,a0.2),())).1)then a2.2.2.1 else(f148 ((a0.1,a0.2),())).1)-a2.2.1))+(1:Int)));let e21_:=(al .i64 (a2.2.1-(1:Int)));let e14_:=(Bk .u64 (al .u64 (al .i64 (e18_-(al .i64 ((al .i64 (a2.2.2.1-a2.2.1))+(1:Int)))))) e21_);let e17_:=((a0.1,a0.2),a3,e18_,());let e16_:=(f150 e17_);let e13_:=(al .u64 (e14_+(e16_.1.getD (aq (0:Int)) (0:Int))));let e22_:=(al .i64 (a2.1-(1:Int)));let e19_:=(Bk .u64 (1:Int) e22_);let e1_:=(Ao .u64 e13_ e19_);let e2_:=e13_;let e3_:=(Ao .u64 e14_ e19_);let e15_:=(e16_.1,());let e4_:=(decide ((al .i64 ((al .i64 (e18_+(f151 e15_).1))-(1:Int)))>a2.2.2.2.1));let e5_:=e14_;let e6_:=(e16_.1.length:Int);let e7_:=(p151 e15_);let e8_:=(!e16_.2.1);let e9_:=(decide ((0:Int)<=e22_));let e20_:=((a0.1,a0.2),(a2.1,a2.2),a3,(f148 ((a0.1,a0.2),())));let e10_:=(p152 e20_);let e11_:=(f152 e20_);let e12_:=((f149 (a1,a3,a0.1,())).1,(20:Int),());bif(p148 ((a0.1,a0.2),()))then(bif(decide ((f148 ((a0.1,a0.2),())).1>a2.2.2.2.1))then(bif(p149 (a1,a3,a0.1,()))then(some e12_)else none)else bif(p150 e17_)then(bif(decide ((0:Int)<=e21_))then(bif(decide (e6_>(0:Int)))then(bif(decide ((0:Int)<e6_))then(bif e7_ then(bif e4_ then(bif(p149 (a1,a3,a0.1,()))then(some e12_)else none)else bif a0.1 then(bif e9_ then(bif e8_ then(some (e1_,(0:Int),()))else bif e10_ then(bif e11_.1 then(some (e1_,(24:Int),()))else some (e1_,(16:Int),()))else none)else none)else bif e8_ then(some (e2_,(0:Int),()))else bif e10_ then(bif e11_.1 then(some (e2_,(24:Int),()))else some (e2_,(16:Int),()))else none)else none)else none)else bif e7_ then(bif e4_ then(bif(p149 (a1,a3,a0.1,()))then(some e12_)else none)else bif a0.1 then(bif e9_ then(bif e8_ then(some (e3_,(0:Int),()))else bif e10_ then(bif e11_.1 then(some (e3_,(24:Int),()))else some (e3_,(16:Int),()))else none)else none)else bif e8_ then(some (e5_,(0:Int),()))else bif e10_ then(bif e11_.1 then(some (e5_,(24:Int),()))else some (e5_,(16:Int),()))else none)else none)else none)else none)else none
theorem bDn(x:DenS J9):run (cf [(140,⟨Qg,Sb,p148,f148⟩),(142,⟨Mj,MV,p150,f150⟩),(98,⟨Gn,Gz,p151,f151⟩),(141,⟨Qh,Sc,p149,f149⟩),(143,⟨Qi,Se,p152,f152⟩)] []) 9 124 Tryz.f124 J9 Ky x=v7 p148 f148 p150 f150 p151 f151 p149 f149 p152 f152 x.1 x.2.1 x.2.2.1 x.2.2.2.1:=by kernel_rfl
def mZ(x:DenS J9):Option (DenS Ky):=v7 Xr.pre Xr.F Jp.pre Jp.F Ck.pre Ck.F Xs.pre Xs.F Xt.pre Xt.F x.1 x.2.1 x.2.2.1 x.2.2.2.1
def FV:Sum:=Aj J9 Ky mZ (DenS.dflt Ky)
theorem aAD:Sound Tryz.prog G1 124 FV:=sd (cf [(140,Xr),(142,Jp),(98,Ck),(141,Xs),(143,Xt)] []) 124 Tryz.f124 ⟨aT4,aF0,aT,aT5,aT7,ak⟩ trivial J9 Ky mZ _ (fun _=>bDn ..)
abbrev XT:=Ah J9
abbrev X3:=Ag J9 Ky
variable (p107:XT)(f107:X3)
abbrev Gl:Aa:=[(false,Za),(false,Za),(false,.bool),(true,Zj),(false,Za),(false,.bool)]
abbrev Gx:Aa:=[(false,Zb),(false,Za),(false,Za)]
def wH(p105:XS)(f105:X2)(p102:HK)(f102:HN)(p151:Lr)(f151:Lv)(p156:rK)(f156:sC)(p107:XT)(f107:X3)(a0 a1:Ab Za)(a2:Ab (.bool))(a3:Ab Zj)(a4:Ab Za)(a5:Ab (.bool)):Option (DenS Gx):=let e2_:=((a2,(f102 ((a3.2.1::(a3.1::[])),())).1,a4,a5,()),a0,(f105 (a0,a1,())).1,a1,());let e1_:=(f107 e2_);bif(p105 (a0,a1,()))then(bif((f105 (a0,a1,())).2.1 !=(0:Int))then(some ((0:Int),(0:Int),(f105 (a0,a1,())).2))else bif(p102 ((a3.2.1::(a3.1::[])),()))then(bif((decide (a4<(-(40000:Int))))||(decide (a4>(40000:Int))))then(some ((0:Int),(0:Int),(30:Int),()))else bif((p151 (f102 ((a3.2.1::(a3.1::[])),())))||(!a5))then(bif(a5&&(decide ((f151 (f102 ((a3.2.1::(a3.1::[])),()))).1<(al .i64 ((f105 (a0,a1,())).1.2.1+(2:Int))))))then(some ((0:Int),(0:Int),(7:Int),()))else bif(((f102 ((a3.2.1::(a3.1::[])),())).1.length:Int)==(0:Int))then(bif(p156 (a0,a2,()))then(some (f156 (a0,a2,())))else none)else bif(p107 e2_)then(some (e1_.1,e1_.2.1,(0:Int),()))else none)else none)else none)else none
theorem bDA(x:DenS Gl):run (cf [(121,⟨J8,Kx,p105,f105⟩),(122,⟨FF,FM,p102,f102⟩),(98,⟨Gn,Gz,p151,f151⟩),(123,⟨Mk,MW,p156,f156⟩),(124,⟨J9,Ky,p107,f107⟩)] []) 9 104 Tryz.f104 Gl Gx x=wH p105 f105 p102 f102 p151 f151 p156 f156 p107 f107 x.1 x.2.1 x.2.2.1 x.2.2.2.1 x.2.2.2.2.1 x.2.2.2.2.2.1:=by kernel_rfl
def nD(x:DenS Gl):Option (DenS Gx):=wH FU.pre FU.F Cj.pre Cj.F Ck.pre Ck.F Jq.pre Jq.F FV.pre FV.F x.1 x.2.1 x.2.2.1 x.2.2.2.1 x.2.2.2.2.1 x.2.2.2.2.2.1
def C1:Sum:=Aj Gl Gx nD (DenS.dflt Gx)
theorem Xq:Sound Tryz.prog G1 104 C1:=sd (cf [(121,FU),(122,Cj),(98,Ck),(123,Jq),(124,FV)] []) 104 Tryz.f104 ⟨aAC,aS,aT,aF1,aAD,ak⟩ trivial Gl Gx nD _ (fun _=>bDA ..)
abbrev F4:=Ah Gl
abbrev F5:=Ag Gl Gx
variable (p122:F4)(f122:F5)
end Vx
namespace Vx
open Go Go.Proofs
variable (p119:VO)(f119:VZ)(p120:dN)(f120:eG)(p121:dO)(f121:eH)(p123:OY)(f123:O6)(p124:dP)(f124:eI)(p118:GX)(f118:GY)(p122:F4)(f122:F5)
abbrev RR:Aa:=[(false,Za),(false,Za),(true,Zn),(true,Zn)]
abbrev IG:Aa:=[(false,Zb),(false,Za),(false,Za)]
def aSP(p119:VO)(f119:VZ)(p120:dN)(f120:eG)(p121:dO)(f121:eH)(p123:OY)(f123:O6)(p124:dP)(f124:eI)(p118:GX)(f118:GY)(p122:F4)(f122:F5)(d1 d2 d3:Int)(i1:DenS KC)(h1:DenS MP)(k1:Bool)(f m:Int)(nx:Bool)(X ex:Int)(ny:Bool)(Y ey:Int):Option (DenS IG):=bif(p119 (((0:Int),(X,())),(d1,())))then(bif(p120 (((0:Int),(Y,())),(d3,())))then(bif(p119 (h1.1,(d3,())))then(bif(p120 (((0:Int),(Y,())),(d3,())))then(bif(nx==ny)then(bif(p121 (i1.1,h1))then(bif(p122 (f,(m,(nx,((f121 (i1.1,h1)).1,(d2,(k1,())))))))then(some (f122 (f,(m,(nx,((f121 (i1.1,h1)).1,(d2,(k1,()))))))))else none)else none)else bif(p123 (i1.1,h1))then(bif(decide ((f123 (i1.1,h1)).1<(0:Int)))then(bif(p124 (h1.1,i1))then(bif k1 then(bif(p124 ((f124 (h1.1,i1)).1,(((0:Int),((1:Int),())),())))then(bif((((f124 ((f124 (h1.1,i1)).1,(((0:Int),((1:Int),())),()))).1.1==(0:Int))&&((f124 ((f124 (h1.1,i1)).1,(((0:Int),((1:Int),())),()))).1.2.1==(0:Int)))&&(!k1))then(bif(p118 (f,((m==(4:Int)),())))then(some ((f118 (f,((m==(4:Int)),()))).1,((0:Int),((0:Int),()))))else none)else bif(p122 (f,(m,(ny,((f124 ((f124 (h1.1,i1)).1,(((0:Int),((1:Int),())),()))).1,(d2,(k1,())))))))then(some (f122 (f,(m,(ny,((f124 ((f124 (h1.1,i1)).1,(((0:Int),((1:Int),())),()))).1,(d2,(k1,()))))))))else none)else none)else bif((((f124 (h1.1,i1)).1.1==(0:Int))&&((f124 (h1.1,i1)).1.2.1==(0:Int)))&&(!k1))then(bif(p118 (f,((m==(4:Int)),())))then(some ((f118 (f,((m==(4:Int)),()))).1,((0:Int),((0:Int),()))))else none)else bif(p122 (f,(m,(ny,((f124 (h1.1,i1)).1,(d2,(k1,())))))))then(some (f122 (f,(m,(ny,((f124 (h1.1,i1)).1,(d2,(k1,()))))))))else none)else none)else bif(p124 (i1.1,h1))then(bif k1 then(bif(p124 ((f124 (i1.1,h1)).1,(((0:Int),((1:Int),())),())))then(bif((((f124 ((f124 (i1.1,h1)).1,(((0:Int),((1:Int),())),()))).1.1==(0:Int))&&((f124 ((f124 (i1.1,h1)).1,(((0:Int),((1:Int),())),()))).1.2.1==(0:Int)))&&(!k1))then(bif(p118 (f,((m==(4:Int)),())))then(some ((f118 (f,((m==(4:Int)),()))).1,((0:Int),((0:Int),()))))else none)else bif(p122 (f,(m,(nx,((f124 ((f124 (i1.1,h1)).1,(((0:Int),((1:Int),())),()))).1,(d2,(k1,())))))))then(some (f122 (f,(m,(nx,((f124 ((f124 (i1.1,h1)).1,(((0:Int),((1:Int),())),()))).1,(d2,(k1,()))))))))else none)else none)else bif((((f124 (i1.1,h1)).1.1==(0:Int))&&((f124 (i1.1,h1)).1.2.1==(0:Int)))&&(!k1))then(bif(p118 (f,((m==(4:Int)),())))then(some ((f118 (f,((m==(4:Int)),()))).1,((0:Int),((0:Int),()))))else none)else bif(p122 (f,(m,(nx,((f124 (i1.1,h1)).1,(d2,(k1,())))))))then(some (f122 (f,(m,(nx,((f124 (i1.1,h1)).1,(d2,(k1,()))))))))else none)else none)else none)else none)else none)else none)else none
def aE(p119:VO)(f119:VZ)(p120:dN)(f120:eG)(p121:dO)(f121:eH)(p123:OY)(f123:O6)(p124:dP)(f124:eI)(p118:GX)(f118:GY)(p122:F4)(f122:F5)(f m:Int)(nx:Bool)(X ex:Int)(ny:Bool)(Y ey:Int):Option (DenS IG):=aSP p119 f119 p120 f120 p121 f121 p123 f123 p124 f124 p118 f118 p122 f122 (if((70:Int)<(al .i64 (ex-ey)))then(70:Int)else(al .i64 (ex-ey))) (al .i64 (ex-(if((70:Int)<(al .i64 (ex-ey)))then(70:Int)else(al .i64 (ex-ey))))) (al .i64 ((al .i64 (ex-(if((70:Int)<(al .i64 (ex-ey)))then(70:Int)else(al .i64 (ex-ey)))))-ey)) (f119 (((0:Int),(X,())),((if((70:Int)<(al .i64 (ex-ey)))then(70:Int)else(al .i64 (ex-ey))),()))) (f120 (((0:Int),(Y,())),((al .i64 ((al .i64 (ex-(if((70:Int)<(al .i64 (ex-ey)))then(70:Int)else(al .i64 (ex-ey)))))-ey)),()))) ((!(((f119 ((f120 (((0:Int),(Y,())),((al .i64 ((al .i64 (ex-(if((70:Int)<(al .i64 (ex-ey)))then(70:Int)else(al .i64 (ex-ey)))))-ey)),()))).1,((al .i64 ((al .i64 (ex-(if((70:Int)<(al .i64 (ex-ey)))then(70:Int)else(al .i64 (ex-ey)))))-ey)),()))).1.1==(0:Int))&&((f119 ((f120 (((0:Int),(Y,())),((al .i64 ((al .i64 (ex-(if((70:Int)<(al .i64 (ex-ey)))then(70:Int)else(al .i64 (ex-ey)))))-ey)),()))).1,((al .i64 ((al .i64 (ex-(if((70:Int)<(al .i64 (ex-ey)))then(70:Int)else(al .i64 (ex-ey)))))-ey)),()))).1.2.1==Y)))||((decide ((al .i64 ((al .i64 (ex-(if((70:Int)<(al .i64 (ex-ey)))then(70:Int)else(al .i64 (ex-ey)))))-ey))>(63:Int)))&&(Y !=(0:Int)))) f m nx X ex ny Y ey
def t71(p119:VO)(f119:VZ)(p120:dN)(f120:eG)(p121:dO)(f121:eH)(p123:OY)(f123:O6)(p124:dP)(f124:eI)(p118:GX)(f118:GY)(p122:F4)(f122:F5)(a0 a1:Ab Za)(a2 a3:Ab Zn):Option (DenS IG):=bif(((a2.2.1==(0:Int))&&(a3.2.1==(0:Int)))&&(a2.1==a3.1))then(bif(p118 (a0,a2.1,()))then(some ((f118 (a0,a2.1,())).1,(0:Int),(0:Int),()))else none)else bif((a2.2.1==(0:Int))||((a3.2.1 !=(0:Int))&&(decide (a2.2.2.1<a3.2.2.1))))then(bif(a2.2.1==(0:Int))then(aE p119 f119 p120 f120 p121 f121 p123 f123 p124 f124 p118 f118 p122 f122 a0 a1 a3.1 a3.2.1 a3.2.2.1 a2.1 a2.2.1 a3.2.2.1)else(aE p119 f119 p120 f120 p121 f121 p123 f123 p124 f124 p118 f118 p122 f122 a0 a1 a3.1 a3.2.1 a3.2.2.1 a2.1 a2.2.1 a2.2.2.1))else bif(a3.2.1==(0:Int))then(aE p119 f119 p120 f120 p121 f121 p123 f123 p124 f124 p118 f118 p122 f122 a0 a1 a2.1 a2.2.1 a2.2.2.1 a3.1 a3.2.1 a2.2.2.1)else(aE p119 f119 p120 f120 p121 f121 p123 f123 p124 f124 p118 f118 p122 f122 a0 a1 a2.1 a2.2.1 a2.2.2.1 a3.1 a3.2.1 a3.2.2.1)
theorem r71(x:DenS RR):run (cf [(208,⟨Md,KC,p119,f119⟩),(234,⟨P8,MP,p120,f120⟩),(235,⟨P9,R3,p121,f121⟩),(236,⟨Kd,KD,p123,f123⟩),(237,⟨Qa,R4,p124,f124⟩),(64,⟨Gk,Gw,p118,f118⟩),(104,⟨Gl,Gx,p122,f122⟩)] []) 9 193 Tryz.f193 RR IG x=t71 p119 f119 p120 f120 p121 f121 p123 f123 p124 f124 p118 f118 p122 f122 x.1 x.2.1 x.2.2.1 x.2.2.2.1:=by kernel_rfl
def dA(x:DenS RR):Option (DenS IG):=t71 Jo.pre Jo.F TX.pre TX.F TY.pre TY.F EB.pre EB.F TZ.pre TZ.F Cw.pre Cw.F C1.pre C1.F x.1 x.2.1 x.2.2.1 x.2.2.2.1
def UI:Sum:=Aj RR IG dA (DenS.dflt IG)
theorem aVG:Sound Tryz.prog G1 193 UI:=sd (cf [(208,Jo),(234,TX),(235,TY),(236,EB),(237,TZ),(64,Cw),(104,C1)] []) 193 Tryz.f193 ⟨aFS,aTW,aTX,aFT,aTY,Xp,Xq,ak⟩ trivial RR IG dA _ (fun _=>r71 ..)
abbrev Y71:=Ah RR
abbrev Z71:=Ag RR IG
variable (p71:Y71)(f71:Z71)
end Vx
namespace Vx
open Go Go.Proofs
variable (p69:BS)(f69:BT)(p66:Cd)(f66:Ce)(p91:HM)(f91:HP)(p90:eB)(f90:eX)(p65:D3)(f65:D4)(p70:DA)(f70:DB)(p98:Lu)(f98:Ly)(p72:Y72)(f72:Z72)(p155:Dk)(f155:Dl)(p157:HL)(f157:HO)(p118:GX)(f118:GY)(p105:XS)(f105:X2)(p173:BD)(f173:BE)(p146:VQ)(f146:V1)(p102:HK)(f102:HN)(p178:Jw)(f178:Jz)(p151:Lr)(f151:Lv)(p156:rK)(f156:sC)(p1173:UN)(f1173:US)(p171:UO)(f171:UT)(p92:Lt)(f92:Lx)(p186:VT)(f186:V4)(p185:VS)(f185:V3)(p176:VR)(f176:V2)(p143:OZ)(f143:O7)(p97:O5)(f97:Pd)(p107:XT)(f107:X3)(p122:F4)(f122:F5)(p71:Y71)(f71:Z71)
abbrev Mn:Aa:=[(false,Za),(false,Za),(false,Zb),(false,Zb)]
abbrev MY:Aa:=[(false,Zb),(false,Za),(false,Za)]
def xP(p69:BS)(f69:BT)(p65:D3)(f65:D4)(p70:DA)(f70:DB)(p72:Y72)(f72:Z72)(p71:Y71)(f71:Z71)(a0 a1:Ab Za)(a2 a3:Ab Zb):Option (DenS MY):=let e1_:=(a0,a1,(f72 (a0,(f69 (a0,())).1,a2,())).1,(f72 (a0,(f69 (a0,())).1,a3,())));let e2_:=(((f65 (a0,a2,())).1==(2:Int))||((f65 (a0,a2,())).1==(9:Int)));let e3_:=(((f65 (a0,a3,())).1==(2:Int))||((f65 (a0,a3,())).1==(9:Int)));let e4_:=((f70 (a0,())).1,(1:Int),(0:Int),());bif(p69 (a0,()))then(bif((f69 (a0,())).2.1 !=(0:Int))then(some ((0:Int),(0:Int),(f69 (a0,())).2))else bif((decide (a1<(0:Int)))||(decide (a1>(5:Int))))then(some ((0:Int),(0:Int),(3:Int),()))else bif(p65 (a0,a2,()))then(bif((f65 (a0,a2,())).2.1 !=(0:Int))then(some ((0:Int),(0:Int),(f65 (a0,a2,())).2))else bif(p65 (a0,a3,()))then(bif((f65 (a0,a3,())).2.1 !=(0:Int))then(some ((0:Int),(0:Int),(f65 (a0,a3,())).2))else bif(p70 (a0,()))then(bif(((f65 (a0,a2,())).1==(0:Int))||((f65 (a0,a3,())).1==(0:Int)))then(some e4_)else bif(((f65 (a0,a2,())).1==(1:Int))||((f65 (a0,a3,())).1==(1:Int)))then(some ((f70 (a0,())).1,(0:Int),(0:Int),()))else bif((e2_&&e3_)&&((f65 (a0,a2,())).1 !=(f65 (a0,a3,())).1))then(some e4_)else bif e2_ then(some (a2,(0:Int),(0:Int),()))else bif e3_ then(some (a3,(0:Int),(0:Int),()))else bif(p72 (a0,(f69 (a0,())).1,a2,()))then(bif(p72 (a0,(f69 (a0,())).1,a3,()))then(bif(p71 e1_)then(some (f71 e1_))else none)else none)else none)else none)else none)else none)else none
theorem r27(x:DenS Mn):run (cf [(71,⟨B6,B7,p69,f69⟩),(59,⟨DW,DX,p65,f65⟩),(61,⟨Du,Dv,p70,f70⟩),(194,⟨RS,TO,p72,f72⟩),(193,⟨RR,IG,p71,f71⟩)] []) 9 158 Tryz.f158 Mn MY x=xP p69 f69 p65 f65 p70 f70 p72 f72 p71 f71 x.1 x.2.1 x.2.2.1 x.2.2.2.1:=by kernel_rfl
def XH(x:DenS Mn):Option (DenS MY):=xP Ap.pre Ap.F Bs.pre Bs.F Bh.pre Bh.F UJ.pre UJ.F UI.pre UI.F x.1 x.2.1 x.2.2.1 x.2.2.2.1
def EY:Sum:=Aj Mn MY XH (DenS.dflt MY)
theorem aAL:Sound Tryz.prog G1 158 EY:=sd (cf [(71,Ap),(59,Bs),(61,Bh),(194,UJ),(193,UI)] []) 158 Tryz.f158 ⟨D1,HH,FZ,aVH,aVG,ak⟩ trivial Mn MY XH _ (fun _=>r27 ..)
abbrev rL:=Ah Mn
abbrev sD:=Ag Mn MY
variable (p27:rL)(f27:sD)
abbrev Kb:Aa:=[(false,Za)]
abbrev KA:Aa:=[(false,Zb)]
def aRf(a0:Ab Za):Option (DenS KA):=let e1_:=(al .i64 ((Vx.k_rows.getD (aq a0) ((0:Int),(0:Int),(0:Int),(0:Int),())).1-(1:Int)));bif((decide ((0:Int)<=a0))&&(decide (a0<((4:Nat):Int))))then(bif(decide ((0:Int)<=e1_))then(some ((Bk .u64 (1:Int) e1_),()))else none)else none
theorem bDq(x:DenS Kb):run (cf [] []) 9 233 Tryz.f233 Kb KA x=aRf x.1:=by kernel_rfl
def m8(x:DenS Kb):Option (DenS KA):=aRf x.1
def FW:Sum:=Aj Kb KA m8 (DenS.dflt KA)
theorem aAF:Sound Tryz.prog G1 233 FW:=sd (cf [] []) 233 Tryz.f233 trivial trivial Kb KA m8 _ (fun _=>bDq ..)
abbrev dM:=Ah Kb
abbrev eE:=Ag Kb KA
variable (p115:dM)(f115:eE)
abbrev Kr:Aa:=[(false,Za),(false,Zb)]
abbrev KU:Aa:=[(false,Zb),(false,Za)]
def zL(p66:Cd)(f66:Ce)(p115:dM)(f115:eE)(a0:Ab Za)(a1:Ab Zb):Option (DenS KU):=bif(p66 (a0,a1,()))then(bif((f66 (a0,a1,())).1 !=(0:Int))then(some ((0:Int),(f66 (a0,a1,()))))else bif(p115 (a0,()))then(some ((jE .u64 a1 (f115 (a0,())).1),(0:Int),()))else none)else none
theorem r64(x:DenS Kr):run (cf [(85,⟨CG,CH,p66,f66⟩),(233,⟨Kb,KA,p115,f115⟩)] []) 9 187 Tryz.f187 Kr KU x=zL p66 f66 p115 f115 x.1 x.2.1:=by kernel_rfl
def pH(x:DenS Kr):Option (DenS KU):=zL Av.pre Av.F FW.pre FW.F x.1 x.2.1
def Fv:Sum:=Aj Kr KU pH (DenS.dflt KU)
theorem mT:Sound Tryz.prog G1 187 Fv:=sd (cf [(85,Av),(233,FW)] []) 187 Tryz.f187 ⟨FY,aAF,ak⟩ trivial Kr KU pH _ (fun _=>r64 ..)
abbrev X0:=Ah Kr
abbrev Ya:=Ag Kr KU
variable (p64:X0)(f64:Ya)
abbrev Qw:Aa:=[(false,Za),(false,Za),(false,Zb),(false,Zb)]
abbrev Su:Aa:=[(false,Zb),(false,Za),(false,Za)]
def xN(p66:Cd)(f66:Ce)(p64:X0)(f64:Ya)(p27:rL)(f27:sD)(a0 a1:Ab Za)(a2 a3:Ab Zb):Option (DenS Su):=let e1_:=(a0,a1,a2,(f64 (a0,a3,())).1,());bif(p66 (a0,a3,()))then(bif((f66 (a0,a3,())).1==(0:Int))then(bif(p64 (a0,a3,()))then(bif(p27 e1_)then(some (f27 e1_))else none)else none)else bif(p27 (a0,a1,a2,a3,()))then(some (f27 (a0,a1,a2,a3,())))else none)else none
theorem r25(x:DenS Qw):run (cf [(85,⟨CG,CH,p66,f66⟩),(187,⟨Kr,KU,p64,f64⟩),(158,⟨Mn,MY,p27,f27⟩)] []) 9 159 Tryz.f159 Qw Su x=xN p66 f66 p64 f64 p27 f27 x.1 x.2.1 x.2.2.1 x.2.2.2.1:=by kernel_rfl
def cD(x:DenS Qw):Option (DenS Su):=xN Av.pre Av.F Fv.pre Fv.F EY.pre EY.F x.1 x.2.1 x.2.2.1 x.2.2.2.1
def N8:Sum:=Aj Qw Su cD (DenS.dflt Su)
theorem aF7:Sound Tryz.prog G1 159 N8:=sd (cf [(85,Av),(187,Fv),(158,EY)] []) 159 Tryz.f159 ⟨FY,mT,aAL,ak⟩ trivial Qw Su cD _ (fun _=>r25 ..)
abbrev Y25:=Ah Qw
abbrev Z25:=Ag Qw Su
variable (p25:Y25)(f25:Z25)
abbrev QI:Aa:=[(false,Za),(true,Zw),(false,Zb)]
abbrev SI:Aa:=[(true,Zt),(false,Za)]
def Z8(p65:D3)(f65:D4)(p98:Lu)(f98:Ly)(a0:Ab Za)(a1:Ab Zw)(a2:Ab Zb):Option (DenS SI):=let e1_:=(al .i64 (a1.2.1-(1:Int)));bif(p65 (a0,a2,()))then(bif((f65 (a0,a2,())).2.1 !=(0:Int))then(some (((0:Int),false,(0:Int),(0:Int),()),(f65 (a0,a2,())).2))else bif(p98 (a0,a2,()))then(bif((f98 (a0,a2,())).2.1==(0:Int))then(some (((f65 (a0,a2,())).1,(f98 (a0,a2,())).1,(f98 (a0,a2,())).2.2.1,(al .i64 ((al .i64 ((al .i64 ((al .i64 ((al .i64 (1:Int))-(1:Int)))+a1.2.2.1))-a1.2.1))+(1:Int))),()),(0:Int),()))else bif(decide ((0:Int)<=e1_))then(some (((f65 (a0,a2,())).1,(f98 (a0,a2,())).1,(Ao .u64 (f98 (a0,a2,())).2.2.1 (Bk .u64 (1:Int) e1_)),(al .i64 ((al .i64 ((al .i64 ((al .i64 ((al .i64 (f98 (a0,a2,())).2.1)-(1:Int)))+a1.2.2.1))-a1.2.1))+(1:Int))),()),(0:Int),()))else none)else none)else none
theorem bEH(x:DenS QI):run (cf [(59,⟨DW,DX,p65,f65⟩),(91,⟨FG,FR,p98,f98⟩)] []) 9 195 Tryz.f195 QI SI x=Z8 p65 f65 p98 f98 x.1 x.2.1 x.2.2.1:=by kernel_rfl
def cK(x:DenS QI):Option (DenS SI):=Z8 Bs.pre Bs.F Cs.pre Cs.F x.1 x.2.1 x.2.2.1
def Ug:Sum:=Aj QI SI cK (DenS.dflt SI)
theorem aUB:Sound Tryz.prog G1 195 Ug:=sd (cf [(59,Bs),(91,Cs)] []) 195 Tryz.f195 ⟨HH,VD,ak⟩ trivial QI SI cK _ (fun _=>bEH ..)
abbrev aJr:=Ah QI
abbrev aKZ:=Ag QI SI
variable (p350:aJr)(f350:aKZ)
abbrev QJ:Aa:=[(true,Zt)]
abbrev SJ:Aa:=[(false,.bool)]
def aRB(a0:Ab Zt):Option (DenS SJ):=some (((a0.1==(1:Int))||(a0.1==(0:Int))),())
theorem bEI(x:DenS QJ):run (cf [] []) 9 196 Tryz.f196 QJ SJ x=aRB x.1:=by kernel_rfl
def n7(x:DenS QJ):Option (DenS SJ):=aRB x.1
def Uh:Sum:=Aj QJ SJ n7 (DenS.dflt SJ)
theorem aUC:Sound Tryz.prog G1 196 Uh:=sd (cf [] []) 196 Tryz.f196 trivial trivial QJ SJ n7 _ (fun _=>bEI ..)
abbrev aJs:=Ah QJ
abbrev aK0:=Ag QJ SJ
variable (p351:aJs)(f351:aK0)
abbrev QK:Aa:=[(true,Zt)]
abbrev SK:Aa:=[(false,.bool)]
def aRC(a0:Ab Zt):Option (DenS SK):=some (((a0.1==(2:Int))||(a0.1==(9:Int))),())
theorem bEJ(x:DenS QK):run (cf [] []) 9 197 Tryz.f197 QK SK x=aRC x.1:=by kernel_rfl
def n8(x:DenS QK):Option (DenS SK):=aRC x.1
def Ui:Sum:=Aj QK SK n8 (DenS.dflt SK)
theorem aUD:Sound Tryz.prog G1 197 Ui:=sd (cf [] []) 197 Tryz.f197 trivial trivial QK SK n8 _ (fun _=>bEJ ..)
abbrev aJt:=Ah QK
abbrev aK1:=Ag QK SK
variable (p352:aJt)(f352:aK1)
abbrev QL:Aa:=[(true,Zt)]
abbrev SL:Aa:=[(false,.bool)]
def aRD(a0:Ab Zt):Option (DenS SL):=some (((a0.1==(5:Int))||(a0.1==(6:Int))),())
theorem bEK(x:DenS QL):run (cf [] []) 9 198 Tryz.f198 QL SL x=aRD x.1:=by kernel_rfl
def n9(x:DenS QL):Option (DenS SL):=aRD x.1
def Uj:Sum:=Aj QL SL n9 (DenS.dflt SL)
theorem aUE:Sound Tryz.prog G1 198 Uj:=sd (cf [] []) 198 Tryz.f198 trivial trivial QL SL n9 _ (fun _=>bEK ..)
abbrev aJu:=Ah QL
abbrev aK2:=Ag QL SL
variable (p353:aJu)(f353:aK2)
abbrev EQ:Aa:=[(false,Zb),(false,Zb)]
abbrev ET:Aa:=[(false,Zb),(false,Zb)]
def xR(a0 a1:Ab Zb):Option (DenS ET):=let e2_:=(BR .u64 a1 (4294967295:Int));let e3_:=(BR .u64 a0 (4294967295:Int));let e1_:=(al .u64 ((al .u64 ((AR .u64 a0 (32:Int))*e2_))+(AR .u64 (al .u64 (e3_*e2_)) (32:Int))));some ((al .u64 ((al .u64 ((al .u64 ((AR .u64 a0 (32:Int))*(AR .u64 a1 (32:Int))))+(AR .u64 e1_ (32:Int))))+(AR .u64 (al .u64 ((BR .u64 e1_ (4294967295:Int))+(al .u64 (e3_*(AR .u64 a1 (32:Int)))))) (32:Int)))),(al .u64 (a0*a1)),())
theorem bEs(x:DenS EQ):run (cf [] []) 9 120 Tryz.f120 EQ ET x=xR x.1 x.2.1:=by kernel_rfl
def nX(x:DenS EQ):Option (DenS ET):=xR x.1 x.2.1
def Bo:Sum:=Aj EQ ET nX (DenS.dflt ET)
theorem lM:Sound Tryz.prog G1 120 Bo:=sd (cf [] []) 120 Tryz.f120 trivial trivial EQ ET nX _ (fun _=>bEs ..)
abbrev E9:=Ah EQ
abbrev Fb:=Ag EQ ET
variable (p315:E9)(f315:Fb)
abbrev Kj:Aa:=[(false,Zb),(false,Zb)]
abbrev KJ:Aa:=[(true,Zj)]
def xS(p315:E9)(f315:Fb)(a0 a1:Ab Zb):Option (DenS KJ):=bif(p315 (a0,a1,()))then(some ((f315 (a0,a1,())),()))else none
theorem bEt(x:DenS Kj):run (cf [(120,⟨EQ,ET,p315,f315⟩)] []) 9 199 Tryz.f199 Kj KJ x=xS p315 f315 x.1 x.2.1:=by kernel_rfl
def nY(x:DenS Kj):Option (DenS KJ):=xS Bo.pre Bo.F x.1 x.2.1
def EC:Sum:=Aj Kj KJ nY (DenS.dflt KJ)
theorem aF9:Sound Tryz.prog G1 199 EC:=sd (cf [(120,Bo)] []) 199 Tryz.f199 ⟨lM,ak⟩ trivial Kj KJ nY _ (fun _=>bEt ..)
abbrev XW:=Ah Kj
abbrev X6:=Ag Kj KJ
variable (p316:XW)(f316:X6)
abbrev QM:Aa:=[(false,Za),(false,Za),(false,Zb),(false,Zb)]
abbrev SM:Aa:=[(false,Zb),(false,Za),(false,Za)]
def x6(p69:BS)(f69:BT)(p350:aJr)(f350:aKZ)(p351:aJs)(f351:aK0)(p70:DA)(f70:DB)(p352:aJt)(f352:aK1)(p97:O5)(f97:Pd)(p353:aJu)(f353:aK2)(p118:GX)(f118:GY)(p316:XW)(f316:X6)(p122:F4)(f122:F5)(a0 a1:Ab Za)(a2 a3:Ab Zb):Option (DenS SM):=let e18_:=(!((f350 (a0,(f69 (a0,())).1,a2,())).1.2.1==(f350 (a0,(f69 (a0,())).1,a3,())).1.2.1));let e17_:=((f350 (a0,(f69 (a0,())).1,a2,())).1.2.2.1,(f350 (a0,(f69 (a0,())).1,a3,())).1.2.2.1,());let e1_:=(a0,a1,e18_,(f316 e17_).1,(al .i64 ((f350 (a0,(f69 (a0,())).1,a2,())).1.2.2.2.1+(f350 (a0,(f69 (a0,())).1,a3,())).1.2.2.2.1)),false,());let e20_:=((f350 (a0,(f69 (a0,())).1,a2,())).1,());let e19_:=(f352 e20_);let e21_:=((f350 (a0,(f69 (a0,())).1,a3,())).1,());let e2_:=(e19_.1&&(f353 e21_).1);let e16_:=(a0,e18_,());let e3_:=(f118 e16_);let e4_:=(f97 e16_);let e5_:=e16_;let e6_:=(f353 e20_);let e7_:=e19_;let e8_:=(f351 e20_);let e9_:=(p352 e20_);let e10_:=(p353 e21_);let e11_:=(p353 e20_);let e12_:=(p352 e21_);let e13_:=(f352 e21_);let e14_:=e21_;let e15_:=((f70 (a0,())).1,(1:Int),(f70 (a0,())).2);bif(p69 (a0,()))then(bif((f69 (a0,())).2.1 !=(0:Int))then(some ((0:Int),(0:Int),(f69 (a0,())).2))else bif((decide (a1<(0:Int)))||(decide (a1>(5:Int))))then(some ((0:Int),(0:Int),(3:Int),()))else bif(p350 (a0,(f69 (a0,())).1,a2,()))then(bif((f350 (a0,(f69 (a0,())).1,a2,())).2.1 !=(0:Int))then(some ((0:Int),(0:Int),(f350 (a0,(f69 (a0,())).1,a2,())).2))else bif(p350 (a0,(f69 (a0,())).1,a3,()))then(bif((f350 (a0,(f69 (a0,())).1,a3,())).2.1 !=(0:Int))then(some ((0:Int),(0:Int),(f350 (a0,(f69 (a0,())).1,a3,())).2))else bif(p351 e20_)then(bif((p351 e14_)||(!(bif e8_.1 then false else true)))then(bif(e8_.1||(f351 e14_).1)then(bif(((f350 (a0,(f69 (a0,())).1,a2,())).1.1==(0:Int))||((f350 (a0,(f69 (a0,())).1,a3,())).1.1==(0:Int)))then(bif(p70 (a0,()))then(some e15_)else none)else bif(p70 (a0,()))then(some ((f70 (a0,())).1,(0:Int),(f70 (a0,())).2))else none)else bif e9_ then(bif(e10_||(!e7_.1))then(bif(e11_||(!(bif e2_ then false else true)))then(bif(e12_||(!((bif e2_ then false else true)&&e6_.1)))then(bif(e2_||(e6_.1&&e13_.1))then(bif(p70 (a0,()))then(some e15_)else none)else bif e9_ then(bif(e12_||(!(bif e7_.1 then false else true)))then(bif(e7_.1||e13_.1)then(bif(p97 e5_)then(some (e4_.1,(0:Int),e4_.2))else none)else bif e11_ then(bif(e10_||(!(bif e6_.1 then false else true)))then(bif(e6_.1||(f353 e14_).1)then(bif(p118 e5_)then(some (e3_.1,(0:Int),e3_.2))else none)else bif(p316 e17_)then(bif(p122 e1_)then(some (f122 e1_))else none)else none)else none)else none)else none)else none)else none)else none)else none)else none)else none)else none)else none)else none)else none
theorem bEL(x:DenS QM):run (cf [(71,⟨B6,B7,p69,f69⟩),(195,⟨QI,SI,p350,f350⟩),(196,⟨QJ,SJ,p351,f351⟩),(61,⟨Du,Dv,p70,f70⟩),(197,⟨QK,SK,p352,f352⟩),(62,⟨Hk,Hx,p97,f97⟩),(198,⟨QL,SL,p353,f353⟩),(64,⟨Gk,Gw,p118,f118⟩),(199,⟨Kj,KJ,p316,f316⟩),(104,⟨Gl,Gx,p122,f122⟩)] []) 9 160 Tryz.f160 QM SM x=x6 p69 f69 p350 f350 p351 f351 p70 f70 p352 f352 p97 f97 p353 f353 p118 f118 p316 f316 p122 f122 x.1 x.2.1 x.2.2.1 x.2.2.2.1:=by kernel_rfl
def cL(x:DenS QM):Option (DenS SM):=x6 Ap.pre Ap.F Ug.pre Ug.F Uh.pre Uh.F Bh.pre Bh.F Ui.pre Ui.F CM.pre CM.F Uj.pre Uj.F Cw.pre Cw.F EC.pre EC.F C1.pre C1.F x.1 x.2.1 x.2.2.1 x.2.2.2.1
def N9:Sum:=Aj QM SM cL (DenS.dflt SM)
theorem aGb:Sound Tryz.prog G1 160 N9:=sd (cf [(71,Ap),(195,Ug),(196,Uh),(61,Bh),(197,Ui),(62,CM),(198,Uj),(64,Cw),(199,EC),(104,C1)] []) 160 Tryz.f160 ⟨D1,aUB,aUC,FZ,aUD,bN,aUE,Xp,aF9,Xq,ak⟩ trivial QM SM cL _ (fun _=>bEL ..)
abbrev aBB:=Ah QM
abbrev aCf:=Ag QM SM
variable (p354:aBB)(f354:aCf)
abbrev QP:Aa:=[(false,Za),(false,Za),(false,Ze)]
abbrev SP:Aa:=[(false,Za)]
abbrev Ja:Pat:=⟨39,[(27,.one (.v .i64)),(26,.one (.sl Zb)),(0,.one (.v .i64)),(28,.one (.v .i64))],[]⟩
abbrev kC:List (Nat×Shape):=[]
abbrev ON:List (Nat×Pat):=[(0,⟨39,[],[]⟩)]
abbrev NW:Option Pat:=(some ⟨39,[(6,.one (.v .i64))],[]⟩)
variable (w376_7:Pat.D Ja->Option (Ad ON NW))
def Y0(p69:BS)(f69:BT)(p66:Cd)(f66:Ce){R:Type}(L:Pat.D Ja->Option R)(e:Ad ON NW->Option R)(x:Pat.D Ja):Option R:=let e2_:=(x.1.2.2.1,(x.1.2.1.getD (aq x.1.2.2.2.1) (0:Int)),());let e1_:=(f66 e2_);bif(decide (x.1.2.2.2.1<x.1.1))then(bif((decide ((0:Int)<=x.1.2.2.2.1))&&(decide (x.1.2.2.2.1<(x.1.2.1.length:Int))))then(bif(p66 e2_)then(bif(e1_.1 !=(0:Int))then(((e (.inr (e1_,())))))else(L ((x.1.1,x.1.2.1,x.1.2.2.1,(al .i64 (x.1.2.2.2.1+(1:Int))),()),())))else none)else none)else(e (.inl ((),())))
theorem bHO(d:Nat)(R:Type)(L:Pat.D Ja->Option R)(e:Ad ON NW->Option R)(x:Pat.D Ja):
  Bq (cf [(71,⟨B6,B7,p69,f69⟩),(85,⟨CG,CH,p66,f66⟩)] [(200,7,LoopSpec.of Ja kC ON NW w376_7)]) (d+2) 200 (Bp Tryz.f200 7) Ja kC ON NW (R:=R) L e x=Y0 p69 f69 p66 f66 L e x:=by kernel_rfl
theorem aPt(p69:BS)(f69:BT)(p66:Cd)(f66:Ce):Bn fun L e x=>Y0 p69 f69 p66 f66 L e x:=by intro _ _ _ _ _ _ _ h0 hL he _;unfold Y0;repeat' (first|exact h0|exact hL _|exact he _|apply By|(apply Bz h0;intro _)|(apply BA<;>intro _))
def x7(p69:BS)(f69:BT)(p66:Cd)(f66:Ce)(w376_7:Pat.D Ja->Option (Ad ON NW))(a0 a1:Ab Za)(a2:Ab Ze):Option (DenS SP):=
 bif(p69 (a0,()))then(bif((f69 (a0,())).2.1 !=(0:Int))then(some (f69 (a0,())).2)
 else bif((decide (a1<(0:Int)))||(decide (a1>(5:Int))))then(some ((3:Int),()))
 else Vx.AQ (w376_7 (((a2.length:Int),a2,a0,(0:Int),()),())) fun y3=>
 Vx.AP y3 (fun y4=>
 some ((0:Int),())) (fun z4=>
 some z4.1))
 else none
theorem bEO(x:DenS QP):run (cf [(71,⟨B6,B7,p69,f69⟩),(85,⟨CG,CH,p66,f66⟩)] [(200,7,LoopSpec.of Ja kC ON NW w376_7)]) 9 200 Tryz.f200 QP SP x=x7 p69 f69 p66 f66 w376_7 x.1 x.2.1 x.2.2.1:=by kernel_rfl
def qS:Ja.D->Option (Ad ON NW):=Bi fun L=>Y0 Ap.pre Ap.F Av.pre Av.F L some
def cM(x:DenS QP):Option (DenS SP):=x7 Ap.pre Ap.F Av.pre Av.F qS x.1 x.2.1 x.2.2.1
def Ul:Sum:=Aj QP SP cM (DenS.dflt SP)
theorem aUG:Sound Tryz.prog G1 200 Ul:=sd (cf [(71,Ap),(85,Av)] [(200,7,LoopSpec.of Ja kC ON NW qS)]) 200 Tryz.f200 ⟨D1,FY,ak⟩ ⟨rfl,fun d=>Bw (fun L e x=>Y0 Ap.pre Ap.F Av.pre Av.F L e x) (aPt Ap.pre Ap.F Av.pre Av.F) (fun _ _ _ _=>bHO ..),ak⟩ QP SP cM _ (fun _=>bEO ..)
abbrev aJx:=Ah QP
abbrev aK5:=Ag QP SP
variable (p376:aJx)(f376:aK5)
abbrev QQ:Aa:=[(false,Za),(false,Zb)]
abbrev SQ:Aa:=[(true,.pair .bool (.pair .bool (.pair .bool (.pair .bool Zd))))]
def x8(p65:D3)(f65:D4)(p98:Lu)(f98:Ly)(a0:Ab Za)(a1:Ab Zb):Option (DenS SQ):=bif(p65 (a0,a1,()))then(bif(p98 (a0,a1,()))then(some (((((f65 (a0,a1,())).1==(1:Int))||((f65 (a0,a1,())).1==(0:Int))),((f65 (a0,a1,())).1==(0:Int)),(((f65 (a0,a1,())).1==(9:Int))||((f65 (a0,a1,())).1==(2:Int))),(((f65 (a0,a1,())).1==(6:Int))||((f65 (a0,a1,())).1==(5:Int))),(f98 (a0,a1,())).1,()),()))else none)else none
theorem bEP(x:DenS QQ):run (cf [(59,⟨DW,DX,p65,f65⟩),(91,⟨FG,FR,p98,f98⟩)] []) 9 201 Tryz.f201 QQ SQ x=x8 p65 f65 p98 f98 x.1 x.2.1:=by kernel_rfl
def oB(x:DenS QQ):Option (DenS SQ):=x8 Bs.pre Bs.F Cs.pre Cs.F x.1 x.2.1
def Um:Sum:=Aj QQ SQ oB (DenS.dflt SQ)
theorem aUH:Sound Tryz.prog G1 201 Um:=sd (cf [(59,Bs),(91,Cs)] []) 201 Tryz.f201 ⟨HH,VD,ak⟩ trivial QQ SQ oB _ (fun _=>bEP ..)
abbrev aJy:=Ah QQ
abbrev aK6:=Ag QQ SQ
variable (p377:aJy)(f377:aK6)
abbrev QR:Aa:=[(false,Za),(false,Za)]
abbrev SR:Aa:=[(false,Zb),(false,Za),(false,Za)]
def x9(p70:DA)(f70:DB)(a0 a1:Ab Za):Option (DenS SR):=bif(p70 (a0,()))then(some ((f70 (a0,())).1,a1,(f70 (a0,())).2))else none
theorem bEQ(x:DenS QR):run (cf [(61,⟨Du,Dv,p70,f70⟩)] []) 9 202 Tryz.f202 QR SR x=x9 p70 f70 x.1 x.2.1:=by kernel_rfl
def oC(x:DenS QR):Option (DenS SR):=x9 Bh.pre Bh.F x.1 x.2.1
def Un:Sum:=Aj QR SR oC (DenS.dflt SR)
theorem aUI:Sound Tryz.prog G1 202 Un:=sd (cf [(61,Bh)] []) 202 Tryz.f202 ⟨FZ,ak⟩ trivial QR SR oC _ (fun _=>bEQ ..)
abbrev aJz:=Ah QR
abbrev aK7:=Ag QR SR
variable (p378:aJz)(f378:aK7)
abbrev Hf:Aa:=[(false,Za),(false,Zb)]
abbrev Hr:Aa:=[(true,Zs),(false,Za)]
def yE(p66:Cd)(f66:Ce)(p90:eB)(f90:eX)(p91:HM)(f91:HP)(p92:Lt)(f92:Lx)(a0:Ab Za)(a1:Ab Zb):Option (DenS Hr):=let e10_:=(Vx.k_rows.getD (aq a0) ((0:Int),(0:Int),(0:Int),(0:Int),()));let e9_:=(f90 (e10_,a1,()));let e8_:=(Ao .u64 e9_.2.2.1 (Bk .u64 (1:Int) (al .i64 (e10_.2.1-(1:Int)))));let e1_:=(f92 (e8_,()));let e2_:=e8_;let e3_:=((al .i64 (e10_.1-e10_.2.1)),());let e4_:=(f92 e9_.2.2);let e5_:=e9_;let e6_:=e10_;let e7_:=((false,[],(0:Int),()),(0:Int),());bif(p66 (a0,a1,()))then(bif((f66 (a0,a1,())).1 !=(0:Int))then(some ((false,[],(0:Int),()),(f66 (a0,a1,()))))else bif(bif(decide ((0:Int)<=a0))then(decide (a0<((4:Nat):Int)))else false)then(bif(p90 (e6_,a1,()))then(bif(p91 e3_)then(bif(e5_.2.1==(f91 e3_).1)then(some ((false,[],(0:Int),()),(40:Int),()))else bif(e5_.2.1==(0:Int))then(bif(e5_.2.2.1==(0:Int))then(some e7_)else bif(p92 e5_.2.2)then(bif(decide ((0:Int)<=e4_.1))then(some ((e5_.1,((AR .u64 e5_.2.2.1 e4_.1)::[]),(al .i64 ((al .i64 ((al .i64 ((al .i64 ((al .i64 ((al .i64 (1:Int))-(1:Int)))+e6_.2.2.1))-e6_.2.1))+(1:Int)))+e4_.1)),()),(0:Int),()))else none)else none)else bif(decide ((0:Int)<=(al .i64 (e6_.2.1-(1:Int)))))then(bif(e2_==(0:Int))then(some e7_)else bif(p92 (e2_,()))then(bif(decide ((0:Int)<=e1_.1))then(some ((e5_.1,((AR .u64 e2_ e1_.1)::[]),(al .i64 ((al .i64 ((al .i64 ((al .i64 ((al .i64 ((al .i64 e5_.2.1)-(1:Int)))+e6_.2.2.1))-e6_.2.1))+(1:Int)))+e1_.1)),()),(0:Int),()))else none)else none)else none)else none)else none)else none)else none
theorem r40(x:DenS Hf):run (cf [(85,⟨CG,CH,p66,f66⟩),(87,⟨Kv,KY,p90,f90⟩),(72,⟨ES,EV,p91,f91⟩),(191,⟨Hj,Hw,p92,f92⟩)] []) 9 203 Tryz.f203 Hf Hr x=yE p66 f66 p90 f90 p91 f91 p92 f92 x.1 x.2.1:=by kernel_rfl
def oG(x:DenS Hf):Option (DenS Hr):=yE Av.pre Av.F D2.pre D2.F BV.pre BV.F Cr.pre Cr.F x.1 x.2.1
def DY:Sum:=Aj Hf Hr oG (DenS.dflt Hr)
theorem bC:Sound Tryz.prog G1 203 DY:=sd (cf [(85,Av),(87,D2),(72,BV),(191,Cr)] []) 203 Tryz.f203 ⟨FY,aA0,Oc,aA1,ak⟩ trivial Hf Hr oG _ (fun _=>r40 ..)
abbrev UP:=Ah Hf
abbrev UU:=Ag Hf Hr
variable (p40:UP)(f40:UU)
abbrev Ka:Aa:=[(false,Ze)]
abbrev Kz:Aa:=[(true,Ze)]
def v8(p173:BD)(f173:BE)(a0:Ab Ze):Option (DenS Kz):=let e1_:=(bd (aq ((f173 (a0,())).1.length:Int)) (0:Int));bif(p173 (a0,()))then(bif((decide ((0:Int)<=((f173 (a0,())).1.length:Int)))&&(decide ((((f173 (a0,())).1.length:Int)*(8:Int))<=(140737488355328:Int))))then(some ((((f173 (a0,())).1.take e1_.length)++(e1_.drop (f173 (a0,())).1.length)),()))else none)else none
theorem bDp(x:DenS Ka):run ({cf [(93,⟨BW,BX,p173,f173⟩)] []with keep:=true}) 9 116 Tryz.f116 Ka Kz x=v8 p173 f173 x.1:=by kernel_rfl
def Xy(x:DenS Ka):Option (DenS Kz):=v8 Ak.pre Ak.F x.1
def DM:Sum:=Aj Ka Kz Xy (DenS.dflt Kz)
theorem aFQ:Sound Tryz.prog G1 116 DM:=sd ({cf [(93,Ak)] []with keep:=true}) 116 Tryz.f116 ⟨Er,ak⟩ trivial Ka Kz Xy _ (fun _=>bDp ..)
abbrev dL:=Ah Ka
abbrev eD:=Ag Ka Kz
variable (p1146:dL)(f1146:eD)
abbrev He:Aa:=[(false,Zb)]
abbrev Hq:Aa:=[(false,Za)]
def xU(p178:Jw)(f178:Jz)(a0:Ab Zb):Option (DenS Hq):=bif(p178 (a0,()))then(some ((al .i64 ((64:Int)-(f178 (a0,())).1)),()))else none
theorem bEz(x:DenS He):run (cf [(115,⟨Gp,FO,p178,f178⟩)] []) 9 118 Tryz.f118 He Hq x=xU p178 f178 x.1:=by kernel_rfl
def n0(x:DenS He):Option (DenS Hq):=xU CL.pre CL.F x.1
def B2:Sum:=Aj He Hq n0 (DenS.dflt Hq)
theorem aGa:Sound Tryz.prog G1 118 B2:=sd (cf [(115,CL)] []) 118 Tryz.f118 ⟨aU,ak⟩ trivial He Hq n0 _ (fun _=>bEz ..)
abbrev O0:=Ah He
abbrev O8:=Ag He Hq
variable (p327:O0)(f327:O8)
abbrev ER:Aa:=[(false,Zb),(false,Zb),(false,Zb)]
abbrev EU:Aa:=[(false,Zb),(false,Zb)]
abbrev HA:Pat:=⟨135,[(16,.one (.v .u64)),(11,.one (.v .u64)),(13,.one (.v .u64)),(10,.one (.v .u64)),(9,.one (.v .u64)),(15,.one (.v .u64)),(14,.one (.v .u64)),(2,.one (.v .u64)),(8,.one (.v .u64))],[]⟩
abbrev aI:List (Nat×Shape):=[]
abbrev Lk:List (Nat×Pat):=[(0,⟨135,[(11,.one (.v .u64)),(13,.one (.v .u64)),(10,.one (.v .u64)),(9,.one (.v .u64)),(15,.one (.v .u64)),(14,.one (.v .u64)),(2,.one (.v .u64)),(8,.one (.v .u64))],[]⟩)]
abbrev K0:Option Pat:=none
abbrev HB:Pat:=⟨135,[(10,.one (.v .u64)),(16,.one (.v .u64)),(9,.one (.v .u64)),(15,.one (.v .u64)),(17,.one (.v .u64)),(14,.one (.v .u64)),(18,.one (.v .u64)),(2,.one (.v .u64)),(8,.one (.v .u64))],[]⟩
abbrev aJ:List (Nat×Shape):=[]
abbrev Ll:List (Nat×Pat):=[(2,⟨135,[(15,.one (.v .u64)),(17,.one (.v .u64)),(14,.one (.v .u64)),(18,.one (.v .u64)),(2,.one (.v .u64)),(8,.one (.v .u64))],[]⟩)]
abbrev K1:Option Pat:=none
variable (w328_17:Pat.D HA->Option (Ad Lk K0))(w328_24:Pat.D HB->Option (Ad Ll K1))
def YU(p327:O0)(f327:O8){R:Type}(L:Pat.D HB->Option R)(e:Ad Ll K1->Option R)(x:Pat.D HB):Option R:=let e1_:=(x.1.2.2.2.1,x.1.2.2.2.2.1,x.1.2.2.2.2.2.1,(al .u64 (x.1.2.2.2.2.2.2.1-(1:Int))),x.1.2.2.2.2.2.2.2);let e2_:=(al .u64 (x.1.2.1+x.1.2.2.1));bif((decide (x.1.2.2.2.2.2.2.1>=(4294967296:Int)))||(decide ((al .u64 (x.1.2.2.2.2.2.2.1*x.1.1))>(al .u64 ((al .u64 ((4294967296:Int)*x.1.2.1))+x.1.2.2.2.2.2.1)))))then(bif(decide (e2_>=(4294967296:Int)))then(((e (.inl (e1_,())))))else(L ((x.1.1,e2_,x.1.2.2.1,e1_),())))else(e (.inl (x.1.2.2.2,())))
theorem bHH(d:Nat)(R:Type)(L:Pat.D HB->Option R)(e:Ad Ll K1->Option R)(x:Pat.D HB):
  Bq (cf [(118,⟨He,Hq,p327,f327⟩)] [(136,17,LoopSpec.of HA aI Lk K0 w328_17),(136,24,LoopSpec.of HB aJ Ll K1 w328_24)]) (d+2) 136 (Bp Tryz.f136 24) HB aJ Ll K1 (R:=R) L e x=YU p327 f327 L e x:=by kernel_rfl
theorem aPn(p327:O0)(f327:O8):Bn fun L e x=>YU p327 f327 L e x:=by intro _ _ _ _ _ _ _ h0 hL he _;unfold YU;repeat' (first|exact h0|exact hL _|exact he _|apply By|(apply Bz h0;intro _)|(apply BA<;>intro _))
def YT(p327:O0)(f327:O8){R:Type}(L:Pat.D HA->Option R)(e:Ad Lk K0->Option R)(x:Pat.D HA):Option R:=let e1_:=(x.1.2.1,x.1.2.2.1,x.1.2.2.2.1,x.1.2.2.2.2.1,(al .u64 (x.1.2.2.2.2.2.1-(1:Int))),x.1.2.2.2.2.2.2);let e2_:=(al .u64 (x.1.1+x.1.2.2.2.2.1));bif((decide (x.1.2.2.2.2.2.1>=(4294967296:Int)))||(decide ((al .u64 (x.1.2.2.2.2.2.1*x.1.2.2.2.1))>(al .u64 ((al .u64 ((4294967296:Int)*x.1.1))+x.1.2.2.1)))))then(bif(decide (e2_>=(4294967296:Int)))then(((e (.inl (e1_,())))))else(L ((e2_,e1_),())))else(e (.inl (x.1.2,())))
theorem bHG(d:Nat)(R:Type)(L:Pat.D HA->Option R)(e:Ad Lk K0->Option R)(x:Pat.D HA):
  Bq (cf [(118,⟨He,Hq,p327,f327⟩)] [(136,17,LoopSpec.of HA aI Lk K0 w328_17),(136,24,LoopSpec.of HB aJ Ll K1 w328_24)]) (d+2) 136 (Bp Tryz.f136 17) HA aI Lk K0 (R:=R) L e x=YT p327 f327 L e x:=by kernel_rfl
theorem aPm(p327:O0)(f327:O8):Bn fun L e x=>YT p327 f327 L e x:=by intro _ _ _ _ _ _ _ h0 hL he _;unfold YT;repeat' (first|exact h0|exact hL _|exact he _|apply By|(apply Bz h0;intro _)|(apply BA<;>intro _))
def xV(p327:O0)(f327:O8)(w328_17:Pat.D HA->Option (Ad Lk K0))(w328_24:Pat.D HB->Option (Ad Ll K1))(a0 a1 a2:Ab Zb):Option (DenS EU):=
 let e9_:=(al .u64 (f327 (a2,())).1)
 let e6_:=(Ao .u64 (Bk .u64 a0 e9_) (AR .u64 a1 (al .u64 ((64:Int)-e9_))))
 let e8_:=(Bk .u64 a2 e9_)
 let e7_:=(AR .u64 e8_ (32:Int))
 let e1_:=(Bl .u64 e6_ e7_)
 let e2_:=e6_
 let e3_:=e7_
 let e4_:=(Bk .u64 a1 e9_)
 let e5_:=e8_
 bif(a2==(0:Int))then((none))
 else bif(decide (a2<=a0))then((none))
 else bif(a0==(0:Int))then(bif(a2 !=(0:Int))then(bif(a2 !=(0:Int))then(some ((Bl .u64 a1 a2),(ii a1 a2),()))
 else none)
 else none)
 else bif(p327 (a2,()))then(bif(e3_ !=(0:Int))then(Vx.AQ (w328_17 (((al .u64 (e2_-(al .u64 (e1_*e3_)))),e2_,(AR .u64 e4_ (32:Int)),(BR .u64 e5_ (4294967295:Int)),e3_,e1_,(BR .u64 e4_ (4294967295:Int)),e5_,e9_,()),())) fun y5=>
 Vx.AP y5 (fun y6=>
 bif(y6.1.2.2.2.1 !=(0:Int))then(Vx.AQ (w328_24 ((y6.1.2.2.1,(al .u64 ((al .u64 ((al .u64 ((al .u64 (y6.1.1*(4294967296:Int)))+y6.1.2.1))-(al .u64 (y6.1.2.2.2.2.1*y6.1.2.2.2.2.2.2.1))))-(al .u64 ((Bl .u64 (al .u64 ((al .u64 ((al .u64 (y6.1.1*(4294967296:Int)))+y6.1.2.1))-(al .u64 (y6.1.2.2.2.2.1*y6.1.2.2.2.2.2.2.1)))) y6.1.2.2.2.1)*y6.1.2.2.2.1)))),y6.1.2.2.2.1,y6.1.2.2.2.2.1,(al .u64 ((al .u64 ((al .u64 (y6.1.1*(4294967296:Int)))+y6.1.2.1))-(al .u64 (y6.1.2.2.2.2.1*y6.1.2.2.2.2.2.2.1)))),y6.1.2.2.2.2.2.1,(Bl .u64 (al .u64 ((al .u64 ((al .u64 (y6.1.1*(4294967296:Int)))+y6.1.2.1))-(al .u64 (y6.1.2.2.2.2.1*y6.1.2.2.2.2.2.2.1)))) y6.1.2.2.2.1),y6.1.2.2.2.2.2.2),())) fun y8=>
 Vx.AP y8 (fun y9=>
 some ((al .u64 ((al .u64 (y9.1.1*(4294967296:Int)))+y9.1.2.2.2.1)),(AR .u64 (al .u64 ((al .u64 ((al .u64 (y9.1.2.1*(4294967296:Int)))+y9.1.2.2.1))-(al .u64 (y9.1.2.2.2.1*y9.1.2.2.2.2.1)))) y9.1.2.2.2.2.2.1),())) (fun z9=>
 none))
 else none) (fun z6=>
 none))
 else none)
 else none
theorem bEA(x:DenS ER):run (cf [(118,⟨He,Hq,p327,f327⟩)] [(136,17,LoopSpec.of HA aI Lk K0 w328_17),(136,24,LoopSpec.of HB aJ Ll K1 w328_24)]) 9 136 Tryz.f136 ER EU x=xV p327 f327 w328_17 w328_24 x.1 x.2.1 x.2.2.1:=by kernel_rfl
def qO:HB.D->Option (Ad Ll K1):=Bi fun L=>YU B2.pre B2.F L some
def qN:HA.D->Option (Ad Lk K0):=Bi fun L=>YT B2.pre B2.F L some
def n4(x:DenS ER):Option (DenS EU):=xV B2.pre B2.F qN qO x.1 x.2.1 x.2.2.1
def Br:Sum:=Aj ER EU n4 (DenS.dflt EU)
theorem lR:Sound Tryz.prog G1 136 Br:=sd (cf [(118,B2)] [(136,17,LoopSpec.of HA aI Lk K0 qN),(136,24,LoopSpec.of HB aJ Ll K1 qO)]) 136 Tryz.f136 ⟨aGa,ak⟩ ⟨rfl,fun d=>Bw (fun L e x=>YT B2.pre B2.F L e x) (aPm B2.pre B2.F) (fun _ _ _ _=>bHG ..),⟨rfl,fun d=>Bw (fun L e x=>YU B2.pre B2.F L e x) (aPn B2.pre B2.F) (fun _ _ _ _=>bHH ..),ak⟩⟩ ER EU n4 _ (fun _=>bEA ..)
abbrev Fa:=Ah ER
abbrev Fc:=Ag ER EU
variable (p328:Fa)(f328:Fc)
abbrev Mi:Aa:=[(true,Ze),(false,Zb)]
abbrev MU:Aa:=[(false,Ze),(false,Zb)]
abbrev GA:Pat:=⟨31,[(1,.one (.v .u64)),(7,.one (.v .i64)),(0,.one (.own 0)),(6,.one (.v .u64))],[.arr Zb]⟩
abbrev jQ:List (Nat×Shape):=[]
abbrev Ot:List (Nat×Pat):=[(0,⟨31,[(0,.one (.own 0)),(6,.one (.v .u64))],[.arr Zb]⟩)]
abbrev NC:Option Pat:=none
variable (w1329_3:Pat.D GA->Option (Ad Ot NC))
def YH(p328:Fa)(f328:Fc)(p173:BD)(f173:BE){R:Type}(L:Pat.D GA->Option R)(e:Ad Ot NC->Option R)(x:Pat.D GA):Option R:=let e3_:=(x.1.2.2.2.1,(x.2.1.getD (aq x.1.2.1) (0:Int)),x.1.1,());let e1_:=(f328 e3_);let e2_:=((decide ((0:Int)<=x.1.2.1))&&(decide (x.1.2.1<(x.2.1.length:Int))));bif(decide (x.1.2.1>=(0:Int)))then(bif e2_ then(bif(p328 e3_)then(bif e2_ then(((L ((x.1.1,(al .i64 (x.1.2.1-(1:Int))),(),e1_.2),(x.2.1.set (aq x.1.2.1) e1_.1),()))))else none)else none)else none)else(e (.inl (((),x.1.2.2.2),x.2)))
theorem bHo(d:Nat)(R:Type)(L:Pat.D GA->Option R)(e:Ad Ot NC->Option R)(x:Pat.D GA):
  Bq ({cf [(136,⟨ER,EU,p328,f328⟩),(93,⟨BW,BX,p173,f173⟩)] [(117,3,LoopSpec.of GA jQ Ot NC w1329_3)]with keep:=true}) (d+2) 117 (Bp Tryz.f117 3) GA jQ Ot NC (R:=R) L e x=YH p328 f328 p173 f173 L e x:=by kernel_rfl
theorem aPa(p328:Fa)(f328:Fc)(p173:BD)(f173:BE):Bn fun L e x=>YH p328 f328 p173 f173 L e x:=by intro _ _ _ _ _ _ _ h0 hL he _;unfold YH;repeat' (first|exact h0|exact hL _|exact he _|apply By|(apply Bz h0;intro _)|(apply BA<;>intro _))
def wQ(p328:Fa)(f328:Fc)(p173:BD)(f173:BE)(w1329_3:Pat.D GA->Option (Ad Ot NC))(a0:Ab Ze)(a1:Ab Zb):Option (DenS MU):=
 Vx.AQ (w1329_3 ((a1,(al .i64 ((a0.length:Int)-(1:Int))),(),(0:Int),()),a0,())) fun y0=>
 Vx.AP y0 (fun y1=>
 bif(p173 y1.2)then(some ((f173 y1.2).1,y1.1.2))
 else none) (fun z1=>
 none)
theorem bDJ(x:DenS Mi):run ({cf [(136,⟨ER,EU,p328,f328⟩),(93,⟨BW,BX,p173,f173⟩)] [(117,3,LoopSpec.of GA jQ Ot NC w1329_3)]with keep:=true}) 9 117 Tryz.f117 Mi MU x=wQ p328 f328 p173 f173 w1329_3 x.1 x.2.1:=by kernel_rfl
def dD:GA.D->Option (Ad Ot NC):=Bi fun L=>YH Br.pre Br.F Ak.pre Ak.F L some
def nI(x:DenS Mi):Option (DenS MU):=wQ Br.pre Br.F Ak.pre Ak.F dD x.1 x.2.1
def EW:Sum:=Aj Mi MU nI (DenS.dflt MU)
theorem aT1:Sound Tryz.prog G1 117 EW:=sd ({cf [(136,Br),(93,Ak)] [(117,3,LoopSpec.of GA jQ Ot NC dD)]with keep:=true}) 117 Tryz.f117 ⟨lR,Er,ak⟩ ⟨rfl,fun d=>Bw (fun L e x=>YH Br.pre Br.F Ak.pre Ak.F L e x) (aPa Br.pre Br.F Ak.pre Ak.F) (fun _ _ _ _=>bHo ..),ak⟩ Mi MU nI _ (fun _=>bDJ ..)
abbrev rJ:=Ah Mi
abbrev sB:=Ag Mi MU
variable (p1329:rJ)(f1329:sB)
abbrev Gm:Aa:=[(false,Ze),(false,Ze)]
abbrev Gy:Aa:=[(false,Za)]
abbrev IT:Pat:=⟨49,[(0,.one (.sl Zb)),(1,.one (.sl Zb)),(5,.one (.v .i64))],[]⟩
abbrev jS:List (Nat×Shape):=[]
abbrev Ov:List (Nat×Pat):=[(1,⟨49,[],[]⟩)]
abbrev NE:Option Pat:=(some ⟨49,[(4,.one (.v .i64))],[]⟩)
variable (w144_7:Pat.D IT->Option (Ad Ov NE))
def YJ(p173:BD)(f173:BE){R:Type}(L:Pat.D IT->Option R)(e:Ad Ov NE->Option R)(x:Pat.D IT):Option R:=let e1_:=((decide ((0:Int)<=x.1.2.2.1))&&(decide (x.1.2.2.1<(x.1.2.1.length:Int))));let e2_:=((decide ((0:Int)<=x.1.2.2.1))&&(decide (x.1.2.2.1<(x.1.1.length:Int))));let e3_:=(x.1.2.1.getD (aq x.1.2.2.1) (0:Int));bif(decide (x.1.2.2.1>=(0:Int)))then(bif e2_ then(bif e1_ then(bif(decide ((x.1.1.getD (aq x.1.2.2.1) (0:Int))<e3_))then(((e (.inr (((-(1:Int)),()),())))))else bif e2_ then(bif e1_ then(bif(decide ((x.1.1.getD (aq x.1.2.2.1) (0:Int))>e3_))then(((e (.inr (((1:Int),()),())))))else(L ((x.1.1,x.1.2.1,(al .i64 (x.1.2.2.1-(1:Int))),()),())))else none)else none)else none)else none)else(e (.inl ((),())))
theorem bHq(d:Nat)(R:Type)(L:Pat.D IT->Option R)(e:Ad Ov NE->Option R)(x:Pat.D IT):
  Bq (cf [(93,⟨BW,BX,p173,f173⟩)] [(101,7,LoopSpec.of IT jS Ov NE w144_7)]) (d+2) 101 (Bp Tryz.f101 7) IT jS Ov NE (R:=R) L e x=YJ p173 f173 L e x:=by kernel_rfl
theorem aPc(p173:BD)(f173:BE):Bn fun L e x=>YJ p173 f173 L e x:=by intro _ _ _ _ _ _ _ h0 hL he _;unfold YJ;repeat' (first|exact h0|exact hL _|exact he _|apply By|(apply Bz h0;intro _)|(apply BA<;>intro _))
def wT(p173:BD)(f173:BE)(w144_7:Pat.D IT->Option (Ad Ov NE))(a0 a1:Ab Ze):Option (DenS Gy):=
 bif(p173 (a0,()))then(bif(p173 (a1,()))then(bif(decide (((f173 (a0,())).1.length:Int)<((f173 (a1,())).1.length:Int)))then(some ((-(1:Int)),()))
 else bif(decide (((f173 (a0,())).1.length:Int)>((f173 (a1,())).1.length:Int)))then(some ((1:Int),()))
 else Vx.AQ (w144_7 (((f173 (a0,())).1,(f173 (a1,())).1,(al .i64 (((f173 (a0,())).1.length:Int)-(1:Int))),()),())) fun y4=>
 Vx.AP y4 (fun y5=>
 some ((0:Int),())) (fun z5=>
 some z5.1))
 else none)
 else none
theorem bDP(x:DenS Gm):run (cf [(93,⟨BW,BX,p173,f173⟩)] [(101,7,LoopSpec.of IT jS Ov NE w144_7)]) 9 101 Tryz.f101 Gm Gy x=wT p173 f173 w144_7 x.1 x.2.1:=by kernel_rfl
def qD:IT.D->Option (Ad Ov NE):=Bi fun L=>YJ Ak.pre Ak.F L some
def nJ(x:DenS Gm):Option (DenS Gy):=wT Ak.pre Ak.F qD x.1 x.2.1
def B1:Sum:=Aj Gm Gy nJ (DenS.dflt Gy)
theorem lD:Sound Tryz.prog G1 101 B1:=sd (cf [(93,Ak)] [(101,7,LoopSpec.of IT jS Ov NE qD)]) 101 Tryz.f101 ⟨Er,ak⟩ ⟨rfl,fun d=>Bw (fun L e x=>YJ Ak.pre Ak.F L e x) (aPc Ak.pre Ak.F) (fun _ _ _ _=>bHq ..),ak⟩ Gm Gy nJ _ (fun _=>bDP ..)
abbrev Jv:=Ah Gm
abbrev Jy:=Ag Gm Gy
variable (p144:Jv)(f144:Jy)
abbrev Mp:Aa:=[(false,Ze),(false,Zb)]
abbrev M0:Aa:=[(false,Ze),(false,Zb)]
abbrev I7:Pat:=⟨31,[(1,.one (.v .u64)),(7,.one (.v .i64)),(0,.one (.sl Zb)),(6,.one (.v .u64))],[]⟩
abbrev j8:List (Nat×Shape):=[]
abbrev OJ:List (Nat×Pat):=[(0,⟨31,[(0,.one (.sl Zb)),(6,.one (.v .u64))],[]⟩)]
abbrev NS:Option Pat:=none
variable (w329_3:Pat.D I7->Option (Ad OJ NS))
def gZ(p328:Fa)(f328:Fc)(p173:BD)(f173:BE){R:Type}(L:Pat.D I7->Option R)(e:Ad OJ NS->Option R)(x:Pat.D I7):Option R:=let e1_:=((decide ((0:Int)<=x.1.2.1))&&(decide (x.1.2.1<(x.1.2.2.1.length:Int))));bif(decide (x.1.2.1>=(0:Int)))then(bif e1_ then(bif(p328 (x.1.2.2.2.1,(x.1.2.2.1.getD (aq x.1.2.1) (0:Int)),x.1.1,()))then(bif e1_ then((none))else none)else none)else none)else(e (.inl (x.1.2.2,())))
theorem bHI(d:Nat)(R:Type)(L:Pat.D I7->Option R)(e:Ad OJ NS->Option R)(x:Pat.D I7):
  Bq (cf [(136,⟨ER,EU,p328,f328⟩),(93,⟨BW,BX,p173,f173⟩)] [(117,3,LoopSpec.of I7 j8 OJ NS w329_3)]) (d+2) 117 (Bp Tryz.f117 3) I7 j8 OJ NS (R:=R) L e x=gZ p328 f328 p173 f173 L e x:=by kernel_rfl
theorem bBp(p328:Fa)(f328:Fc)(p173:BD)(f173:BE):Bn fun L e x=>gZ p328 f328 p173 f173 L e x:=by intro _ _ _ _ _ _ _ h0 hL he _;unfold gZ;repeat' (first|exact h0|exact hL _|exact he _|apply By|(apply Bz h0;intro _)|(apply BA<;>intro _))
def aRA(p328:Fa)(f328:Fc)(p173:BD)(f173:BE)(w329_3:Pat.D I7->Option (Ad OJ NS))(a0:Ab Ze)(a1:Ab Zb):Option (DenS M0):=
 Vx.AQ (w329_3 ((a1,(al .i64 ((a0.length:Int)-(1:Int))),a0,(0:Int),()),())) fun y0=>
 Vx.AP y0 (fun y1=>
 bif(p173 (y1.1.1,()))then(some ((f173 (y1.1.1,())).1,y1.1.2))
 else none) (fun z1=>
 none)
theorem bEB(x:DenS Mp):run (cf [(136,⟨ER,EU,p328,f328⟩),(93,⟨BW,BX,p173,f173⟩)] [(117,3,LoopSpec.of I7 j8 OJ NS w329_3)]) 9 117 Tryz.f117 Mp M0 x=aRA p328 f328 p173 f173 w329_3 x.1 x.2.1:=by kernel_rfl
def aIJ:I7.D->Option (Ad OJ NS):=Bi fun L=>gZ Br.pre Br.F Ak.pre Ak.F L some
def aHm(x:DenS Mp):Option (DenS M0):=aRA Br.pre Br.F Ak.pre Ak.F aIJ x.1 x.2.1
def FX:Sum:=Aj Mp M0 aHm (DenS.dflt M0)
theorem aUu:Sound Tryz.prog G1 117 FX:=sd (cf [(136,Br),(93,Ak)] [(117,3,LoopSpec.of I7 j8 OJ NS aIJ)]) 117 Tryz.f117 ⟨lR,Er,ak⟩ ⟨rfl,fun d=>Bw (fun L e x=>gZ Br.pre Br.F Ak.pre Ak.F L e x) (bBp Br.pre Br.F Ak.pre Ak.F) (fun _ _ _ _=>bHI ..),ak⟩ Mp M0 aHm _ (fun _=>bEB ..)
abbrev rO:=Ah Mp
abbrev sH:=Ag Mp M0
variable (p329:rO)(f329:sH)
abbrev Kk:Aa:=[(false,Ze),(false,Zb)]
abbrev KK:Aa:=[(false,.bool)]
abbrev FH:LK:=.win Zb
abbrev I8:Pat:=⟨68,[(16,.one (.v .i64)),(15,.one (.sl Zb)),(2,.one (.v .u64)),(17,.one (.v .i64)),(1,.one (.sl Zb)),(0,.one (.sub 0)),(7,.one (.v .u64)),(8,.one (.v .u64))],[.arr Zb]⟩
abbrev j9:List (Nat×Shape):=[]
abbrev OK:List (Nat×Pat):=[(0,⟨68,[(1,.one (.sl Zb)),(0,.one (.sub 0)),(7,.one (.v .u64)),(8,.one (.v .u64))],[.arr Zb]⟩)]
abbrev NT:Option Pat:=none
variable (w330_3:Pat.D I8->Option (Ad OK NT))
def YV(p315:E9)(f315:Fb)(p155:Dk)(f155:Dl)(p157:HL)(f157:HO){R:Type}(L:Pat.D I8->Option R)(e:Ad OK NT->Option R)(x:Pat.D I8):Option R:=let e7_:=(x.2.1.getD (x.1.2.2.2.2.2.1.1+(aq x.1.2.2.2.1)) (0:Int));let e8_:=(x.1.2.2.1,(x.1.2.1.getD (aq x.1.2.2.2.1) (0:Int)),());let e6_:=(f315 e8_);let e5_:=(f155 (e6_.2.1,x.1.2.2.2.2.2.2.1,(0:Int),()));let e1_:=(f157 (e7_,e5_.1,x.1.2.2.2.2.2.2.2));let e2_:=e5_;let e3_:=((decide ((0:Int)<=x.1.2.2.2.1))&&(decide (x.1.2.2.2.1<(x.1.2.2.2.2.2.1.2:Int))));let e4_:=e6_;bif(decide (x.1.2.2.2.1<x.1.1))then(bif((decide ((0:Int)<=x.1.2.2.2.1))&&(decide (x.1.2.2.2.1<(x.1.2.1.length:Int))))then(bif(p315 e8_)then(bif(p155 (e4_.2.1,x.1.2.2.2.2.2.2.1,(0:Int),()))then(bif e3_ then(bif(p157 (e7_,e2_.1,x.1.2.2.2.2.2.2.2))then(bif e3_ then(((L ((x.1.1,x.1.2.1,x.1.2.2.1,(al .i64 (x.1.2.2.2.1+(1:Int))),x.1.2.2.2.2.1,x.1.2.2.2.2.2.1,(al .u64 (e4_.1+e2_.2.1)),e1_.2),(x.2.1.set (x.1.2.2.2.2.2.1.1+(aq x.1.2.2.2.1)) e1_.1),()))))else none)else none)else none)else none)else none)else none)else(e (.inl (x.1.2.2.2.2,x.2)))
theorem bHJ(d:Nat)(R:Type)(L:Pat.D I8->Option R)(e:Ad OK NT->Option R)(x:Pat.D I8):
  Bq (cf [(120,⟨EQ,ET,p315,f315⟩),(94,⟨Fo,FN,p155,f155⟩),(148,⟨Ml,Sg,p157,f157⟩)] [(137,3,LoopSpec.of I8 j9 OK NT w330_3 1)]) (d+2) 137 (Bp Tryz.f137 3) I8 j9 OK NT (R:=R) L e x 1=YV p315 f315 p155 f155 p157 f157 L e x:=by kernel_rfl
theorem aPo(p315:E9)(f315:Fb)(p155:Dk)(f155:Dl)(p157:HL)(f157:HO):Bn fun L e x=>YV p315 f315 p155 f155 p157 f157 L e x:=by intro _ _ _ _ _ _ _ h0 hL he _;unfold YV;repeat' (first|exact h0|exact hL _|exact he _|apply By|(apply Bz h0;intro _)|(apply BA<;>intro _))
def xW(p315:E9)(f315:Fb)(p155:Dk)(f155:Dl)(p157:HL)(f157:HO)(w330_3:Pat.D I8->Option (Ad OK NT))(l0:LK.D (.win Zb))(a0:Ab Ze)(a1:Ab Zb):Option (LK.B FH×DenS KK):=
 Vx.AQ (w330_3 (((a0.length:Int),a0,a1,(0:Int),a0,l0.2,(0:Int),(0:Int),()),l0.1,())) fun y0=>
 Vx.AP y0 (fun y1=>
 bif((decide ((0:Int)<=(y1.1.1.length:Int)))&&(decide ((y1.1.1.length:Int)<(y1.1.2.1.2:Int))))then(bif(p157 ((y1.2.1.getD (y1.1.2.1.1+(aq (y1.1.1.length:Int))) (0:Int)),y1.1.2.2))then(bif((decide ((0:Int)<=(y1.1.1.length:Int)))&&(decide ((y1.1.1.length:Int)<(y1.1.2.1.2:Int))))then(some ((y1.2.1.set (y1.1.2.1.1+(aq (y1.1.1.length:Int))) (f157 ((y1.2.1.getD (y1.1.2.1.1+(aq (y1.1.1.length:Int))) (0:Int)),y1.1.2.2)).1),((f157 ((y1.2.1.getD (y1.1.2.1.1+(aq (y1.1.1.length:Int))) (0:Int)),y1.1.2.2)).2.1 !=(0:Int)),()))
 else none)
 else none)
 else none) (fun z1=>
 none)
theorem bEC(x:LK.D FH×DenS Kk):DI (cf [(120,⟨EQ,ET,p315,f315⟩),(94,⟨Fo,FN,p155,f155⟩),(148,⟨Ml,Sg,p157,f157⟩)] [(137,3,LoopSpec.of I8 j9 OK NT w330_3 1)]) 9 137 Tryz.f137 FH Kk KK x=xW p315 f315 p155 f155 p157 f157 w330_3 x.1 x.2.1 x.2.2.1:=by kernel_rfl
def qP:I8.D->Option (Ad OK NT):=Bi fun L=>YV Bo.pre Bo.F AD.pre AD.F BI.pre BI.F L some
def cG(x:LK.D FH×DenS Kk):Option (LK.B FH×DenS KK):=xW Bo.pre Bo.F AD.pre AD.F BI.pre BI.F qP x.1 x.2.1 x.2.2.1
def CC:SumL:=DK FH Kk KK cG (LK.dflt FH,DenS.dflt KK)
theorem aUw:SoundL Tryz.prog G1 137 CC:=EK (cf [(120,Bo),(94,AD),(148,BI)] [(137,3,LoopSpec.of I8 j9 OK NT qP 1)]) 137 Tryz.f137 ⟨lM,Xu,lF,ak⟩ ⟨rfl,fun d=>Bw (fun L e x=>YV Bo.pre Bo.F AD.pre AD.F BI.pre BI.F L e x) (aPo Bo.pre Bo.F AD.pre AD.F BI.pre BI.F) (fun _ _ _ _=>bHJ ..),ak⟩ FH Kk KK cG _ (fun _=>bEC ..)
abbrev XX:=LK.D FH×DenS Kk->Bool
abbrev X7:=LK.D FH×DenS Kk->LK.B FH×DenS KK
variable (p330:XX)(f330:X7)
abbrev Kl:Aa:=[(false,Ze)]
abbrev KL:Aa:=[(false,.bool)]
abbrev FI:LK:=.win Zb
abbrev I9:Pat:=⟨46,[(10,.one (.v .i64)),(9,.one (.sl Zb)),(11,.one (.v .i64)),(1,.one (.sl Zb)),(0,.one (.sub 0)),(5,.one (.v .u64))],[.arr Zb]⟩
abbrev kA:List (Nat×Shape):=[]
abbrev OL:List (Nat×Pat):=[(0,⟨46,[(1,.one (.sl Zb)),(0,.one (.sub 0)),(5,.one (.v .u64))],[.arr Zb]⟩)]
abbrev NU:Option Pat:=none
variable (w331_3:Pat.D I9->Option (Ad OL NU))
def YW(p155:Dk)(f155:Dl){R:Type}(L:Pat.D I9->Option R)(e:Ad OL NU->Option R)(x:Pat.D I9):Option R:=let e3_:=((x.2.1.getD (x.1.2.2.2.2.1.1+(aq x.1.2.2.1)) (0:Int)),(x.1.2.1.getD (aq x.1.2.2.1) (0:Int)),x.1.2.2.2.2.2);let e1_:=(f155 e3_);let e2_:=((decide ((0:Int)<=x.1.2.2.1))&&(decide (x.1.2.2.1<(x.1.2.2.2.2.1.2:Int))));bif(decide (x.1.2.2.1<x.1.1))then(bif((decide ((0:Int)<=x.1.2.2.1))&&(decide (x.1.2.2.1<(x.1.2.1.length:Int))))then(bif e2_ then(bif(p155 e3_)then(bif e2_ then(((L ((x.1.1,x.1.2.1,(al .i64 (x.1.2.2.1+(1:Int))),x.1.2.2.2.1,x.1.2.2.2.2.1,e1_.2),(x.2.1.set (x.1.2.2.2.2.1.1+(aq x.1.2.2.1)) e1_.1),()))))else none)else none)else none)else none)else(e (.inl (x.1.2.2.2,x.2)))
theorem bHK(d:Nat)(R:Type)(L:Pat.D I9->Option R)(e:Ad OL NU->Option R)(x:Pat.D I9):
  Bq (cf [(94,⟨Fo,FN,p155,f155⟩)] [(138,3,LoopSpec.of I9 kA OL NU w331_3 1)]) (d+2) 138 (Bp Tryz.f138 3) I9 kA OL NU (R:=R) L e x 1=YW p155 f155 L e x:=by kernel_rfl
theorem aPp(p155:Dk)(f155:Dl):Bn fun L e x=>YW p155 f155 L e x:=by intro _ _ _ _ _ _ _ h0 hL he _;unfold YW;repeat' (first|exact h0|exact hL _|exact he _|apply By|(apply Bz h0;intro _)|(apply BA<;>intro _))
def xX(p155:Dk)(f155:Dl)(w331_3:Pat.D I9->Option (Ad OL NU))(l0:LK.D (.win Zb))(a0:Ab Ze):Option (LK.B FI×DenS KL):=
 Vx.AQ (w331_3 (((a0.length:Int),a0,(0:Int),a0,l0.2,(0:Int),()),l0.1,())) fun y0=>
 Vx.AP y0 (fun y1=>
 bif((decide ((0:Int)<=(y1.1.1.length:Int)))&&(decide ((y1.1.1.length:Int)<(y1.1.2.1.2:Int))))then(bif(p155 ((y1.2.1.getD (y1.1.2.1.1+(aq (y1.1.1.length:Int))) (0:Int)),(0:Int),y1.1.2.2))then(bif((decide ((0:Int)<=(y1.1.1.length:Int)))&&(decide ((y1.1.1.length:Int)<(y1.1.2.1.2:Int))))then(some ((y1.2.1.set (y1.1.2.1.1+(aq (y1.1.1.length:Int))) (f155 ((y1.2.1.getD (y1.1.2.1.1+(aq (y1.1.1.length:Int))) (0:Int)),(0:Int),y1.1.2.2)).1),((f155 ((y1.2.1.getD (y1.1.2.1.1+(aq (y1.1.1.length:Int))) (0:Int)),(0:Int),y1.1.2.2)).2.1 !=(0:Int)),()))
 else none)
 else none)
 else none) (fun z1=>
 none)
theorem bED(x:LK.D FI×DenS Kl):DI (cf [(94,⟨Fo,FN,p155,f155⟩)] [(138,3,LoopSpec.of I9 kA OL NU w331_3 1)]) 9 138 Tryz.f138 FI Kl KL x=xX p155 f155 w331_3 x.1 x.2.1:=by kernel_rfl
def qQ:I9.D->Option (Ad OL NU):=Bi fun L=>YW AD.pre AD.F L some
def cH(x:LK.D FI×DenS Kl):Option (LK.B FI×DenS KL):=xX AD.pre AD.F qQ x.1 x.2.1
def Da:SumL:=DK FI Kl KL cH (LK.dflt FI,DenS.dflt KL)
theorem aUx:SoundL Tryz.prog G1 138 Da:=EK (cf [(94,AD)] [(138,3,LoopSpec.of I9 kA OL NU qQ 1)]) 138 Tryz.f138 ⟨Xu,ak⟩ ⟨rfl,fun d=>Bw (fun L e x=>YW AD.pre AD.F L e x) (aPp AD.pre AD.F) (fun _ _ _ _=>bHK ..),ak⟩ FI Kl KL cH _ (fun _=>bED ..)
abbrev XY:=LK.D FI×DenS Kl->Bool
abbrev X8:=LK.D FI×DenS Kl->LK.B FI×DenS KL
variable (p331:XY)(f331:X8)
abbrev Mq:Aa:=[(false,Ze)]
abbrev KM:Aa:=[(false,Zb)]
abbrev FJ:LK:=.win Zb
abbrev GC:Pat:=⟨92,[(6,.one (.v .u64)),(7,.one (.v .u64)),(5,.one (.v .i64)),(0,.one (.sub 0)),(1,.one (.sl Zb))],[.arr Zb]⟩
abbrev aL:List (Nat×Shape):=[]
abbrev Ln:List (Nat×Pat):=[(0,⟨92,[(0,.one (.sub 0)),(1,.one (.sl Zb)),(6,.one (.v .u64))],[.arr Zb]⟩)]
abbrev K3:Option Pat:=none
abbrev GB:Pat:=⟨92,[(6,.one (.v .u64)),(0,.one (.sub 0)),(1,.one (.sl Zb))],[.arr Zb]⟩
abbrev aK:List (Nat×Shape):=[]
abbrev Lm:List (Nat×Pat):=[(2,⟨92,[(6,.one (.v .u64))],[.arr Zb]⟩)]
abbrev K2:Option Pat:=none
variable (w332_6:Pat.D GC->Option (Ad Ln K3))(w332_13:Pat.D GB->Option (Ad Lm K2))
def YX(p328:Fa)(f328:Fc)(p315:E9)(f315:Fb)(p155:Dk)(f155:Dl)(p330:XX)(f330:X7)(p331:XY)(f331:X8){R:Type}(L:Pat.D GB->Option R)(e:Ad Lm K2->Option R)(x:Pat.D GB):Option R:=let e1_:=(al .u64 (x.1.1-(1:Int)));bif(p331 ((x.2.1,x.1.2.1),x.1.2.2))then(bif(f331 ((x.2.1,x.1.2.1),x.1.2.2)).2.1 then(((e (.inl ((e1_,()),(f331 ((x.2.1,x.1.2.1),x.1.2.2)).1,())))))else(L ((e1_,x.1.2),(f331 ((x.2.1,x.1.2.1),x.1.2.2)).1,())))else none
theorem bHL(d:Nat)(R:Type)(L:Pat.D GB->Option R)(e:Ad Lm K2->Option R)(x:Pat.D GB):
  Bq ({cf [(136,⟨ER,EU,p328,f328⟩),(120,⟨EQ,ET,p315,f315⟩),(94,⟨Fo,FN,p155,f155⟩)] [(119,6,LoopSpec.of GC aL Ln K3 w332_6 1),(119,13,LoopSpec.of GB aK Lm K2 w332_13 1)]with lsums:=[(137,⟨FH,Kk,KK,p330,f330⟩),(138,⟨FI,Kl,KL,p331,f331⟩)] }) (d+2) 119 (Bp Tryz.f119 13) GB aK Lm K2 (R:=R) L e x 1=YX p328 f328 p315 f315 p155 f155 p330 f330 p331 f331 L e x:=by kernel_rfl
theorem aPq(p328:Fa)(f328:Fc)(p315:E9)(f315:Fb)(p155:Dk)(f155:Dl)(p330:XX)(f330:X7)(p331:XY)(f331:X8):Bn fun L e x=>YX p328 f328 p315 f315 p155 f155 p330 f330 p331 f331 L e x:=by intro _ _ _ _ _ _ _ h0 hL he _;unfold YX;repeat' (first|exact h0|exact hL _|exact he _|apply By|(apply Bz h0;intro _)|(apply BA<;>intro _))
def YY(p328:Fa)(f328:Fc)(p315:E9)(f315:Fb)(p155:Dk)(f155:Dl)(p330:XX)(f330:X7)(p331:XY)(f331:X8){R:Type}(L:Pat.D GC->Option R)(e:Ad Ln K3->Option R)(x:Pat.D GC):Option R:=let e11_:=(al .i64 (x.1.2.2.1-(2:Int)));let e10_:=(aq e11_);let e9_:=(f315 (x.1.1,(x.1.2.2.2.2.1.getD e10_ (0:Int)),()));let e1_:=(decide (e9_.1<x.1.2.1));let e12_:=(al .i64 (x.1.2.2.1-(1:Int)));let e2_:=(f155 (x.1.2.1,(x.1.2.2.2.2.1.getD (aq e12_) (0:Int)),(0:Int),()));let e3_:=e9_;let e4_:=(decide ((0:Int)<=e11_));let e5_:=e10_;let e6_:=e12_;let e7_:=e11_;let e8_:=(al .u64 (x.1.1-(1:Int)));bif(e4_&&(decide (e7_<(x.1.2.2.2.2.1.length:Int))))then(bif(p315 (x.1.1,(x.1.2.2.2.2.1.getD e5_ (0:Int)),()))then(bif((e4_&&(decide (e7_<(x.1.2.2.2.1.2:Int))))||(!((bif e1_ then false else true)&&(decide (e3_.1=x.1.2.1)))))then(bif(e1_||((e3_.1==x.1.2.1)&&(decide (e3_.2.1<=(x.2.1.getD (x.1.2.2.2.1.1+e5_) (0:Int))))))then(((e (.inl ((x.1.2.2.2.1,x.1.2.2.2.2.1,x.1.1,()),x.2)))))else bif((decide ((0:Int)<=e6_))&&(decide (e6_<(x.1.2.2.2.2.1.length:Int))))then(bif(p155 (x.1.2.1,(x.1.2.2.2.2.1.getD (aq e6_) (0:Int)),(0:Int),()))then(bif(e2_.2.1 !=(0:Int))then(((e (.inl ((x.1.2.2.2.1,x.1.2.2.2.2.1,e8_,()),x.2)))))else(L ((e8_,e2_.1,x.1.2.2),x.2)))else none)else none)else none)else none)else none
theorem bHM(d:Nat)(R:Type)(L:Pat.D GC->Option R)(e:Ad Ln K3->Option R)(x:Pat.D GC):
  Bq ({cf [(136,⟨ER,EU,p328,f328⟩),(120,⟨EQ,ET,p315,f315⟩),(94,⟨Fo,FN,p155,f155⟩)] [(119,6,LoopSpec.of GC aL Ln K3 w332_6 1),(119,13,LoopSpec.of GB aK Lm K2 w332_13 1)]with lsums:=[(137,⟨FH,Kk,KK,p330,f330⟩),(138,⟨FI,Kl,KL,p331,f331⟩)] }) (d+2) 119 (Bp Tryz.f119 6) GC aL Ln K3 (R:=R) L e x 1=YY p328 f328 p315 f315 p155 f155 p330 f330 p331 f331 L e x:=by kernel_rfl
theorem aPr(p328:Fa)(f328:Fc)(p315:E9)(f315:Fb)(p155:Dk)(f155:Dl)(p330:XX)(f330:X7)(p331:XY)(f331:X8):Bn fun L e x=>YY p328 f328 p315 f315 p155 f155 p330 f330 p331 f331 L e x:=by intro _ _ _ _ _ _ _ h0 hL he _;unfold YY;repeat' (first|exact h0|exact hL _|exact he _|apply By|(apply Bz h0;intro _)|(apply BA<;>intro _))
def xY(p328:Fa)(f328:Fc)(p315:E9)(f315:Fb)(p155:Dk)(f155:Dl)(p330:XX)(f330:X7)(p331:XY)(f331:X8)(w332_6:Pat.D GC->Option (Ad Ln K3))(w332_13:Pat.D GB->Option (Ad Lm K2))(l0:LK.D (.win Zb))(a0:Ab Ze):Option (LK.B FJ×DenS KM):=
 let e11_:=(l0.1.getD (l0.2.1+(aq (a0.length:Int))) (0:Int))
 let e10_:=(al .i64 ((a0.length:Int)-(1:Int)))
 let e9_:=(aq e10_)
 let e8_:=(a0.getD e9_ (0:Int))
 let e1_:=(f328 (e11_,(l0.1.getD (l0.2.1+e9_) (0:Int)),e8_,()))
 let e2_:=((decide ((0:Int)<=e10_))&&(decide (e10_<(a0.length:Int))))
 let e3_:=e8_
 let e4_:=((decide ((0:Int)<=(a0.length:Int)))&&(decide ((a0.length:Int)<(l0.2.2:Int))))
 let e5_:=e10_
 let e12_:=((l0.1,l0.2),a0,(18446744073709551615:Int),())
 let e6_:=(f330 e12_)
 let e7_:=e11_
 bif e4_ then(bif e2_ then(bif(decide (e7_<e3_))then(bif e4_ then(bif((decide ((0:Int)<=e5_))&&(decide (e5_<(l0.2.2:Int))))then(bif e2_ then(bif(p328 (e7_,(l0.1.getD (l0.2.1+(aq e5_)) (0:Int)),e3_,()))then(Vx.AQ (w332_6 ((e1_.1,e1_.2.1,(a0.length:Int),l0.2,a0,()),l0.1,())) fun y7=>
 Vx.AP y7 (fun y8=>
 bif(p330 ((y8.2.1,y8.1.1),y8.1.2))then(bif(f330 ((y8.2.1,y8.1.1),y8.1.2)).2.1 then(Vx.AQ (w332_13 ((y8.1.2.2.1,y8.1.1,y8.1.2.1,()),(f330 ((y8.2.1,y8.1.1),y8.1.2)).1,())) fun y11=>
 Vx.AP y11 (fun y12=>
 some (y12.2.1,y12.1)) (fun z12=>
 none))
 else some ((f330 ((y8.2.1,y8.1.1),y8.1.2)).1,y8.1.2.2))
 else none) (fun z8=>
 none))
 else none)
 else none)
 else none)
 else none)
 else bif(p330 e12_)then(bif e6_.2.1 then(Vx.AQ (w332_13 (((18446744073709551615:Int),l0.2,a0,()),e6_.1,())) fun y5=>
 Vx.AP y5 (fun y6=>
 some (y6.2.1,y6.1)) (fun z6=>
 none))
 else some (e6_.1,(18446744073709551615:Int),()))
 else none)
 else none)
 else none
theorem bEE(x:LK.D FJ×DenS Mq):DI ({cf [(136,⟨ER,EU,p328,f328⟩),(120,⟨EQ,ET,p315,f315⟩),(94,⟨Fo,FN,p155,f155⟩)] [(119,6,LoopSpec.of GC aL Ln K3 w332_6 1),(119,13,LoopSpec.of GB aK Lm K2 w332_13 1)]with lsums:=[(137,⟨FH,Kk,KK,p330,f330⟩),(138,⟨FI,Kl,KL,p331,f331⟩)] }) 9 119 Tryz.f119 FJ Mq KM x=xY p328 f328 p315 f315 p155 f155 p330 f330 p331 f331 w332_6 w332_13 x.1 x.2.1:=by kernel_rfl
def dG:GB.D->Option (Ad Lm K2):=Bi fun L=>YX Br.pre Br.F Bo.pre Bo.F AD.pre AD.F CC.pre CC.F Da.pre Da.F L some
def qR:GC.D->Option (Ad Ln K3):=Bi fun L=>YY Br.pre Br.F Bo.pre Bo.F AD.pre AD.F CC.pre CC.F Da.pre Da.F L some
def cJ(x:LK.D FJ×DenS Mq):Option (LK.B FJ×DenS KM):=xY Br.pre Br.F Bo.pre Bo.F AD.pre AD.F CC.pre CC.F Da.pre Da.F qR dG x.1 x.2.1
def EZ:SumL:=DK FJ Mq KM cJ (LK.dflt FJ,DenS.dflt KM)
theorem aUy:SoundL Tryz.prog G1 119 EZ:=EK ({cf [(136,Br),(120,Bo),(94,AD)] [(119,6,LoopSpec.of GC aL Ln K3 qR 1),(119,13,LoopSpec.of GB aK Lm K2 dG 1)]with lsums:=[(137,CC),(138,Da)] }) 119 Tryz.f119 ⟨lR,lM,Xu,ak⟩ ⟨rfl,fun d=>Bw (fun L e x=>YY Br.pre Br.F Bo.pre Bo.F AD.pre AD.F CC.pre CC.F Da.pre Da.F L e x) (aPr Br.pre Br.F Bo.pre Bo.F AD.pre AD.F CC.pre CC.F Da.pre Da.F) (fun _ _ _ _=>bHM ..),⟨rfl,fun d=>Bw (fun L e x=>YX Br.pre Br.F Bo.pre Bo.F AD.pre AD.F CC.pre CC.F Da.pre Da.F L e x) (aPq Br.pre Br.F Bo.pre Bo.F AD.pre AD.F CC.pre CC.F Da.pre Da.F) (fun _ _ _ _=>bHL ..),ak⟩⟩ FJ Mq KM cJ _ (fun _=>bEE ..) (hls:=⟨aUw,aUx,ak⟩)
abbrev rP:=LK.D FJ×DenS Mq->Bool
abbrev sI:=LK.D FJ×DenS Mq->LK.B FJ×DenS KM
variable (p332:rP)(f332:sI)
abbrev QH:Aa:=[(false,Ze),(false,Ze)]
abbrev SH:Aa:=[(false,Ze),(false,Ze)]
abbrev GD:Pat:=⟨91,[(9,.one (.sl Zb)),(12,.one (.v .i64)),(4,.one (.own 1)),(10,.one (.own 0)),(11,.one (.v .i64)),(8,.one (.v .i64))],[.arr Zb,.arr Zb]⟩
abbrev kB:List (Nat×Shape):=[]
abbrev OM:List (Nat×Pat):=[(0,⟨91,[(4,.one (.own 1)),(10,.one (.own 0)),(11,.one (.v .i64)),(8,.one (.v .i64))],[.arr Zb,.arr Zb]⟩)]
abbrev NV:Option Pat:=none
variable (w333_14:Pat.D GD->Option (Ad OM NV))
def YZ(p1146:dL)(f1146:eD)(p1329:rJ)(f1329:sB)(p144:Jv)(f144:Jy)(p146:VQ)(f146:V1)(p329:rO)(f329:sH)(p327:O0)(f327:O8)(p186:VT)(f186:V4)(p332:rP)(f332:sI)(p173:BD)(f173:BE)(p171:UO)(f171:UT){R:Type}(L:Pat.D GD->Option R)(e:Ad OM NV->Option R)(x:Pat.D GD):Option R:=let e3_:=(al .i64 ((al .i64 (x.1.2.1+x.1.2.2.2.2.1))+(1:Int)));let e1_:=(f332 ((x.2.1,(aq x.1.2.1),((aq e3_)-(aq x.1.2.1))),x.1.1,()));let e2_:=e3_;bif(decide (x.1.2.1>=(0:Int)))then(bif(((decide ((0:Int)<=x.1.2.1))&&(decide (x.1.2.1<=e2_)))&&(decide (e2_<=(x.2.1.length:Int))))then(bif(p332 ((x.2.1,(aq x.1.2.1),((aq e2_)-(aq x.1.2.1))),x.1.1,()))then(bif((decide ((0:Int)<=x.1.2.1))&&(decide (x.1.2.1<(x.2.2.1.length:Int))))then(((L ((x.1.1,(al .i64 (x.1.2.1-(1:Int))),(),(),x.1.2.2.2.2),e1_.1,(x.2.2.1.set (aq x.1.2.1) e1_.2.1),()))))else none)else none)else none)else(e (.inl (((),(),x.1.2.2.2.2),x.2)))
theorem bHN(d:Nat)(R:Type)(L:Pat.D GD->Option R)(e:Ad OM NV->Option R)(x:Pat.D GD):
  Bq ({cf [(116,⟨Ka,Kz,p1146,f1146⟩),(117,⟨Mi,MU,p1329,f1329⟩),(101,⟨Gm,Gy,p144,f144⟩),(116,⟨Ig,Iv,p146,f146⟩),(117,⟨Mp,M0,p329,f329⟩),(118,⟨He,Hq,p327,f327⟩),(97,⟨Ki,KI,p186,f186⟩),(93,⟨BW,BX,p173,f173⟩),(100,⟨Ih,Iw,p171,f171⟩)] [(99,14,LoopSpec.of GD kB OM NV w333_14)]with cut:=true,lsums:=[(119,⟨FJ,Mq,KM,p332,f332⟩)] }) (d+2) 99 (Bp Tryz.f99 14) GD kB OM NV (R:=R) L e x=YZ p1146 f1146 p1329 f1329 p144 f144 p146 f146 p329 f329 p327 f327 p186 f186 p332 f332 p173 f173 p171 f171 L e x:=by kernel_rfl
theorem aPs(p1146:dL)(f1146:eD)(p1329:rJ)(f1329:sB)(p144:Jv)(f144:Jy)(p146:VQ)(f146:V1)(p329:rO)(f329:sH)(p327:O0)(f327:O8)(p186:VT)(f186:V4)(p332:rP)(f332:sI)(p173:BD)(f173:BE)(p171:UO)(f171:UT):Bn fun L e x=>YZ p1146 f1146 p1329 f1329 p144 f144 p146 f146 p329 f329 p327 f327 p186 f186 p332 f332 p173 f173 p171 f171 L e x:=by intro _ _ _ _ _ _ _ h0 hL he _;unfold YZ;repeat' (first|exact h0|exact hL _|exact he _|apply By|(apply Bz h0;intro _)|(apply BA<;>intro _))
def xZ(p1146:dL)(f1146:eD)(p1329:rJ)(f1329:sB)(p144:Jv)(f144:Jy)(p146:VQ)(f146:V1)(p329:rO)(f329:sH)(p327:O0)(f327:O8)(p186:VT)(f186:V4)(p332:rP)(f332:sI)(p173:BD)(f173:BE)(p171:UO)(f171:UT)(w333_14:Pat.D GD->Option (Ad OM NV))(a0 a1:Ab Ze):Option (DenS SH):=
 let e17_:=(al .i64 (((f173 (a1,())).1.length:Int)-(1:Int)))
 let e14_:=(f327 (((f173 (a1,())).1.getD (aq e17_) (0:Int)),()))
 let e12_:=(f186 ((f173 (a0,())).1,e14_))
 let e18_:=(al .i64 (((f173 (a0,())).1.length:Int)+(1:Int)))
 let e15_:=(bd (aq e18_) (0:Int))
 let e13_:=(f186 ((f173 (a1,())).1,e14_))
 let e11_:=(al .i64 ((((e12_.1.take e15_.length)++(e15_.drop e12_.1.length)).length:Int)-(e13_.1.length:Int)))
 let e1_:=(bd (aq e11_) (0:Int))
 let e2_:=e11_
 let e3_:=e13_
 let e4_:=e12_
 let e5_:=e14_
 let e6_:=e15_
 let e16_:=((f1146 (f173 (a0,()))).1,((f173 (a1,())).1.getD (aq (0:Int)) (0:Int)),())
 let e7_:=(((f1329 e16_).2.1::[]),())
 let e8_:=e16_
 let e9_:=e17_
 let e10_:=e18_
 bif(p173 (a0,()))then(bif(p173 (a1,()))then(bif(p144 ((f173 (a0,())).1,(f173 (a1,()))))then(bif(decide ((f144 ((f173 (a0,())).1,(f173 (a1,())))).1<(0:Int)))then(bif(p1146 (f173 (a0,())))then(some ([],(f1146 (f173 (a0,())))))
 else none)
 else bif(((f173 (a1,())).1.length:Int)==(1:Int))then(bif(p1146 (f173 (a0,())))then(bif(decide ((0:Int)<((f173 (a1,())).1.length:Int)))then(bif(p1329 e8_)then(bif(p173 e7_)then(some ((f1329 e8_).1,(f173 e7_)))
 else none)
 else none)
 else none)
 else none)
 else bif((decide ((0:Int)<=e9_))&&(decide (e9_<((f173 (a1,())).1.length:Int))))then(bif(p327 (((f173 (a1,())).1.getD (aq e9_) (0:Int)),()))then(bif(p186 ((f173 (a1,())).1,e5_))then(bif((decide ((0:Int)<=e10_))&&(decide ((e10_*(8:Int))<=(140737488355328:Int))))then(bif(p186 ((f173 (a0,())).1,e5_))then(bif((decide ((0:Int)<=e2_))&&(decide ((e2_*(8:Int))<=(140737488355328:Int))))then(Vx.AQ (w333_14 ((e3_.1,(al .i64 ((e1_.length:Int)-(1:Int))),(),(),(e3_.1.length:Int),e5_),((e4_.1.take e6_.length)++(e6_.drop e4_.1.length)),e1_,())) fun y11=>
 Vx.AP y11 (fun y12=>
 bif(p173 y12.2.2)then(bif((decide ((0:Int)<=y12.1.2.2.1))&&(decide (y12.1.2.2.1<=(y12.2.1.length:Int))))then(bif(p171 (((y12.2.1.take (aq y12.1.2.2.1)).drop (aq (0:Int))),y12.1.2.2.2))then(some ((f173 y12.2.2).1,(f171 (((y12.2.1.take (aq y12.1.2.2.1)).drop (aq (0:Int))),y12.1.2.2.2))))
 else none)
 else none)
 else none) (fun z12=>
 none))
 else none)
 else none)
 else none)
 else none)
 else none)
 else none)
 else none)
 else none)
 else none
theorem bEF(x:DenS QH):run ({cf [(116,⟨Ka,Kz,p1146,f1146⟩),(117,⟨Mi,MU,p1329,f1329⟩),(101,⟨Gm,Gy,p144,f144⟩),(116,⟨Ig,Iv,p146,f146⟩),(117,⟨Mp,M0,p329,f329⟩),(118,⟨He,Hq,p327,f327⟩),(97,⟨Ki,KI,p186,f186⟩),(93,⟨BW,BX,p173,f173⟩),(100,⟨Ih,Iw,p171,f171⟩)] [(99,14,LoopSpec.of GD kB OM NV w333_14)]with cut:=true,lsums:=[(119,⟨FJ,Mq,KM,p332,f332⟩)] }) 9 99 Tryz.f99 QH SH x=xZ p1146 f1146 p1329 f1329 p144 f144 p146 f146 p329 f329 p327 f327 p186 f186 p332 f332 p173 f173 p171 f171 w333_14 x.1 x.2.1:=by kernel_rfl
def dH:GD.D->Option (Ad OM NV):=Bi fun L=>YZ DM.pre DM.F EW.pre EW.F B1.pre B1.F CT.pre CT.F FX.pre FX.F B2.pre B2.F DN.pre DN.F EZ.pre EZ.F Ak.pre Ak.F CU.pre CU.F L some
def n5(x:DenS QH):Option (DenS SH):=xZ DM.pre DM.F EW.pre EW.F B1.pre B1.F CT.pre CT.F FX.pre FX.F B2.pre B2.F DN.pre DN.F EZ.pre EZ.F Ak.pre Ak.F CU.pre CU.F dH x.1 x.2.1
def Uf:Sum:=Aj QH SH n5 (DenS.dflt SH)
theorem aUz:Sound Tryz.prog G1 99 Uf:=sd ({cf [(116,DM),(117,EW),(101,B1),(116,CT),(117,FX),(118,B2),(97,DN),(93,Ak),(100,CU)] [(99,14,LoopSpec.of GD kB OM NV dH)]with cut:=true,lsums:=[(119,EZ)] }) 99 Tryz.f99 ⟨aFQ,aT1,lD,aAI,aUu,aGa,aF4,Er,aAJ,ak⟩ ⟨rfl,fun d=>Bw (fun L e x=>YZ DM.pre DM.F EW.pre EW.F B1.pre B1.F CT.pre CT.F FX.pre FX.F B2.pre B2.F DN.pre DN.F EZ.pre EZ.F Ak.pre Ak.F CU.pre CU.F L e x) (aPs DM.pre DM.F EW.pre EW.F B1.pre B1.F CT.pre CT.F FX.pre FX.F B2.pre B2.F DN.pre DN.F EZ.pre EZ.F Ak.pre Ak.F CU.pre CU.F) (fun _ _ _ _=>bHN ..),ak⟩ QH SH n5 _ (fun _=>bEF ..) (hls:=⟨aUy,ak⟩)
abbrev aBA:=Ah QH
abbrev aCe:=Ag QH SH
variable (p333:aBA)(f333:aCe)
abbrev Mr:Aa:=[(false,Ze),(false,Ze)]
abbrev M1:Aa:=[(false,Ze),(false,Ze),(false,Za)]
def x5(p185:VS)(f185:V3)(p173:BD)(f173:BE)(p333:aBA)(f333:aCe)(a0 a1:Ab Ze):Option (DenS M1):=bif(p185 ((a0::(a1::[])),()))then(bif(f185 ((a0::(a1::[])),())).1 then(some ([],[],(5:Int),()))else bif(p173 (a1,()))then(bif(((f173 (a1,())).1.length:Int)==(0:Int))then(some ([],[],(10:Int),()))else bif(p333 (a0,a1,()))then(some ((f333 (a0,a1,())).1,(f333 (a0,a1,())).2.1,(0:Int),()))else none)else none)else none
theorem bEG(x:DenS Mr):run (cf [(96,⟨Kh,KH,p185,f185⟩),(93,⟨BW,BX,p173,f173⟩),(99,⟨QH,SH,p333,f333⟩)] []) 9 247 Tryz.f247 Mr M1 x=x5 p185 f185 p173 f173 p333 f333 x.1 x.2.1:=by kernel_rfl
def n6(x:DenS Mr):Option (DenS M1):=x5 EX.pre EX.F Ak.pre Ak.F Uf.pre Uf.F x.1 x.2.1
def E0:Sum:=Aj Mr M1 n6 (DenS.dflt M1)
theorem aUA:Sound Tryz.prog G1 247 E0:=sd (cf [(96,EX),(93,Ak),(99,Uf)] []) 247 Tryz.f247 ⟨aAK,Er,aUz,ak⟩ trivial Mr M1 n6 _ (fun _=>bEG ..)
abbrev rQ:=Ah Mr
abbrev sJ:=Ag Mr M1
variable (p345:rQ)(f345:sJ)
abbrev P7:Aa:=[(true,Ze),(false,Ze)]
abbrev R2:Aa:=[(true,Ze)]
abbrev IL:Pat:=⟨37,[(9,.one (.v .i64)),(1,.one (.sl Zb)),(5,.one (.v .u64)),(10,.one (.v .i64)),(0,.one (.own 0))],[.arr Zb]⟩
abbrev jK:List (Nat×Shape):=[]
abbrev Oj:List (Nat×Pat):=[(0,⟨37,[(0,.one (.own 0))],[.arr Zb]⟩)]
abbrev Nw:Option Pat:=none
variable (w1174_3:Pat.D IL->Option (Ad Oj Nw))
def YB(p1173:UN)(f1173:US)(p157:HL)(f157:HO)(p173:BD)(f173:BE){R:Type}(L:Pat.D IL->Option R)(e:Ad Oj Nw->Option R)(x:Pat.D IL):Option R:=let e8_:=(x.2.1.getD (aq x.1.2.2.2.1) (0:Int));let e7_:=((x.1.2.1.getD (aq x.1.2.2.2.1) (0:Int)),x.1.2.2.1,());let e1_:=(f157 (e8_,e7_));let e2_:=((decide ((0:Int)<=x.1.2.2.2.1))&&(decide (x.1.2.2.2.1<(x.2.1.length:Int))));let e3_:=(f157 (e8_,(0:Int),x.1.2.2.1,()));let e4_:=((al .i64 (x.1.2.2.2.1+(1:Int))),(),());let e5_:=(decide (x.1.2.2.2.1<(x.1.2.1.length:Int)));let e6_:=e8_;bif(decide (x.1.2.2.2.1<x.1.1))then(bif e5_ then(bif((decide ((0:Int)<=x.1.2.2.2.1))&&e5_)then(bif e2_ then(bif(p157 (e6_,e7_))then(bif e2_ then(((L ((x.1.1,x.1.2.1,e1_.2.1,e4_),(x.2.1.set (aq x.1.2.2.2.1) e1_.1),()))))else none)else none)else none)else none)else bif e2_ then(bif(p157 (e6_,(0:Int),x.1.2.2.1,()))then(bif e2_ then(((L ((x.1.1,x.1.2.1,e3_.2.1,e4_),(x.2.1.set (aq x.1.2.2.2.1) e3_.1),()))))else none)else none)else none)else(e (.inl (((),()),x.2)))
theorem bHi(d:Nat)(R:Type)(L:Pat.D IL->Option R)(e:Ad Oj Nw->Option R)(x:Pat.D IL):
  Bq ({cf [(93,⟨Ic,It,p1173,f1173⟩),(148,⟨Ml,Sg,p157,f157⟩),(93,⟨BW,BX,p173,f173⟩)] [(254,3,LoopSpec.of IL jK Oj Nw w1174_3)]with keep:=true}) (d+2) 254 (Bp Tryz.f254 3) IL jK Oj Nw (R:=R) L e x=YB p1173 f1173 p157 f157 p173 f173 L e x:=by kernel_rfl
theorem aO4(p1173:UN)(f1173:US)(p157:HL)(f157:HO)(p173:BD)(f173:BE):Bn fun L e x=>YB p1173 f1173 p157 f157 p173 f173 L e x:=by intro _ _ _ _ _ _ _ h0 hL he _;unfold YB;repeat' (first|exact h0|exact hL _|exact he _|apply By|(apply Bz h0;intro _)|(apply BA<;>intro _))
def wD(p1173:UN)(f1173:US)(p157:HL)(f157:HO)(p173:BD)(f173:BE)(w1174_3:Pat.D IL->Option (Ad Oj Nw))(a0 a1:Ab Ze):Option (DenS R2):=
 Vx.AQ (w1174_3 (((a0.length:Int),a1,(0:Int),(0:Int),(),()),a0,())) fun y0=>
 Vx.AP y0 (fun y1=>
 bif(p1173 y1.2)then(some (f1173 y1.2))
 else none) (fun z1=>
 none)
theorem bDv(x:DenS P7):run ({cf [(93,⟨Ic,It,p1173,f1173⟩),(148,⟨Ml,Sg,p157,f157⟩),(93,⟨BW,BX,p173,f173⟩)] [(254,3,LoopSpec.of IL jK Oj Nw w1174_3)]with keep:=true}) 9 254 Tryz.f254 P7 R2 x=wD p1173 f1173 p157 f157 p173 f173 w1174_3 x.1 x.2.1:=by kernel_rfl
def dC:IL.D->Option (Ad Oj Nw):=Bi fun L=>YB B8.pre B8.F BI.pre BI.F Ak.pre Ak.F L some
def nA(x:DenS P7):Option (DenS R2):=wD B8.pre B8.F BI.pre BI.F Ak.pre Ak.F dC x.1 x.2.1
def TW:Sum:=Aj P7 R2 nA (DenS.dflt R2)
theorem aTU:Sound Tryz.prog G1 254 TW:=sd ({cf [(93,B8),(148,BI),(93,Ak)] [(254,3,LoopSpec.of IL jK Oj Nw dC)]with keep:=true}) 254 Tryz.f254 ⟨aFR,lF,Er,ak⟩ ⟨rfl,fun d=>Bw (fun L e x=>YB B8.pre B8.F BI.pre BI.F Ak.pre Ak.F L e x) (aO4 B8.pre B8.F BI.pre BI.F Ak.pre Ak.F) (fun _ _ _ _=>bHi ..),ak⟩ P7 R2 nA _ (fun _=>bDv ..)
abbrev aI2:=Ah P7
abbrev aKA:=Ag P7 R2
variable (p1174:aI2)(f1174:aKA)
abbrev Qp:Aa:=[(false,Ze),(false,Ze)]
abbrev Sm:Aa:=[(false,Ze)]
abbrev I0:Pat:=⟨37,[(9,.one (.v .i64)),(1,.one (.sl Zb)),(5,.one (.v .u64)),(10,.one (.v .i64)),(0,.one (.sl Zb))],[]⟩
abbrev jZ:List (Nat×Shape):=[]
abbrev OC:List (Nat×Pat):=[(0,⟨37,[(0,.one (.sl Zb))],[]⟩)]
abbrev NL:Option Pat:=none
variable (w174_3:Pat.D I0->Option (Ad OC NL))
def gU(p157:HL)(f157:HO)(p173:BD)(f173:BE){R:Type}(L:Pat.D I0->Option R)(e:Ad OC NL->Option R)(x:Pat.D I0):Option R:=let e1_:=((decide ((0:Int)<=x.1.2.2.2.1))&&(decide (x.1.2.2.2.1<(x.1.2.2.2.2.1.length:Int))));let e2_:=(x.1.2.2.2.2.1.getD (aq x.1.2.2.2.1) (0:Int));let e3_:=(decide (x.1.2.2.2.1<(x.1.2.1.length:Int)));bif(decide (x.1.2.2.2.1<x.1.1))then(bif e3_ then(bif((decide ((0:Int)<=x.1.2.2.2.1))&&e3_)then(bif e1_ then(bif(p157 (e2_,(x.1.2.1.getD (aq x.1.2.2.2.1) (0:Int)),x.1.2.2.1,()))then(bif e1_ then((none))else none)else none)else none)else none)else bif e1_ then(bif(p157 (e2_,(0:Int),x.1.2.2.1,()))then(bif e1_ then((none))else none)else none)else none)else(e (.inl (x.1.2.2.2.2,())))
theorem bHx(d:Nat)(R:Type)(L:Pat.D I0->Option R)(e:Ad OC NL->Option R)(x:Pat.D I0):
  Bq (cf [(148,⟨Ml,Sg,p157,f157⟩),(93,⟨BW,BX,p173,f173⟩)] [(254,3,LoopSpec.of I0 jZ OC NL w174_3)]) (d+2) 254 (Bp Tryz.f254 3) I0 jZ OC NL (R:=R) L e x=gU p157 f157 p173 f173 L e x:=by kernel_rfl
theorem bBk(p157:HL)(f157:HO)(p173:BD)(f173:BE):Bn fun L e x=>gU p157 f157 p173 f173 L e x:=by intro _ _ _ _ _ _ _ h0 hL he _;unfold gU;repeat' (first|exact h0|exact hL _|exact he _|apply By|(apply Bz h0;intro _)|(apply BA<;>intro _))
def aRo(p157:HL)(f157:HO)(p173:BD)(f173:BE)(w174_3:Pat.D I0->Option (Ad OC NL))(a0 a1:Ab Ze):Option (DenS Sm):=
 Vx.AQ (w174_3 (((a0.length:Int),a1,(0:Int),(0:Int),a0,()),())) fun y0=>
 Vx.AP y0 (fun y1=>
 bif(p173 y1.1)then(some (f173 y1.1))
 else none) (fun z1=>
 none)
theorem bD8(x:DenS Qp):run (cf [(148,⟨Ml,Sg,p157,f157⟩),(93,⟨BW,BX,p173,f173⟩)] [(254,3,LoopSpec.of I0 jZ OC NL w174_3)]) 9 254 Tryz.f254 Qp Sm x=aRo p157 f157 p173 f173 w174_3 x.1 x.2.1:=by kernel_rfl
def aIF:I0.D->Option (Ad OC NL):=Bi fun L=>gU BI.pre BI.F Ak.pre Ak.F L some
def aG4(x:DenS Qp):Option (DenS Sm):=aRo BI.pre BI.F Ak.pre Ak.F aIF x.1 x.2.1
def Xv:Sum:=Aj Qp Sm aG4 (DenS.dflt Sm)
theorem aUe:Sound Tryz.prog G1 254 Xv:=sd (cf [(148,BI),(93,Ak)] [(254,3,LoopSpec.of I0 jZ OC NL aIF)]) 254 Tryz.f254 ⟨lF,Er,ak⟩ ⟨rfl,fun d=>Bw (fun L e x=>gU BI.pre BI.F Ak.pre Ak.F L e x) (bBk BI.pre BI.F Ak.pre Ak.F) (fun _ _ _ _=>bHx ..),ak⟩ Qp Sm aG4 _ (fun _=>bD8 ..)
abbrev aJh:=Ah Qp
abbrev aKP:=Ag Qp Sm
variable (p174:aJh)(f174:aKP)
abbrev Kf:Aa:=[(false,Ze),(false,Ze)]
abbrev KF:Aa:=[(false,Ze),(false,Za)]
def wU(p1174:aI2)(f1174:aKA)(p1146:dL)(f1146:eD)(p144:Jv)(f144:Jy)(p146:VQ)(f146:V1)(p173:BD)(f173:BE)(p174:aJh)(f174:aKP)(a0 a1:Ab Ze):Option (DenS KF):=bif(p144 (a0,a1,()))then(bif(decide ((f144 (a0,a1,())).1<(0:Int)))then(some ([],(20:Int),()))else bif(p1146 (a0,()))then(bif(p173 (a1,()))then(bif(p1174 ((f1146 (a0,())).1,(f173 (a1,()))))then(some ((f1174 ((f1146 (a0,())).1,(f173 (a1,())))).1,(0:Int),()))else none)else none)else none)else none
theorem bDQ(x:DenS Kf):run (cf [(254,⟨P7,R2,p1174,f1174⟩),(116,⟨Ka,Kz,p1146,f1146⟩),(101,⟨Gm,Gy,p144,f144⟩),(116,⟨Ig,Iv,p146,f146⟩),(93,⟨BW,BX,p173,f173⟩),(254,⟨Qp,Sm,p174,f174⟩)] []) 9 248 Tryz.f248 Kf KF x=wU p1174 f1174 p1146 f1146 p144 f144 p146 f146 p173 f173 p174 f174 x.1 x.2.1:=by kernel_rfl
def nK(x:DenS Kf):Option (DenS KF):=wU TW.pre TW.F DM.pre DM.F B1.pre B1.F CT.pre CT.F Ak.pre Ak.F Xv.pre Xv.F x.1 x.2.1
def Ed:Sum:=Aj Kf KF nK (DenS.dflt KF)
theorem aFZ:Sound Tryz.prog G1 248 Ed:=sd (cf [(254,TW),(116,DM),(101,B1),(116,CT),(93,Ak),(254,Xv)] []) 248 Tryz.f248 ⟨aTU,aFQ,lD,aAI,Er,aUe,ak⟩ trivial Kf KF nK _ (fun _=>bDQ ..)
abbrev XV:=Ah Kf
abbrev X5:=Ag Kf KF
variable (p145:XV)(f145:X5)
abbrev QS:Aa:=[(false,Ze),(false,Ze),(false,Za)]
abbrev SS:Aa:=[(true,Zu)]
abbrev Jb:Pat:=⟨81,[(2,.one (.v .i64)),(1,.one (.sl Zb)),(11,.one (.sl Zb)),(13,.one (.ptr 1 0)),(6,.one (.ptr 0 0))],[.raw [.bool,.sl Zb,.v .i64,.bool],.raw [.bool,.sl Zb,.v .i64,.bool]]⟩
abbrev kD:List (Nat×Shape):=[]
abbrev OO:List (Nat×Pat):=[(0,⟨81,[(11,.one (.sl Zb)),(13,.one (.ptr 1 0)),(6,.one (.ptr 0 0))],[.raw [.bool,.sl Zb,.v .i64,.bool],.raw [.bool,.sl Zb,.v .i64,.bool]]⟩)]
abbrev NX:Option Pat:=none
variable (w379_5:Pat.D Jb->Option (Ad OO NX))
def Y1(p176:VR)(f176:V2)(p345:rQ)(f345:sJ)(p151:Lr)(f151:Lv)(p144:Jv)(f144:Jy)(p145:XV)(f145:X5)(p143:OZ)(f143:O7){R:Type}(L:Pat.D Jb->Option R)(e:Ad OO NX->Option R)(x:Pat.D Jb):Option R:=let e1_:=((al .i64 (x.2.2.1.2.2.1-(1:Int))),x.2.2.1.2.2.2);let e2_:=((f143 (x.2.2.1.2.1,x.2.2.1.2.1,())).1,((1:Int)::[]),());let e3_:=((f143 (x.1.2.2.1,x.1.2.2.1,())).1,x.1.2.1,());bif(p151 (x.2.2.1.2.1,()))then(bif((decide ((f151 (x.2.2.1.2.1,())).1<x.1.1))&&(decide ((x.1.2.2.1.length:Int)>(0:Int))))then(bif(p143 (x.2.2.1.2.1,x.2.2.1.2.1,()))then(bif(p143 (x.1.2.2.1,x.1.2.2.1,()))then(bif(p144 e3_)then(bif(decide ((f144 e3_).1>=(0:Int)))then(bif(p145 e3_)then(bif(p143 e2_)then(((L ((x.1.1,x.1.2.1,(f145 e3_).1,(),(),()),x.2.1,(x.2.2.1.1,(f143 e2_).1,e1_),()))))else none)else none)else(L ((x.1.1,x.1.2.1,(f143 (x.1.2.2.1,x.1.2.2.1,())).1,(),(),()),x.2.1,(x.2.2.1.1,(f143 (x.2.2.1.2.1,x.2.2.1.2.1,())).1,e1_),())))else none)else none)else none)else(e (.inl ((x.1.2.2.1,(),(),()),x.2))))else none
theorem bHP(d:Nat)(R:Type)(L:Pat.D Jb->Option R)(e:Ad OO NX->Option R)(x:Pat.D Jb):
  Bq (cf [(67,⟨Kg,KG,p176,f176⟩),(247,⟨Mr,M1,p345,f345⟩),(98,⟨Gn,Gz,p151,f151⟩),(101,⟨Gm,Gy,p144,f144⟩),(248,⟨Kf,KF,p145,f145⟩),(65,⟨If,Hp,p143,f143⟩)] [(238,5,LoopSpec.of Jb kD OO NX w379_5)]) (d+2) 238 (Bp Tryz.f238 5) Jb kD OO NX (R:=R) L e x=Y1 p176 f176 p345 f345 p151 f151 p144 f144 p145 f145 p143 f143 L e x:=by kernel_rfl
theorem aPu(p176:VR)(f176:V2)(p345:rQ)(f345:sJ)(p151:Lr)(f151:Lv)(p144:Jv)(f144:Jy)(p145:XV)(f145:X5)(p143:OZ)(f143:O7):Bn fun L e x=>Y1 p176 f176 p345 f345 p151 f151 p144 f144 p145 f145 p143 f143 L e x:=by intro _ _ _ _ _ _ _ h0 hL he _;unfold Y1;repeat' (first|exact h0|exact hL _|exact he _|apply By|(apply Bz h0;intro _)|(apply BA<;>intro _))
def yA(p176:VR)(f176:V2)(p345:rQ)(f345:sJ)(p151:Lr)(f151:Lv)(p144:Jv)(f144:Jy)(p145:XV)(f145:X5)(p143:OZ)(f143:O7)(w379_5:Pat.D Jb->Option (Ad OO NX))(a0 a1:Ab Ze)(a2:Ab Za):Option (DenS SS):=
 let e5_:=(al .i64 ((al .i64 ((f151 (a1,())).1-(f151 (a0,())).1))-(1:Int)))
 let e4_:=(a0,(if(e5_>(0:Int))then e5_ else(0:Int)),())
 let e1_:=(f345 ((f176 e4_).1,a1,()))
 let e2_:=e4_
 let e3_:=e5_
 bif(p151 (a1,()))then(bif(p151 (a0,()))then(bif(p176 e2_)then(bif(p345 ((f176 e2_).1,a1,()))then(Vx.AQ (w379_5 ((a2,a1,e1_.2.1,(),(),()),(false,[],(0:Int),false,()),(false,e1_.1,(al .i64 ((0:Int)-(if(e3_>(0:Int))then e3_ else(0:Int)))),false,()),())) fun y4=>
 Vx.AP y4 (fun y5=>
 some ((y5.2.2.1.1,y5.2.2.1.2.1,y5.2.2.1.2.2.1,(decide ((y5.1.1.length:Int)>(0:Int))),()),())) (fun z5=>
 none))
 else none)
 else none)
 else none)
 else none
theorem bER(x:DenS QS):run (cf [(67,⟨Kg,KG,p176,f176⟩),(247,⟨Mr,M1,p345,f345⟩),(98,⟨Gn,Gz,p151,f151⟩),(101,⟨Gm,Gy,p144,f144⟩),(248,⟨Kf,KF,p145,f145⟩),(65,⟨If,Hp,p143,f143⟩)] [(238,5,LoopSpec.of Jb kD OO NX w379_5)]) 9 238 Tryz.f238 QS SS x=yA p176 f176 p345 f345 p151 f151 p144 f144 p145 f145 p143 f143 w379_5 x.1 x.2.1 x.2.2.1:=by kernel_rfl
def qT:Jb.D->Option (Ad OO NX):=Bi fun L=>Y1 Ee.pre Ee.F E0.pre E0.F Ck.pre Ck.F B1.pre B1.F Ed.pre Ed.F Dx.pre Dx.F L some
def oD(x:DenS QS):Option (DenS SS):=yA Ee.pre Ee.F E0.pre E0.F Ck.pre Ck.F B1.pre B1.F Ed.pre Ed.F Dx.pre Dx.F qT x.1 x.2.1 x.2.2.1
def Uo:Sum:=Aj QS SS oD (DenS.dflt SS)
theorem aUJ:Sound Tryz.prog G1 238 Uo:=sd (cf [(67,Ee),(247,E0),(98,Ck),(101,B1),(248,Ed),(65,Dx)] [(238,5,LoopSpec.of Jb kD OO NX qT)]) 238 Tryz.f238 ⟨aF2,aUA,aT,lD,aFZ,aAH,ak⟩ ⟨rfl,fun d=>Bw (fun L e x=>Y1 Ee.pre Ee.F E0.pre E0.F Ck.pre Ck.F B1.pre B1.F Ed.pre Ed.F Dx.pre Dx.F L e x) (aPu Ee.pre Ee.F E0.pre E0.F Ck.pre Ck.F B1.pre B1.F Ed.pre Ed.F Dx.pre Dx.F) (fun _ _ _ _=>bHP ..),ak⟩ QS SS oD _ (fun _=>bER ..)
abbrev aJA:=Ah QS
abbrev aK8:=Ag QS SS
variable (p379:aJA)(f379:aK8)
abbrev QU:Aa:=[(false,Za),(false,Za),(false,.bool),(false,Ze),(false,Ze),(false,Za)]
abbrev SU:Aa:=[(false,Zb),(false,Za),(false,Za)]
def yB(p105:XS)(f105:X2)(p102:HK)(f102:HN)(p156:rK)(f156:sC)(p379:aJA)(f379:aK8)(p107:XT)(f107:X3)(a0 a1:Ab Za)(a2:Ab (.bool))(a3 a4:Ab Ze)(a5:Ab Za):Option (DenS SU):=let e4_:=((f102 (a3,())).1,(f102 (a4,())).1,(al .i64 ((f105 (a0,a1,())).1.2.1+(3:Int))),());let e3_:=(f379 e4_);let e1_:=(f107 ((a2,e3_.1.2.1,(al .i64 (e3_.1.2.2.1+a5)),e3_.1.2.2.2),a0,(f105 (a0,a1,())).1,a1,()));let e2_:=e3_;bif(p105 (a0,a1,()))then(bif((f105 (a0,a1,())).2.1 !=(0:Int))then(some ((0:Int),(0:Int),(f105 (a0,a1,())).2))else bif(p102 (a3,()))then(bif(p102 (a4,()))then(bif(decide ((al .i64 (((f102 (a3,())).1.length:Int)+((f102 (a4,())).1.length:Int)))>(1024:Int)))then(some ((0:Int),(0:Int),(5:Int),()))else bif((decide (a5<(-(40000:Int))))||(decide (a5>(40000:Int))))then(some ((0:Int),(0:Int),(30:Int),()))else bif(((f102 (a4,())).1.length:Int)==(0:Int))then(some ((0:Int),(0:Int),(10:Int),()))else bif(((f102 (a3,())).1.length:Int)==(0:Int))then(bif(p156 (a0,a2,()))then(some (f156 (a0,a2,())))else none)else bif(p379 e4_)then(bif(p107 ((a2,e2_.1.2.1,(al .i64 (e2_.1.2.2.1+a5)),e2_.1.2.2.2),a0,(f105 (a0,a1,())).1,a1,()))then(some (e1_.1,e1_.2.1,(0:Int),()))else none)else none)else none)else none)else none
theorem bET(x:DenS QU):run (cf [(121,⟨J8,Kx,p105,f105⟩),(122,⟨FF,FM,p102,f102⟩),(123,⟨Mk,MW,p156,f156⟩),(238,⟨QS,SS,p379,f379⟩),(124,⟨J9,Ky,p107,f107⟩)] []) 9 204 Tryz.f204 QU SU x=yB p105 f105 p102 f102 p156 f156 p379 f379 p107 f107 x.1 x.2.1 x.2.2.1 x.2.2.2.1 x.2.2.2.2.1 x.2.2.2.2.2.1:=by kernel_rfl
def oF(x:DenS QU):Option (DenS SU):=yB FU.pre FU.F Cj.pre Cj.F Jq.pre Jq.F Uo.pre Uo.F FV.pre FV.F x.1 x.2.1 x.2.2.1 x.2.2.2.1 x.2.2.2.2.1 x.2.2.2.2.2.1
def Up:Sum:=Aj QU SU oF (DenS.dflt SU)
theorem aUL:Sound Tryz.prog G1 204 Up:=sd (cf [(121,FU),(122,Cj),(123,Jq),(238,Uo),(124,FV)] []) 204 Tryz.f204 ⟨aAC,aS,aF1,aUJ,aAD,ak⟩ trivial QU SU oF _ (fun _=>bET ..)
abbrev aJC:=Ah QU
abbrev aLa:=Ag QU SU
variable (p380:aJC)(f380:aLa)
abbrev QV:Aa:=[(false,Za),(false,Za),(false,Zb),(false,Zb)]
abbrev M3:Aa:=[(false,Zb),(false,Za),(false,Za)]
def yC(p376:aJx)(f376:aK5)(p377:aJy)(f377:aK6)(p378:aJz)(f378:aK7)(p97:O5)(f97:Pd)(p118:GX)(f118:GY)(p40:UP)(f40:UU)(p380:aJC)(f380:aLa)(a0 a1:Ab Za)(a2 a3:Ab Zb):Option (DenS M3):=let e6_:=(!((f377 (a0,a2,())).1.2.2.2.2.1==(f377 (a0,a3,())).1.2.2.2.2.1));let e1_:=(a0,a1,e6_,(f40 (a0,a2,())).1.2.1,(f40 (a0,a3,())).1.2.1,(al .i64 ((f40 (a0,a2,())).1.2.2.1-(f40 (a0,a3,())).1.2.2.1)),());let e5_:=(a0,e6_,());let e2_:=(f118 e5_);let e3_:=(f97 e5_);let e4_:=(p97 e5_);let g1_:Option (DenS M3):=bif(p378 (a0,(1:Int),()))then(some (f378 (a0,(1:Int),())))else none;bif(p376 (a0,a1,(a2::(a3::[])),()))then(bif((f376 (a0,a1,(a2::(a3::[])),())).1 !=(0:Int))then(some ((0:Int),(0:Int),(f376 (a0,a1,(a2::(a3::[])),()))))else bif(p377 (a0,a2,()))then(bif(p377 (a0,a3,()))then(bif((f377 (a0,a2,())).1.2.1||(f377 (a0,a3,())).1.2.1)then(g1_)else bif((f377 (a0,a2,())).1.1||(f377 (a0,a3,())).1.1)then(bif(p378 (a0,(0:Int),()))then(some (f378 (a0,(0:Int),())))else none)else bif(((f377 (a0,a2,())).1.2.2.1&&(f377 (a0,a3,())).1.2.2.1)||((f377 (a0,a2,())).1.2.2.2.1&&(f377 (a0,a3,())).1.2.2.2.1))then(g1_)else bif(f377 (a0,a2,())).1.2.2.1 then(bif e4_ then(some (e3_.1,(0:Int),e3_.2))else none)else bif(f377 (a0,a3,())).1.2.2.2.1 then(bif e4_ then(some (e3_.1,(2:Int),e3_.2))else none)else bif((f377 (a0,a3,())).1.2.2.1||(f377 (a0,a2,())).1.2.2.2.1)then(bif(p118 e5_)then(some (e2_.1,(0:Int),e2_.2))else none)else bif(p40 (a0,a2,()))then(bif(p40 (a0,a3,()))then(bif(p380 e1_)then(some (f380 e1_))else none)else none)else none)else none)else none)else none
theorem bEU(x:DenS QV):run (cf [(200,⟨QP,SP,p376,f376⟩),(201,⟨QQ,SQ,p377,f377⟩),(202,⟨QR,SR,p378,f378⟩),(62,⟨Hk,Hx,p97,f97⟩),(64,⟨Gk,Gw,p118,f118⟩),(203,⟨Hf,Hr,p40,f40⟩),(204,⟨QU,SU,p380,f380⟩)] []) 9 161 Tryz.f161 QV M3 x=yC p376 f376 p377 f377 p378 f378 p97 f97 p118 f118 p40 f40 p380 f380 x.1 x.2.1 x.2.2.1 x.2.2.2.1:=by kernel_rfl
def cN(x:DenS QV):Option (DenS M3):=yC Ul.pre Ul.F Um.pre Um.F Un.pre Un.F CM.pre CM.F Cw.pre Cw.F DY.pre DY.F Up.pre Up.F x.1 x.2.1 x.2.2.1 x.2.2.2.1
def Oa:Sum:=Aj QV M3 cN (DenS.dflt M3)
theorem aGc:Sound Tryz.prog G1 161 Oa:=sd (cf [(200,Ul),(201,Um),(202,Un),(62,CM),(64,Cw),(203,DY),(204,Up)] []) 161 Tryz.f161 ⟨aUG,aUH,aUI,bN,Xp,bC,aUL,ak⟩ trivial QV M3 cN _ (fun _=>bEU ..)
abbrev aBC:=Ah QV
abbrev aCg:=Ag QV M3
variable (p381:aBC)(f381:aCg)
abbrev kQ:Aa:=[(false,Za),(false,Za),(false,Zb),(false,Zb)]
abbrev aAw:Aa:=[(false,Zb),(false,Za),(false,Za)]
def TT:SumF:=LH kQ aAw [(158,[],EY),(159,[],N8),(160,[],N9),(161,[],Oa)]
theorem aTN:Ma Tryz.prog G1 TT:=Yo ⟨D8 aAL,⟨D8 aF7,⟨D8 aGb,⟨D8 aGc,ak⟩⟩⟩⟩
abbrev aIU:=Option (Nat×List Nat)->Ah kQ
abbrev aKs:=Option (Nat×List Nat)->Ag kQ aAw
variable (p100002:aIU)(f100002:aKs)
abbrev QZ:Aa:=[(true,Zz),(false,Zc)]
abbrev M4:Aa:=[(false,Zb),(false,Za),(false,Za)]
def yD(p100002:aIU)(f100002:aKs)(a0:Ab Zz)(a1:Ab Zc):Option (DenS M4):=let e1_:=(a0.2.1,a0.1,a0.2.2.1,a0.2.2.2.1,());bif(p100002 (some (a1,[])) e1_)then(some (f100002 (some (a1,[])) e1_))else none
theorem bEY(x:DenS QZ):run ({cf [] []with fns:=[(57,⟨kQ,aAw,p100002,f100002⟩)] }) 9 192 Tryz.f192 QZ M4 x=yD p100002 f100002 x.1 x.2.1:=by kernel_rfl
def cO(x:DenS QZ):Option (DenS M4):=yD TT.pre TT.F x.1 x.2.1
def Dy:Sum:=Aj QZ M4 cO (DenS.dflt M4)
theorem aX:Sound Tryz.prog G1 192 Dy:=sd ({cf [] []with fns:=[(57,TT)] }) 192 Tryz.f192 trivial trivial QZ M4 cO _ (fun _=>bEY ..) (hfs:=⟨aTN,ak⟩)
abbrev aBD:=Ah QZ
abbrev aCh:=Ag QZ M4
variable (p395:aBD)(f395:aCh)
abbrev Qy:Aa:=[(false,Za),(false,Za),(false,Ze)]
abbrev Sw:Aa:=[(true,Zw),(false,Za)]
abbrev I5:Pat:=⟨44,[(30,.one (.v .i64)),(29,.one (.sl Zb)),(0,.one (.v .i64)),(31,.one (.v .i64)),(8,.one (.ptr 1 0)),(6,.one (.ptr 0 0))],[.raw [.v .i64,.v .i64,.v .i64,.v .i64],.raw [.v .i64,.v .i64,.v .i64,.v .i64]]⟩
abbrev j6:List (Nat×Shape):=[]
abbrev OH:List (Nat×Pat):=[(0,⟨44,[(8,.one (.ptr 1 0)),(6,.one (.ptr 0 0))],[.raw [.v .i64,.v .i64,.v .i64,.v .i64],.raw [.v .i64,.v .i64,.v .i64,.v .i64]]⟩)]
abbrev NQ:Option Pat:=(some ⟨44,[(6,.one (.ptr 0 0)),(7,.one (.v .i64))],[.raw [.v .i64,.v .i64,.v .i64,.v .i64]]⟩)
variable (w311_7:Pat.D I5->Option (Ad OH NQ))
def gV(p69:BS)(f69:BT)(p66:Cd)(f66:Ce){R:Type}(L:Pat.D I5->Option R)(e:Ad OH NQ->Option R)(x:Pat.D I5):Option R:=let e2_:=(x.1.2.2.1,(x.1.2.1.getD (aq x.1.2.2.2.1) (0:Int)),());let e1_:=(f66 e2_);bif(decide (x.1.2.2.2.1<x.1.1))then(bif((decide ((0:Int)<=x.1.2.2.2.1))&&(decide (x.1.2.2.2.1<(x.1.2.1.length:Int))))then(bif(p66 e2_)then(bif(e1_.1 !=(0:Int))then(((e (.inr (((),e1_),x.2.2)))))else(L ((x.1.1,x.1.2.1,x.1.2.2.1,(al .i64 (x.1.2.2.2.1+(1:Int))),(),(),()),x.2)))else none)else none)else(e (.inl (((),(),()),x.2)))
theorem bHC(d:Nat)(R:Type)(L:Pat.D I5->Option R)(e:Ad OH NQ->Option R)(x:Pat.D I5):
  Bq (cf [(71,⟨B6,B7,p69,f69⟩),(85,⟨CG,CH,p66,f66⟩)] [(58,7,LoopSpec.of I5 j6 OH NQ w311_7)]) (d+2) 58 (Bp Tryz.f58 7) I5 j6 OH NQ (R:=R) L e x=gV p69 f69 p66 f66 L e x:=by kernel_rfl
theorem bBl(p69:BS)(f69:BT)(p66:Cd)(f66:Ce):Bn fun L e x=>gV p69 f69 p66 f66 L e x:=by intro _ _ _ _ _ _ _ h0 hL he _;unfold gV;repeat' (first|exact h0|exact hL _|exact he _|apply By|(apply Bz h0;intro _)|(apply BA<;>intro _))
def aRs(p69:BS)(f69:BT)(p66:Cd)(f66:Ce)(w311_7:Pat.D I5->Option (Ad OH NQ))(a0 a1:Ab Za)(a2:Ab Ze):Option (DenS Sw):=
 bif(p69 (a0,()))then(bif((f69 (a0,())).2.1 !=(0:Int))then(some (f69 (a0,())))
 else bif((decide (a1<(0:Int)))||(decide (a1>(5:Int))))then(some ((f69 (a0,())).1,(3:Int),()))
 else Vx.AQ (w311_7 (((a2.length:Int),a2,a0,(0:Int),(),(),()),((0:Int),(0:Int),(0:Int),(0:Int),()),(f69 (a0,())).1,())) fun y3=>
 Vx.AP y3 (fun y4=>
 some (y4.2.2.1,(0:Int),())) (fun z4=>
 some (z4.2.1,z4.1.2)))
 else none
theorem bEo(x:DenS Qy):run (cf [(71,⟨B6,B7,p69,f69⟩),(85,⟨CG,CH,p66,f66⟩)] [(58,7,LoopSpec.of I5 j6 OH NQ w311_7)]) 9 58 Tryz.f58 Qy Sw x=aRs p69 f69 p66 f66 w311_7 x.1 x.2.1 x.2.2.1:=by kernel_rfl
def aIG:I5.D->Option (Ad OH NQ):=Bi fun L=>gV Ap.pre Ap.F Av.pre Av.F L some
def aHc(x:DenS Qy):Option (DenS Sw):=aRs Ap.pre Ap.F Av.pre Av.F aIG x.1 x.2.1 x.2.2.1
def lI:Sum:=Aj Qy Sw aHc (DenS.dflt Sw)
theorem aUm:Sound Tryz.prog G1 58 lI:=sd (cf [(71,Ap),(85,Av)] [(58,7,LoopSpec.of I5 j6 OH NQ aIG)]) 58 Tryz.f58 ⟨D1,FY,ak⟩ ⟨rfl,fun d=>Bw (fun L e x=>gV Ap.pre Ap.F Av.pre Av.F L e x) (bBl Ap.pre Ap.F Av.pre Av.F) (fun _ _ _ _=>bHC ..),ak⟩ Qy Sw aHc _ (fun _=>bEo ..)
abbrev rM:=Ah Qy
abbrev sE:=Ag Qy Sw
variable (p311:rM)(f311:sE)
abbrev Qz:Aa:=[(false,Za),(false,Za)]
abbrev Sx:Aa:=[(false,Zb),(false,Za),(false,.bool)]
def aRt(p70:DA)(f70:DB)(a0 a1:Ab Za):Option (DenS Sx):=bif(p70 (a0,()))then(bif(a1==(1:Int))then(some ((f70 (a0,())).1,(0:Int),true,()))else bif(a1==(0:Int))then(bif(a1==(0:Int))then(some ((f70 (a0,())).1,(1:Int),true,()))else some ((0:Int),(0:Int),false,()))else bif(a1==(2:Int))then(bif(a1==(2:Int))then(some ((f70 (a0,())).1,(1:Int),true,()))else some ((0:Int),(0:Int),false,()))else bif(a1==(3:Int))then(bif(a1==(3:Int))then(some ((f70 (a0,())).1,(1:Int),true,()))else some ((0:Int),(0:Int),false,()))else bif(a1==(4:Int))then(some ((f70 (a0,())).1,(1:Int),true,()))else some ((0:Int),(0:Int),false,()))else none
theorem bEp(x:DenS Qz):run (cf [(61,⟨Du,Dv,p70,f70⟩)] []) 9 205 Tryz.f205 Qz Sx x=aRt p70 f70 x.1 x.2.1:=by kernel_rfl
def aHd(x:DenS Qz):Option (DenS Sx):=aRt Bh.pre Bh.F x.1 x.2.1
def lJ:Sum:=Aj Qz Sx aHd (DenS.dflt Sx)
theorem aUn:Sound Tryz.prog G1 205 lJ:=sd (cf [(61,Bh)] []) 205 Tryz.f205 ⟨FZ,ak⟩ trivial Qz Sx aHd _ (fun _=>bEp ..)
abbrev aBv:=Ah Qz
abbrev aB9:=Ag Qz Sx
variable (p312:aBv)(f312:aB9)
abbrev QA:Aa:=[(false,Za),(true,Zw),(false,Zb)]
abbrev Sy:Aa:=[(false,Zb),(false,Za)]
def aRu(p98:Lu)(f98:Ly)(a0:Ab Za)(a1:Ab Zw)(a2:Ab Zb):Option (DenS Sy):=let e1_:=(al .i64 (a1.2.1-(1:Int)));bif(p98 (a0,a2,()))then(bif((f98 (a0,a2,())).2.1==(0:Int))then(some ((f98 (a0,a2,())).2.2.1,(al .i64 ((al .i64 ((al .i64 ((al .i64 ((al .i64 (1:Int))-(1:Int)))+a1.2.2.1))-a1.2.1))+(1:Int))),()))else bif(decide ((0:Int)<=e1_))then(some ((Ao .u64 (f98 (a0,a2,())).2.2.1 (Bk .u64 (1:Int) e1_)),(al .i64 ((al .i64 ((al .i64 ((al .i64 ((al .i64 (f98 (a0,a2,())).2.1)-(1:Int)))+a1.2.2.1))-a1.2.1))+(1:Int))),()))else none)else none
theorem bEq(x:DenS QA):run (cf [(91,⟨FG,FR,p98,f98⟩)] []) 9 63 Tryz.f63 QA Sy x=aRu p98 f98 x.1 x.2.1 x.2.2.1:=by kernel_rfl
def aHe(x:DenS QA):Option (DenS Sy):=aRu Cs.pre Cs.F x.1 x.2.1 x.2.2.1
def lK:Sum:=Aj QA Sy aHe (DenS.dflt Sy)
theorem aUo:Sound Tryz.prog G1 63 lK:=sd (cf [(91,Cs)] []) 63 Tryz.f63 ⟨VD,ak⟩ trivial QA Sy aHe _ (fun _=>bEq ..)
abbrev rN:=Ah QA
abbrev sG:=Ag QA Sy
variable (p313:rN)(f313:sG)
abbrev QB:Aa:=[(true,Zj)]
abbrev Sz:Aa:=[(false,Za)]
def aRv(p178:Jw)(f178:Jz)(a0:Ab Zj):Option (DenS Sz):=bif(a0.1 !=(0:Int))then(bif(p178 (a0.1,()))then(some ((al .i64 ((64:Int)+(f178 (a0.1,())).1)),()))else none)else bif(p178 a0.2)then(some (f178 a0.2))else none
theorem bEr(x:DenS QB):run (cf [(115,⟨Gp,FO,p178,f178⟩)] []) 9 206 Tryz.f206 QB Sz x=aRv p178 f178 x.1:=by kernel_rfl
def aHf(x:DenS QB):Option (DenS Sz):=aRv CL.pre CL.F x.1
def lL:Sum:=Aj QB Sz aHf (DenS.dflt Sz)
theorem aUp:Sound Tryz.prog G1 206 lL:=sd (cf [(115,CL)] []) 206 Tryz.f206 ⟨aU,ak⟩ trivial QB Sz aHf _ (fun _=>bEr ..)
abbrev aBw:=Ah QB
abbrev aCa:=Ag QB Sz
variable (p314:aBw)(f314:aCa)
end Vx
end
