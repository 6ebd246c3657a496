/- Part 3 of the proof. What is proved: symbolic execution of the functions, proved sound; what each function of the program computes, and that every run ends with it; what these functions compute, in plain numbers. Conditions: each theorem bears its own. -/
import Derived.Test.YthajbkcpnbiobaaGreatDoorVxG2
import Derived.Laws.Sem
import Derived.Laws.Externs
set_option linter.all false
set_option exponentiation.threshold 1000000
noncomputable section
open Array renaming getD->jm,getD_eq_getD_getElem?->fi,getElem?_eq_some_iff->dx,getElem?_setIfInBounds_ne->im,replicate->kp
open Bool renaming and_eq_true->ar,not_eq_false'->qb,not_eq_true'->ff,or_eq_true->fh
open Classical renaming choose_spec->ov,not_forall->jo,not_imp->ki
open Go.Region renaming ready->mo,wanted->ig
open Go.World renaming size_alloc->il
open Int renaming eq_ofNat_of_zero_le->cv
open List renaming any_eq_true->qp,append_assoc->fy,append_nil->du,countP_append->qa,countP_congr->qi,countP_cons->kv,countP_eq_zero->pj,countP_le_length->ou,countP_nil->qx,eq_nil_of_length_eq_zero->co,flatMap_cons->qh,getElem?_append_left->cw,getElem?_append_right->cm,getElem?_cons_zero->gv,getElem?_drop->fe,getElem?_eq_getElem->bw,getElem?_eq_none->dz,getElem?_eq_some_iff->bp,getElem?_take_of_lt->di,getElem?_toArray->gq,length_append->fc,length_cons->cy,length_nil->ee,map_cons->gg,mem_append->dt,mem_cons->dq,mem_cons_of_mem->fw,mem_filter->qv,mem_flatMap->og,mem_map->ly,mem_range->lq,nodup_append->ko,nodup_nil->jt,range->ja,range_succ->qw,set_set->ot
open Nat renaming beq_refl->fg,eq_of_beq_eq_true->av,eq_or_lt_of_le->mg,le_of_ble_eq_true->kc,le_refl->ci,le_trans->gb,lt_irrefl->ob,lt_of_lt_of_le->az,lt_or_ge->bc,lt_trichotomy->gd,sub_self->gu,zero_add->dj,zero_le->dv
open Option renaming getD_some->ms
open Option.some renaming injEq->ap
open Prod.mk renaming injEq->cr
namespace Vx
open Go Go.RowKit
theorem uC{mem:Ae}{c:SC}(h:EI c=true):Do mem c=(c,mem):=by
 cases c with
 |fn f caps=>cases caps with
  |nil=>rfl
  |cons p r=>simp[EI]at h
 |_=>first|rfl|(simp[EI]at h)
theorem Wv{mem:Ae}:∀{l:List SC},AL l=true->Fg mem l=(l,mem)
 | [],_=>rfl
 |c::r,h=>by
  simp only[AL,ar]at h
  simp only[Fg,uC h.1,Wv h.2]
theorem aDQ{mem:Ae}{x:SV}(h:AL x.cells=true):F9 mem x=(x,mem):=by
 cases x with
 |one c=>simp only[SV.cells,AL,Bool.and_true]at h;simp only[F9,uC h]
 |agg cs=>simp only[SV.cells]at h;simp only[F9,Wv h]
theorem Yu{mem:Ae}:∀{sg:Aa} {l:List SV},(∀x∈l,AL x.cells=true)->(BK mem sg l).2=mem/\(l.length=sg.length->(BK mem sg l).1=l)
 | [],_,_=>⟨rfl,fun _=>rfl⟩
 |_::_,[],_=>⟨rfl,fun _=>rfl⟩
 |(a,τ)::sg,x::r,h=>by
  obtain⟨h1,h2⟩:=Yu (mem:=mem) (sg:=sg) (l:=r) fun y hy=>h y (by simp[hy])
  simp only[BK]
  cases FD a τ with
  |true=>exact⟨h1,fun hl=>by simp only[aa];rw[h2 (by simpa using hl)]⟩
  |false=>
   simp only[ab,aDQ (h x (by simp))]
   exact⟨h1,fun hl=>by rw[h2 (by simpa using hl)]⟩
theorem PD{mem m2:Ae}:∀{sg:Aa} {l:List SV},(∀x∈l,AL x.cells=true)->(BK m2 sg l).1=(BK mem sg l).1/\∀x∈(BK mem sg l).1,AL x.cells=true
 | [],_,h=>⟨rfl,h⟩
 |_::_,[],h=>⟨rfl,h⟩
 |(a,τ)::sg,x::r,h=>by
  obtain⟨h1,h2⟩:=PD (mem:=mem) (m2:=m2) (sg:=sg) (l:=r) fun y hy=>h y (by simp[hy])
  simp only[BK]
  cases FD a τ with
  |true=>
   simp only[aa]
   refine⟨by rw[h1],fun y hy=>?_⟩
   rcases dq.1 hy with rfl|hy
   ·exact h _ (by simp)
   ·exact h2 y hy
  |false=>
   simp only[ab,aDQ (h x (by simp))]
   refine⟨by rw[h1],fun y hy=>?_⟩
   rcases dq.1 hy with rfl|hy
   ·exact h _ (by simp)
   ·exact h2 y hy
theorem bIJ{mem m1:Ae}{a:Bool}{τ:Shape}{z:SV}{x:Ab τ}(hz:AL z.cells=true)(h:J1 mem a τ z=some (x,m1)):m1=mem/\∀m2,J1 m2 a τ z=some (x,m2):=by
 have plain:∀{a:Bool} {τ:Shape} {x:Ab τ},C6 mem a τ z=some (x,m1)->m1=mem/\∀m2,C6 m2 a τ z=some (x,m2):=fun {a τ x} h=>by
  unfold C6 at h⊢;cases z<;>cases a<;>simp only[aa,ab]at h⊢<;>first|(cases h;done)|skip
  ·split at h
   ·cases h;exact⟨rfl,fun m2=>rfl⟩
   ·cases h
  ·split at h
   ·cases h;exact⟨rfl,fun m2=>rfl⟩
   ·cases h
 cases τ with
 |slice e=>
  cases a with
  |false=>exact plain h
  |true=>
   simp only[J1,aa]at h⊢;split at h
   ·simp[SV.cells,AL,EI]at hz
   ·cases h;exact⟨rfl,fun _=>rfl⟩
   ·cases h
 |_=>exact plain h
theorem aD:∀{sg:Aa} {mem m1:Ae} {l:List SV} {x:DenS sg},(∀z∈l,AL z.cells=true)->CQ mem sg l=some (x,m1)->m1=mem/\∀m2,CQ m2 sg l=some (x,m2)
 | [],mem,m1,[],x,_,h=>by simp only[CQ]at h;cases h;exact⟨rfl,fun _=>rfl⟩
 | [],mem,m1,_::_,x,_,h=>by simp[CQ]at h
 |_::_,mem,m1,[],x,_,h=>by simp[CQ]at h
 |(a,τ)::sg,mem,m1,z::l,x,hz,h=>by
  simp only[CQ]at h⊢
  split at h
  ·rename_i u m3 e1
   split at h
   ·rename_i v m4 e2
    cases h
    obtain⟨h1,h2⟩:=bIJ (hz z (by simp)) e1
    subst h1
    obtain⟨h3,h4⟩:=aD (fun y hy=>hz y (by simp[hy])) e2
    exact⟨h3,fun m2=>by rw[h2 m2];simp only;rw[h4 m2]⟩
   ·cases h
  ·cases h
theorem Yw:∀{sg:Aa} {mem m1:Ae} {x:DenS sg} {vs:List SV},Cg mem sg x=some (vs,m1)->m1.length=mem.length->∀m2,Cg m2 sg x=some (vs,m2)
 | [],mem,m1,x,vs,h,_=>by simp only[Cg]at h⊢;cases h;intro m2;rfl
 |(a,τ)::sg,mem,m1,x,vs,h,hl=>by
  simp only[Cg]at h⊢
  split at h
  ·rename_i v m3 e1
   split at h
   ·rename_i r m4 e2
    cases h
    obtain⟨l2,g2⟩:=aDU e2
    have plain:∀{τ:Shape} {y:Ab τ},DE.giveP mem a τ y=some (v,m3)->m3=mem/\∀m2,DE.giveP m2 a τ y=some (v,m2):=fun {τ y} h=>by
     unfold DE.giveP at h⊢
     cases a with
     |true=>simp only[aa]at h⊢;cases h;exact⟨rfl,fun _=>rfl⟩
     |false=>
      simp only[ab]at h⊢
      split at h
      ·cases h;exact⟨rfl,fun _=>rfl⟩
      ·cases h
    have key:m3=mem/\∀m2,DE m2 a τ x.1=some (v,m2):=by
     cases τ with
     |slice e=>
      simp only[DE]at e1⊢
      cases a with
      |true=>
       simp only[aa]at e1
       cases e1
       rw[g2]at hl
       simp only[fc,cy,ee]at hl
       omega
      |false=>
       simp only[ab]at e1⊢
       split at e1
       ·cases e1;exact⟨rfl,fun _=>rfl⟩
       ·cases e1
     |_=>exact plain e1
    obtain⟨rfl,k2⟩:=key
    have ih:=Yw e2 hl
    exact fun m2=>by rw[k2 m2];simp only;rw[ih m2]
   ·cases h
  ·cases h
theorem aOy:∀{sg:Aa} {mem m1:Ae} {x:DenS sg} {vs:List SV},Cg mem sg x=some (vs,m1)->∃l,m1=mem++l/\∀m2,m2.length=mem.length->Cg m2 sg x=some (vs,m2++l)
 | [],mem,m1,x,vs,h=>by simp only[Cg]at h⊢;cases h;exact⟨[],by simp,fun m2 _=>by simp⟩
 |(a,τ)::sg,mem,m1,x,vs,h=>by
  simp only[Cg]at h⊢
  split at h
  ·rename_i v m3 e1
   split at h
   ·rename_i r m4 e2
    cases h
    have plain:∀{τ:Shape} {y:Ab τ},DE.giveP mem a τ y=some (v,m3)->m3=mem/\∀m2,DE.giveP m2 a τ y=some (v,m2):=fun {τ y} h=>by
     unfold DE.giveP at h⊢
     cases a with
     |true=>simp only[aa]at h⊢;cases h;exact⟨rfl,fun _=>rfl⟩
     |false=>
      simp only[ab]at h⊢
      split at h
      ·cases h;exact⟨rfl,fun _=>rfl⟩
      ·cases h
    have plain':(m3=mem/\∀m2,DE m2 a τ x.1=some (v,m2))->∃l,m3=mem++l/\∀m2,m2.length=mem.length->DE m2 a τ x.1=some (v,m2++l):=fun⟨h1,h2⟩=>⟨[],by simp[h1],fun m2 _=>by rw[h2 m2];simp⟩
    have key:∃l,m3=mem++l/\∀m2,m2.length=mem.length->DE m2 a τ x.1=some (v,m2++l):=by
     cases τ with
     |slice e=>
      simp only[DE]at e1 plain' ⊢
      cases a with
      |true=>
       simp only[aa]at e1⊢
       cases e1
       exact⟨[.arr e x.1],rfl,fun m2 hm=>by rw[hm]⟩
      |false=>
       simp only[ab]at e1 plain' ⊢
       split at e1
       ·rename_i c ec
        cases e1
        exact⟨[],by simp,fun m2 _=>by simp⟩
       ·cases e1
     |_=>exact plain' (plain e1)
    obtain⟨l1,rfl,k2⟩:=key
    obtain⟨l2,h3,k4⟩:=aOy e2
    exact⟨l1++l2,by rw[h3,fy],fun m2 hm=>by
     rw[k2 m2 hm]
     simp only
     rw[k4 (m2++l1) (by simp[hm]),fy]⟩
   ·cases h
  ·cases h
theorem aDH{m1 m2:Ae}:∀{sg:Aa} {l:List SV},(∀z∈l,AL z.cells=true)->Pw m1 sg l=Pw m2 sg l
 | [],[],_=>rfl
 | [],_::_,_=>rfl
 |_::_,[],_=>rfl
 |(a,τ)::sg,z::l,h=>by
  simp only[Pw]
  rw[aDH (m1:=m1) (m2:=m2) fun y hy=>h y (by simp[hy])]
  congr 1
  cases FD a τ with
  |false=>rfl
  |true=>
   simp only[aa]
   have hz:=h z (by simp)
   split
   ·simp[SV.cells,AL,EI]at hz
   ·rfl
   ·rfl
theorem aDG{m1 m2:Ae}{f:FuncId}{args:List SV}(h:∀z∈args,AL z.cells=true):∀{l:List (FuncId×Sum)},JM l f m1 args=JM l f m2 args
 | []=>rfl
 |(g,S)::r=>by simp only[JM];rw[aDH (m1:=m1) (m2:=m2) h,aDG h]
variable {C:Cfg}{s:St}{o:Oper}{ctx:List (Nat×Bool)}
theorem Ym{m mem:Ae}{S:Sum}{args:List SV}{g:Bool}{x:TV}(hargs:∀z∈args,AL z.cells=true)(h:EE m S args=some (g,x,mem)):
  ∃l,mem=m++l/\(∀m2,m2.length=m.length->EE m2 S args=some (g,x,m2++l))/\(mem.length=m.length->∀m2,EE m2 S args=some (g,x,m2)):=by
 unfold EE at h⊢;cases hf:BK m S.ins args with
 |mk args' m1=>
  rw[hf]at h;simp only at h;have k1:=(Yu (mem:=m) (sg:=S.ins) hargs).1;have k2:=(PD (mem:=m) (m2:=m) (sg:=S.ins) hargs).2;rw[hf]at k1 k2;simp only at k1 k2;subst k1;split at h
  ·rename_i zm ez;obtain⟨z,m3⟩:=zm;simp only at h;split at h
   ·rename_i vs m4 ev;simp only[ap,cr]at h;obtain⟨rfl,rfl,rfl⟩:=h;obtain⟨rfl,t2⟩:=aD k2 ez;have key:∀m2,(∃l,Cg m2 S.outs (S.F z)=some (vs,l))->∀l,Cg m2 S.outs (S.F z)=some (vs,l)->(match BK m2 S.ins args with
      |(args',m1)=>match CQ m1 S.ins args' with
       |some x=>match Cg x.2 S.outs (S.F x.1)with
        |some (vs,mem')=>some (S.pre x.1,L6 vs,mem')
        |none=>none
       |none=>none)=some (S.pre z,L6 vs,l):=fun m2 _ l hl=>by
     have e1:=(PD (mem:=m3) (m2:=m2) (sg:=S.ins) hargs).1;have e2:=(Yu (mem:=m2) (sg:=S.ins) hargs).1;rw[hf]at e1;cases hf2:BK m2 S.ins args with
     |mk args2 m5=>
      rw[hf2]at e1 e2;simp only at e1 e2;subst e1 e2;simp only;rw[t2];simp only;rw[hl]
    obtain⟨l,hl,g2⟩:=aOy ev;exact⟨l,hl,fun m2 h=>key m2 ⟨_,g2 _ h⟩ _ (g2 _ h),fun h m2=>key m2 ⟨_,Yw ev h m2⟩ _ (Yw ev h m2)⟩
   ·cases h
  ·cases h
theorem aM9{m mem:Ae}{S:Sum}{args:List SV}{g:Bool}{x:TV}(hargs:∀z∈args,AL z.cells=true)(h:EE m S args=some (g,x,mem))(hl:Nat.beq mem.length m.length=true):mem=m:=by
 obtain⟨l,rfl,_⟩:=Ym hargs h;have:=av hl;simp only[fc]at this;rw[co (l:=l) (by omega),du]
theorem aYJ{mem:Ae}{τ:Shape}{z:SV}(h:AL z.cells=true):fN mem τ z=z:=by
 have one:∀c,EI c=true->F6 mem c=c:=fun c hc=>by
  unfold F6;split
  ·cases hc
  ·cases hc
  ·rfl
 have JQ:∀l:List SC,AL l=true->l.map (F6 mem)=l:=fun l=>by
  induction l with
  |nil=>intro _;rfl
  |cons c r ih=>
   intro h;simp only[AL,ar]at h;rw[gg,one c h.1,ih h.2]
 unfold fN;split
 ·rename_i c;have hc:EI c=true:=by
   have h':(EI c&&AL [])=true:=h;simp only[ar]at h';exact h'.1
  split
  ·cases hc
  ·rw[one c hc]
 ·rename_i cs;rw[JQ cs h]
theorem bCF{m1 m2 mem':Ae}{a:Bool}{τ:Shape}{z:SV}{x:Ab τ}(h:C6 m1 a τ z=some (x,mem')):C6 m2 a τ z=some (x,m2):=by
 unfold C6 at h⊢;split at h
 ·cases a with
  |true=>cases h
  |false=>
   simp only[ab]at h⊢;split at h
   ·cases h;rfl
   ·cases h
 ·cases a with
  |false=>cases h
  |true=>
   simp only[aa]at h⊢;split at h
   ·cases h;rfl
   ·cases h
theorem aSL{m1 m2:Ae}:∀{sg:Aa} {args:List SV} {x:DenS sg},(∀z∈args,AL z.cells=true)->J0 m1 sg args=some x->J0 m2 sg args=some x
 | [],[],_,_,h=>h
 | [],_::_,_,_,h=>h
 |_::_,[],_,_,h=>by simp[J0]at h
 |(a,τ)::sg,z::r,x,hn,h=>by
  simp only[J0]at h⊢
  cases ho:FD a τ with
  |true=>rw[ho]at h;cases h
  |false=>
   rw[ho]at h
   simp only[ab]at h⊢
   have hz:=hn z (by simp)
   rw[aYJ hz]at h⊢
   split at h
   ·rename_i u m v e1 e2
    cases h
    rw[bCF (m2:=m2) e1,aSL (m2:=m2) (fun w hw=>hn w (by simp[hw])) e2]
   ·cases h
theorem aM7{m m':Ae}{S:Sum}{args:List SV}{g:Bool}{x:TV}(hargs:∀z∈args,AL z.cells=true)(h:Fw m S args=some (g,x,m'))(m2:Ae):Fw m2 S args=some (g,x,m2):=by
 have hm:=tL h;subst hm;unfold Fw at h⊢;obtain⟨hf,h⟩:=AK h;rw[hf,aa];split at h
 ·rename_i z ez;rw[aSL (m2:=m2) hargs ez];split at h
  ·rename_i vs m3 ev;simp only[ap,cr]at h;obtain⟨rfl,rfl,rfl⟩:=h;simp only[Yw ev rfl m2]
  ·cases h
 ·cases h
theorem aDa{bor:Bool}{m mem:Ae}{S:Sum}{args:List SV}{g:Bool}{x:TV}(hargs:∀z∈args,AL z.cells=true)(h:Ey bor m S args=some (g,x,mem)):
  ∃l,mem=m++l/\(∀m2,m2.length=m.length->Ey bor m2 S args=some (g,x,m2++l))/\(mem.length=m.length->∀m2,Ey bor m2 S args=some (g,x,m2)):=by
 cases bor with
 |false=>exact Ym hargs h
 |true=>
  cases hb:Fw m S args with
  |some r=>
   obtain⟨g',x',m'⟩:=r;have h1:Ey true m S args=some (g',x',m'):=by unfold Ey;rw[aa,hb]
   rw[h1]at h;cases h;have hm:=tL hb;subst hm;have h2:∀m2,Ey true m2 S args=some (g,x,m2):=fun m2=>by unfold Ey;rw[aa,aM7 hargs hb m2]
   exact⟨[],by simp,fun m2 _=>by rw[du];exact h2 m2,fun _=>h2⟩
  |none=>
   have hn:∀m2,Fw m2 S args=none:=fun m2=>by
    cases h2:Fw m2 S args with
    |none=>rfl
    |some r=>
     obtain⟨g',x',m'⟩:=r;rw[aM7 hargs h2 m]at hb;cases hb
   have e:∀m2,Ey true m2 S args=EE m2 S args:=fun m2=>by unfold Ey;rw[aa,hn m2]
   rw[e]at h;obtain⟨l,h1,h2,h3⟩:=Ym hargs h;exact⟨l,h1,fun m2 hl=>by rw[e];exact h2 m2 hl,fun hl m2=>by rw[e];exact h3 hl m2⟩
theorem aZv{bor:Bool}{m mem:Ae}{S:Sum}{args:List SV}{g:Bool}{x:TV}(hargs:∀z∈args,AL z.cells=true)(h:Ey bor m S args=some (g,x,mem))(hl:Nat.beq mem.length m.length=true):mem=m:=by
 obtain⟨l,rfl,_⟩:=aDa hargs h;have:=av hl;simp only[fc]at this;rw[co (l:=l) (by omega),du]
theorem tA{g:Bool}{x:TV}{mem:Ae}(hb:Yi C s ctx o.op=true)(h:At C s ctx o=some (.ok g x mem)):mem=s.mem/\Bx o.op<=1:=by
 unfold Yi at hb;split at hb
 ·rename_i c hop;split at hb
  ·rename_i fo hc;split at hb
   ·rename_i f args ef ea;split at hb
    ·rename_i S eL eS;simp only[ar]at hb;obtain⟨hbor,hsome⟩:=hb;refine⟨?_,by rw[hop];simp only[Bx,hc];exact ci _⟩;unfold At at h;rw[hop]at h;simp only[hc,ef,ea]at h;split at h
     ·rename_i L e';exfalso;split at e'
      ·rw[eL]at e';cases e'
      ·cases e'
     simp only[eS]at h;split at h
     ·rename_i g' x' m' ec;rw[BC h];unfold Ey at ec;rw[hbor,aa]at ec;split at ec
      ·rename_i r eb;cases ec;exact tL eb
      ·rename_i eb;rw[eb]at hsome;cases hsome
     ·cases h
    ·cases hb
   ·cases hb
  ·cases hb
 ·cases hb
theorem aM8(bor:Bool)(m:Ae){e:Shape}{sg outs:Aa}{pre:DenS ((true,.slice e)::sg)->Bool}{F:DenS ((true,.slice e)::sg)->DenS outs}(z:SV)(r:List SV):
  Ey bor m ⟨(true,.slice e)::sg,outs,pre,F⟩ (z::r)=EE m ⟨(true,.slice e)::sg,outs,pre,F⟩ (z::r):=by
 have hn:Fw m ⟨(true,.slice e)::sg,outs,pre,F⟩ (z::r)=none:=by
  unfold Fw;simp only[J0,FD,aa];cases Wu outs<;>rfl
 unfold Ey;rw[hn];cases bor<;>rfl
theorem aOa{m1 m2:Ae}{I:Aa}{args:List SV}(h:∀z∈args,AL z.cells=true):U9 m1 I args=U9 m2 I args:=by
 have hx:∀m:Ae,U9 m I args=(CQ m2 I (BK m2 I args).1).isSome:=fun m=>by
  unfold U9;have e1:=(PD (mem:=m2) (m2:=m) (sg:=I) h).1;have e2:=(Yu (mem:=m) (sg:=I) h).1;have k2:=(PD (mem:=m2) (m2:=m2) (sg:=I) h).2;cases hf:BK m I args with
  |mk a b=>
   rw[hf]at e1 e2;simp only at e1 e2;subst e1 e2;simp only;split
   ·rename_i e;rw[(aD k2 e).2 m2];rfl
   ·rename_i e;cases e':CQ m2 I (BK m2 I args).1 with
    |none=>rfl
    |some q=>rw[(aD k2 e').2 b]at e;cases e
 rw[hx,hx]
theorem aDE{m1 m2:Ae}{T:TypeId}{args:List SV}(h:∀z∈args,AL z.cells=true):∀{l:List (TypeId×SumF)},U7 m1 T args l=U7 m2 T args l
 | []=>rfl
 |(g,S)::r=>by simp only[U7];rw[aOa (m1:=m1) (m2:=m2) h,aDE h]
theorem aN3{m1 m2:Ae}{m:String}{args:List SV}(h:∀z∈args,AL z.cells=true):∀{l:List (String×SumM)},U8 m1 m args l=U8 m2 m args l
 | []=>rfl
 |(g,S)::r=>by simp only[U8];rw[aOa (m1:=m1) (m2:=m2) h,aN3 h]
theorem aN0{mem:Ae}{f:FuncId}{args:List SV}(h:∀z∈args,AL z.cells=true):∀{l:List (FuncId×SumL)},G9 l f mem args=none
 | []=>rfl
 |(g,L)::r=>by
  have hf:LM mem L.lend args=false:=by
   cases args with
   |nil=>rfl
   |cons z zs=>
    have hz:=h z (by simp)
    simp only[LM]
    cases hk:L.lend with
    |win e=>
     simp only[gJ]
     split
     ·simp[SV.cells,AL,EI]at hz
     ·simp[SV.cells,AL,EI]at hz
     ·rfl
    |ref τ=>
     simp only[gJ]
     split
     ·simp[SV.cells,AL,EI]at hz
     ·rfl
  simp only[G9,hf,Bool.and_false,ab]
  exact aN0 h
theorem iI{C:Cfg}{mem:Ae}{f:FuncId}{args:List SV}(h:∀z∈args,AL z.cells=true):C.lsum f mem args=none:=aN0 h
theorem aEp:∀{l:List Operand},DF s ctx l=true->∀x∈l,∀v,ev s ctx x=some v->aEr v=true
 | [],_,x,hx,_,_=>by simp at hx
 |y::r,h,x,hx,v,hv=>by
  simp only[DF,ar]at h
  rcases dq.1 hx with rfl|hx
  ·rw[hv]at h;exact h.1
  ·exact aEp h.2 x hx v hv
theorem bAe{l:List Operand}(h:DF s ctx l=true){x:Operand}(hx:x∈l){c:SC}(hc:Bj s ctx x=some c):EI c=true:=by
 unfold Bj at hc;split at hc
 ·rename_i c' e;cases hc;have:=aEp h x hx _ e;simpa[aEr,SV.cells,AL]using this
 ·cases hc
theorem aNW{l:List Operand}(h:DF s ctx l=true){x:Operand}(hx:x∈l){c:SV}(hc:EF s ctx x=some c):AL c.cells=true:=by
 unfold EF at hc;split at hc
 ·rename_i c' e;cases hc;exact aEp h x hx _ e
 ·cases hc
theorem Pu{l:List Operand}(h:DF s ctx l=true):∀{m:List Operand},(∀x∈m,x∈l)->∀{cs:List SV},Ei s ctx m=some cs->∀c∈cs,AL c.cells=true
 | [],_,cs,hc,c,hcc=>by simp only[Ei]at hc;cases hc;simp at hcc
 |x::m,hm,cs,hc,c,hcc=>by
  simp only[Ei]at hc
  split at hc
  ·rename_i v vs e1 e2
   cases hc
   rcases dq.1 hcc with rfl|hcc
   ·exact aNW h (hm x (by simp)) e1
   ·exact Pu h (fun y hy=>hm y (by simp[hy])) e2 c hcc
  ·cases hc
theorem t7{l:List Operand}(h:DF s ctx l=true):∀{m:List (Nat×Operand)},(∀p∈m,p.2∈l)->∀{cs:List (Nat×SV)},G6 s ctx m=some cs->∀c∈cs,AL c.2.cells=true
 | [],_,cs,hc,c,hcc=>by simp only[G6]at hc;cases hc;simp at hcc
 |(i,x)::m,hm,cs,hc,c,hcc=>by
  simp only[G6]at hc
  split at hc
  ·rename_i v vs e1 e2
   cases hc
   rcases dq.1 hcc with rfl|hcc
   ·exact aNW h (hm (i,x) (by simp)) e1
   ·exact t7 h (fun y hy=>hm y (by simp[hy])) e2 c hcc
  ·cases hc
theorem uZ:∀{a b:List SC},AL (a++b)=(AL a&&AL b)
 | [],b=>by simp[AL]
 |c::a,b=>by simp[AL,uZ,Bool.and_assoc]
theorem aPU:∀{l:List SC} (n:Nat),AL l=true->AL (l.take n)=true
 |_,0,_=>by simp[AL]
 | [],_+1,_=>by simp[AL]
 |c::l,n+1,h=>by
  simp only[AL,ar]at h
  simp[AL,h.1,aPU n h.2]
theorem aPT:∀{l:List SC} (n:Nat),AL l=true->AL (l.drop n)=true
 |l,0,h=>by simpa using h
 | [],_+1,_=>by simp[AL]
 |c::l,n+1,h=>by
  simp only[AL,ar]at h
  simpa using aPT n h.2
theorem v4(AB:Nat->Option (Nat×Nat)):∀{ps:List (Nat×SV)} {old r:List SC},JZ AB ps old=some r->AL old=true->(∀p∈ps,AL p.2.cells=true)->AL r=true
 | [],old,r,h,ho,_=>by simp only[JZ]at h;cases h;exact ho
 |(i,x)::ps,old,r,h,ho,hp=>by
  simp only[JZ]at h
  split at h
  ·cases h
  ·have h:=(AK h).2
   split at h
   ·rename_i old' e
    refine v4 AB h ?_ (fun p hp'=>hp p (by simp[hp']))
    obtain⟨h1,_⟩:=vX e
    rw[h1,uZ,uZ,aPU _ ho,aPT _ ho,hp (i,x) (by simp)]
    rfl
   ·cases h
theorem aQS{v:Value}{c:SC}(h:Z4 v=some c):EI c=true:=by
 unfold Z4 at h;(repeat' split at h)<;>first|(cases h;rfl)|(cases h;done)|(have h2:=(AK h).2;cases h2;rfl)
theorem aQU:∀{l:List Value} {cs:List SC},Vn l=some cs->AL cs=true
 | [],_,h=>by simp only[Vn]at h;cases h;rfl
 |v::r,_,h=>by
  simp only[Vn]at h
  split at h
  ·rename_i e1 e2
   cases h
   simp[AL,aQS e1,aQU e2]
  ·cases h
theorem aFg{P:Program}{T:TypeId}{z:SV}(h:Gj P T=some z):AL z.cells=true:=by
 unfold Gj at h;split at h
 ·split at h
  ·unfold i9 at h;split at h
   ·split at h
    ·rename_i e;cases h;exact aQU e
    ·cases h
   ·split at h
    ·rename_i e;cases h;simp[SV.cells,AL,aQS e]
    ·cases h
  ·cases h
 ·cases h
theorem u5:∀(n:Nat) {l:List SC},AL l=true->AL (List.replicate n l).flatten=true
 |0,_,_=>rfl
 |n+1,l,h=>by rw[List.replicate_succ,List.flatten_cons,uZ,h,u5 n h];rfl
theorem aEV{T:TypeId}{y:Operand}{lo hi mx:Option Operand}(h:DF s ctx [y]=true):PU C s ctx T y lo hi mx=none/\Vq C s ctx y lo mx=none/\∀c,Bj s ctx y=some c->EI c=true:=by
 have hn:∀c,Bj s ctx y=some c->EI c=true:=fun c hc=>bAe h (by simp) hc;refine⟨?_,?_,hn⟩
 ·unfold PU;split
  ·rename_i e;have:=hn _ e;cases this
  ·rename_i e;have:=hn _ e;cases this
  ·rfl
 ·unfold Vq;cases hb:(C.keep&&lo.isNone&&mx.isNone)with
  |false=>rfl
  |true=>
   simp only[aa];split
   ·rename_i e;have:=hn _ e;cases this
   ·rfl
theorem aYr{m m2:Ae}{τ:Shape}{c:SC}(h:EI c=true):HU m2 τ c=HU m τ c:=by
 cases c with
 |own b=>cases h
 |v x=>
  unfold HU;split<;>first|rfl|(rename_i e;cases e)|simp_all
 |_=>rfl
theorem aEa(hcalm:DC s ctx o.op=true)(hk:Bx o.op<=1){g:Bool}{x:TV}{mem:Ae}(hst:Dt o.op s.mem mem=true)(h:At C s ctx o=some (.ok g x mem)):mem=s.mem:=by
 unfold At at h;cases hop:o.op with
 |alloc T=>rw[hop]at hk;simp[Bx]at hk
 |box T y=>rw[hop]at hk;simp[Bx]at hk
 |store T y z=>rw[hop]at hk;simp[Bx]at hk
 |makeSlice T l c=>rw[hop]at hk;simp[Bx]at hk
 |slice T y lo hi mx=>
  rw[hop]at h hcalm;obtain⟨h1,h2,hn⟩:=aEV (C:=C) (T:=T) (lo:=lo) (hi:=hi) (mx:=mx) (show DF s ctx [y]=true from hcalm);simp only[h1,h2]at h;split at h
  ·rename_i e c hT ec;split at h
   ·rw[uC (hn c ec)]at h;simp only at h;split at h
    ·split at h
     ·exact BC h
     ·cases h
    ·cases h
   ·cases h
  ·cases h
 |buildSlice T n ps=>
  have hn:DF s ctx o.op.operands.toList=true:=by
   have:=hcalm;rw[hop]at this⊢;exact this
  rw[hop]at h hn;simp only at h;split at h
  ·split at h
   ·rename_i z pl eτ hz hps;cases hn0:(Nat.beq n 0&&pl.isEmpty)with
    |true=>
     rw[hn0]at h;simp only[aa]at h;have:=BC h;unfold Dt at hst;rw[hop,this]at hst;have hst:=av hst;simp at hst
    |false=>
    rw[hn0]at h;simp only[ab]at h;split at h
    ·rename_i cs ecs;have hcs:AL cs=true:=v4 _ ecs (u5 n (aFg hz)) (t7 hn (fun p hp=>by
      simp only[Op.operands];simp only[ly];exact⟨p,hp,rfl⟩) hps)
     rw[Wv hcs]at h;simp only at h;split at h
     ·have h:=(AK h).2;cases hA:HT C T with
      |true=>
       rw[hA]at h;simp only[aa]at h;exfalso;have:=BC h;unfold Dt at hst;rw[hop,this]at hst;have hst:=av hst;simp at hst
      |false=>
       rw[hA]at h;simp only[ab]at h;exact BC h
     ·cases h
    ·cases h
   ·cases h
  ·cases h
 |indexAddr T y z=>
  rw[hop]at h hcalm;simp only at h;split at h
  ·split at h
   ·exact BC (AK (Ej h)).2
   ·cases h
  ·split at h
   ·exact BC (Ej h)
   ·cases h
  ·rename_i e c i hT ec ei;split at h
   ·split at h
    ·split at h
     ·exact BC (Ej h)
     ·rename_i eb;simp only[DC,ec,eb]at hcalm;cases hcalm
     ·exact BC (Ej h)
     ·cases h
    ·exact BC (Ej h)
    ·split at h
     ·exact BC (Ej h)
     ·cases h
    ·cases h
   ·cases h
  ·cases h
 |call c=>
  rw[hop]at h hk hcalm;simp only at h;cases hc:c.callee with
  |value fo=>
   have hn:DF s ctx (Op.call c).operands.toList=true:=by simpa only[DC,hc]using hcalm
   have hlen:Nat.beq mem.length s.mem.length=true:=by unfold Dt at hst;rw[hop]at hst;simpa only[hc]using hst
   simp only[hc]at h;split at h
   ·rename_i f caps args ef eargs;have hargs:=Pu hn (m:=c.args.toList) (fun x hx=>by simp[Op.operands,Call.operands,hc];exact .inr (by simpa using hx)) eargs;split at h
    ·rename_i L eL;exfalso;split at eL
     ·rw[iI hargs]at eL;cases eL
     ·cases eL
    split at h
    ·split at h
     ·rename_i ec;rw[←BC h]at ec;exact aZv hargs ec hlen
     ·cases h
    ·have h2:=(AK h).2;cases h2
   ·rename_i args ef eargs;have hargs:=Pu hn (m:=c.args.toList) (fun x hx=>by simp[Op.operands,Call.operands,hc];exact .inr (by simpa using hx)) eargs;split at h
    ·split at h
     ·rename_i ec;rw[←BC h]at ec;exact aM9 hargs ec hlen
     ·cases h
    ·cases h
   ·cases h
  |invoke r m=>
   have hn:DF s ctx (Op.call c).operands.toList=true:=by simpa only[DC,hc]using hcalm
   have hlen:Nat.beq mem.length s.mem.length=true:=by unfold Dt at hst;rw[hop]at hst;simpa only[hc]using hst
   simp only[hc]at h;split at h
   ·rename_i args ef eargs;have hargs:=Pu hn (m:=c.args.toList) (fun x hx=>by simp[Op.operands,Call.operands,hc];exact .inr (by simpa using hx)) eargs;split at h
    ·split at h
     ·rename_i ec;rw[←BC h]at ec;exact aM9 hargs ec hlen
     ·cases h
    ·cases h
   ·cases h
  |builtin b=>
   simp only[Bx,hc]at hk;simp only[hc]at h;cases b<;>simp only at h hk<;>first|omega|(cases h;done)|(repeat' split at h)<;>first|(cases h;done)|exact BC h|exact BC (AK h).2|exact BC (Ej h)
 |range T y=>rw[hop]at hk;simp[Bx]at hk
 |next y st=>rw[hop]at hk;simp[Bx]at hk
 |_=>
  rw[hop]at h;simp only at h;(repeat' split at h)<;>first|(cases h;done)|exact BC h|exact BC (AK h).2|exact BC (Ej h)|(have h2:=(AK h).2;cases h2)
theorem Cv{g g':Bool}{x x':TV}{m m':Ae}(h:some (Res.ok g x m)=some (Res.ok g' x' m'))(m2:Ae):some (Res.ok g x m2)=some (Res.ok g' x' m2):=by
 cases h;rfl
def aAm(m m2:Ae)(c:SC):Prop:=∀b,aMp c=some b->Ac m2 b=Ac m b
theorem aZz{m m2:Ae}{c:SC}(h:aAm m m2 c):Pl m2 c=Pl m c:=by
 cases c with
 |ptr b off=>simp only[Pl,h b rfl]
 |eptr b i off=>simp only[Pl,h b rfl]
 |_=>rfl
theorem bA7{m m2:Ae}{c:SC}(h:aAm m m2 c):lenOf m2 c=lenOf m c:=by
 cases c with
 |own b=>simp only[lenOf,h b rfl]
 |v x=>
  unfold lenOf;split<;>first|rfl|(rename_i e;cases e)|simp_all
 |_=>rfl
theorem gF(m2:Ae)(ctx:List (Nat×Bool))(y:Operand):ev {s with mem:=m2} ctx y=ev s ctx y:=by cases y<;>rfl
theorem Eh(m2:Ae)(ctx:List (Nat×Bool))(y:Operand):Bj {s with mem:=m2} ctx y=Bj s ctx y:=by unfold Bj;rw[gF]
theorem Yr(m2:Ae)(ctx:List (Nat×Bool))(y:Operand):EF {s with mem:=m2} ctx y=EF s ctx y:=by unfold EF;rw[gF]
theorem Ys(m2:Ae)(ctx:List (Nat×Bool)):∀l:List Operand,Ei {s with mem:=m2} ctx l=Ei s ctx l
 | []=>rfl
 |x::r=>by simp only[Ei,Yr,Ys m2 ctx r]
theorem t6(m2:Ae)(ctx:List (Nat×Bool)):∀l:List (Nat×Operand),G6 {s with mem:=m2} ctx l=G6 s ctx l
 | []=>rfl
 |(i,x)::r=>by simp only[G6,Yr,t6 m2 ctx r]
theorem aD5(m2:Ae)(ctx:List (Nat×Bool))(y:Operand):Fi {s with mem:=m2} ctx y=Fi s ctx y:=by unfold Fi;rw[Eh]
def kP(m m2:Ae):FP->Prop
 |.pure=>True
 |.rd (some b)=>Ac m2 b=Ac m b
 |.wr (some b)=>Ac m2 b=Ac m b
 |.mk _=>m2.length=m.length
 |_=>m2=m
theorem Wa{m2:Ae}{y:Operand}{c:SC}(hc:Bj s ctx y=some c)(h:kP s.mem m2 (PA s ctx y)):aAm s.mem m2 c:=by
 intro b hb;unfold PA at h;rw[hc]at h;simp only[hb]at h;exact h
theorem bAr(hcalm:DC s ctx o.op=true)(hk:Bx o.op<=1){g:Bool}{x:TV}{mem:Ae}(hst:Dt o.op s.mem mem=true)(h:At C s ctx o=some (.ok g x mem))(m2:Ae)(hs:kP s.mem m2 (EH s ctx o.op)):
  At C {s with mem:=m2} ctx o=some (.ok g x m2):=by
 by_cases hfull:m2=s.mem
 ·subst hfull;have:=aEa hcalm hk hst h;subst this;exact h
 unfold At at h⊢;cases hop:o.op with
 |alloc T=>rw[hop]at hk;simp[Bx]at hk
 |box T y=>rw[hop]at hk;simp[Bx]at hk
 |store T y z=>rw[hop]at hk;simp[Bx]at hk
 |makeSlice T l c=>rw[hop]at hk;simp[Bx]at hk
 |slice T y lo hi mx=>
  rw[hop]at h hcalm;have hcalm:DF s ctx [y]=true:=hcalm;obtain⟨h1,h2,hn⟩:=aEV (C:=C) (T:=T) (lo:=lo) (hi:=hi) (mx:=mx) hcalm;obtain⟨h1',h2',_⟩:=aEV (C:=C) (s:={s with mem:=m2}) (T:=T) (lo:=lo) (hi:=hi) (mx:=mx) (y:=y) (by
   simp only[DF,gF]at hcalm⊢;exact hcalm)
  simp only[h1,h2]at h;simp only[h1',h2',Eh,aD5]at h⊢;split at h
  ·rename_i e c hT ec;split at h
   ·rename_i τ eτ;rw[uC (hn c ec)]at h⊢;simp only at h⊢;rw[aYr (m:=s.mem) (hn c ec)];split at h
    ·split at h
     ·exact Cv h m2
     ·cases h
    ·cases h
   ·cases h
  ·cases h
 |makeFunc fn first captured=>rw[hop]at hs;exact absurd hs hfull
 |load T y=>
  rw[hop]at h hs;simp only[Eh]at h⊢;split at h
  ·rename_i a ea;have hag:=Wa ea hs;simp only[aZz hag];(repeat' split at h)<;>first|(cases h;done)|exact Cv h m2
  ·cases h
 |nilCheck y=>
  rw[hop]at h hs;simp only[gF]at h⊢;split at h
  ·rename_i b off ea;have hag:=Wa (c:=.ptr b off) (by unfold Bj;rw[ea]) hs b rfl;simp only[hag];(repeat' split at h)<;>first|(cases h;done)|exact Cv h m2
  ·exact Cv h m2
  ·cases h
 |fieldAddr T y i=>
  rw[hop]at h hs;simp only[Eh]at h⊢;split at h
  ·rename_i b off d ft ea ef;have hag:=Wa ea hs b rfl;simp only[hag];(repeat' split at h)<;>first|(cases h;done)|exact Cv h m2
  ·rename_i b j off d ft ea ef;have hag:=Wa ea hs b rfl;simp only[hag];(repeat' split at h)<;>first|(cases h;done)|exact Cv h m2
  ·exact Cv h m2
  ·cases h
 |indexAddr T y z=>
  rw[hop]at h hs;simp only[Eh,aD5]at h⊢;split at h
  ·split at h
   ·split at h
    ·rename_i heq;rw[ah heq];obtain⟨h1,h2⟩:=AK h;simp only[h1,aa];exact Cv h2 m2
    ·cases h
   ·cases h
  ·rename_i ea ei;have hag:=Wa ea hs _ rfl;simp only[hag];split at h
   ·split at h
    ·rename_i heq;rw[ah heq];exact Cv h m2
    ·cases h
   ·cases h
  ·rename_i c i hT ea ei;have hag:=Wa ea hs;split at h
   ·rename_i τ eτ;cases c with
    |own b=>
     have hb:=hag b rfl;simp only at h⊢;simp only[hb];have hc2:=hcalm;rw[hop]at hc2;simp only[DC,ea]at hc2;split at h
     ·split at h
      ·rename_i heq;rw[ah heq];exact Cv h m2
      ·cases h
     ·rename_i eb;rw[eb]at hc2;cases hc2
     ·split at h
      ·rename_i heq;rw[ah heq];exact Cv h m2
      ·cases h
     ·cases h
    |sl τ' xs=>
     simp only at h⊢;split at h
     ·rename_i heq;rw[ah heq];exact Cv h m2
     ·cases h
    |sub b lo n=>
     have hb:=hag b rfl;simp only at h⊢;simp only[hb];split at h
     ·split at h
      ·rename_i heq;rw[ah heq];exact Cv h m2
      ·cases h
     ·cases h
    |_=>simp only at h;cases h
   ·cases h
  ·cases h
 |buildSlice T n ps=>
  have hn:DF s ctx o.op.operands.toList=true:=by
   have:=hcalm;rw[hop]at this⊢;exact this
  rw[hop]at h hn;simp only[t6]at h⊢;split at h
  ·split at h
   ·rename_i z pl eτ hz hps;cases hn0:(Nat.beq n 0&&pl.isEmpty)with
    |true=>
     rw[hn0]at h;simp only[aa]at h;have:=BC h;unfold Dt at hst;rw[hop,this]at hst;have hst:=av hst;simp at hst
    |false=>
    rw[hn0]at h;simp only[ab]at h⊢;split at h
    ·rename_i cs ecs;have hcs:AL cs=true:=v4 _ ecs (u5 n (aFg hz)) (t7 hn (fun p hp=>by
      simp only[Op.operands];simp only[ly];exact⟨p,hp,rfl⟩) hps)
     rw[Wv hcs]at h⊢;simp only at h⊢;split at h
     ·obtain⟨h1,h2⟩:=AK h;simp only[h1,aa];cases hA:HT C T with
      |true=>
       rw[hA]at h2;simp only[aa]at h2;exfalso;have:=BC h2;unfold Dt at hst;rw[hop,this]at hst;have hst:=av hst;simp at hst
      |false=>
       rw[hA]at h2;simp only[ab]at h2⊢;exact Cv h2 m2
     ·cases h
    ·cases h
   ·cases h
  ·cases h
 |call c=>
  rw[hop]at h hk hs hcalm;cases hc:c.callee with
  |value fo=>
   have hn:DF s ctx (Op.call c).operands.toList=true:=by simpa only[DC,hc]using hcalm
   have hlen:mem.length=s.mem.length:=by unfold Dt at hst;rw[hop]at hst;simp only[hc]at hst;exact av hst
   simp only[hc,Eh,Ys]at h⊢;split at h
   ·rename_i f caps args ef eargs;have hargs:=Pu hn (m:=c.args.toList) (fun x hx=>by simp[Op.operands,Call.operands,hc];exact .inr (by simpa using hx)) eargs;have hsum:C.sum f m2 args=C.sum f s.mem args:=aDG hargs;rw[hsum];split at h
    ·rename_i L eL;exfalso;split at eL
     ·rw[iI hargs]at eL;cases eL
     ·cases eL
    split
    ·rename_i L eL;exfalso;split at eL
     ·rw[iI hargs]at eL;cases eL
     ·cases eL
    split at h
    ·split at h
     ·rename_i ec;have hm:=BC h;rw[(aDa hargs ec).choose_spec.2.2 (by rw[←hm];exact hlen) m2];exact Cv h m2
     ·cases h
    ·have h2:=(AK h).2;cases h2
   ·rename_i args ef eargs;have hargs:=Pu hn (m:=c.args.toList) (fun x hx=>by simp[Op.operands,Call.operands,hc];exact .inr (by simpa using hx)) eargs;rw[aDE (m1:=m2) (m2:=s.mem) hargs];split at h
    ·split at h
     ·rename_i ec;have hm:=BC h;rw[(Ym hargs ec).choose_spec.2.2 (by rw[←hm];exact hlen) m2];exact Cv h m2
     ·cases h
    ·cases h
   ·cases h
  |invoke r m=>
   have hn:DF s ctx (Op.call c).operands.toList=true:=by simpa only[DC,hc]using hcalm
   have hlen:mem.length=s.mem.length:=by unfold Dt at hst;rw[hop]at hst;simp only[hc]at hst;exact av hst
   simp only[hc,Eh,Ys]at h⊢;split at h
   ·rename_i args ef eargs;have hargs:=Pu hn (m:=c.args.toList) (fun x hx=>by simp[Op.operands,Call.operands,hc];exact .inr (by simpa using hx)) eargs;rw[aN3 (m1:=m2) (m2:=s.mem) hargs];split at h
    ·split at h
     ·rename_i ec;have hm:=BC h;rw[(Ym hargs ec).choose_spec.2.2 (by rw[←hm];exact hlen) m2];exact Cv h m2
     ·cases h
    ·cases h
   ·cases h
  |builtin b=>
   cases b with
   |len=>
    simp only[hc,Eh]at h⊢;simp only[EH,hc]at hs;split at h
    ·rename_i x T ex eT;rw[ex]at hs;simp only at hs;split at h
     ·obtain⟨h1,h2⟩:=AK h;simp only[h1,aa];exact Cv h2 m2
     ·split at h
      ·rename_i a ea;have hag:=Wa ea hs;split at h
       ·cases h
       ·rename_i b lo n;have hb:=hag b rfl;simp only[hb];split at h
        ·exact Cv h m2
        ·cases h
       ·simp only[bA7 hag];(repeat' split at h)<;>first|(cases h;done)|exact Cv h m2
      ·cases h
     ·split at h
      ·exact Cv h m2
      ·cases h
     ·cases h
    ·cases h
   |min=>
    simp only[hc,Eh]at h⊢;split at h
    ·split at h
     ·split at h
      ·rename_i hk';rw[ah hk'];exact Cv h m2
      ·cases h
     ·cases h
    ·cases h
   |max=>
    simp only[hc,Eh]at h⊢;split at h
    ·split at h
     ·split at h
      ·rename_i hk';rw[ah hk'];exact Cv h m2
      ·cases h
     ·cases h
    ·cases h
   |complex=>
    simp only[hc,Eh]at h⊢;split at h
    ·split at h
     ·split at h
      ·rename_i hk';rw[ah hk'];exact Cv h m2
      ·cases h
     ·cases h
    ·cases h
   |real=>
    simp only[hc,Eh]at h⊢;split at h
    ·split at h
     ·exact Cv h m2
     ·cases h
    ·cases h
   |imag=>
    simp only[hc,Eh]at h⊢;split at h
    ·split at h
     ·exact Cv h m2
     ·cases h
    ·cases h
   |append=>simp[Bx,hc]at hk
   |copy=>simp[Bx,hc]at hk
   |_=>simp only[hc]at h;cases h
 |index T y z=>
  rw[hop]at h;simp only[Eh,Yr,aD5]at h⊢;(repeat' split at h)<;>first|(cases h;done)|exact Cv h m2
 |range T y=>rw[hop]at hk;simp[Bx]at hk
 |next y st=>rw[hop]at hk;simp[Bx]at hk
 |_=>
  rw[hop]at h;simp only[gF,Eh,Yr,t6]at h⊢;first
   |(cases h;done)
   |((repeat' split at h)<;>first|(cases h;done)|exact Cv h m2|(obtain⟨h1,h2⟩:=AK h;simp only[h1,aa];first|(cases h2;done)|exact Cv h2 m2))
theorem aOi{T:TypeId}{y z:Operand}(hop:o.op=.store T y z){g:Bool}{x:TV}{mem:Ae}(h:At C s ctx o=some (.ok g x mem)){m2:Ae}{b:Nat}(hf:EH s ctx o.op=.wr (some b))(hb:Ac m2 b=Ac s.mem b):
  Ac s.mem b≠.gone/\∃e,mem=s.mem.set b e/\At C {s with mem:=m2} ctx o=some (.ok g x (m2.set b e)):=by
 unfold At at h⊢;rw[hop]at h hf;rw[hop];simp only[Eh,Yr]at h⊢;simp only[EH]at hf;split at h
 ·rename_i b' off v ey ez;rw[ey,ez]at hf;simp only[FP.wr.injEq,ap]at hf;subst hf;simp only[hb];split at h
  ·rename_i eb;obtain⟨h1,h2⟩:=AK h;simp only[h1,aa];split at h2
   ·rename_i cs' ecs;cases h2;exact⟨by rw[eb];simp,_,rfl,rfl⟩
   ·cases h2
  ·cases h
 ·rename_i b' i off v ey ez;rw[ey,ez]at hf;simp only at hf;cases hno:AL v.cells with
  |false=>rw[hno]at hf;simp at hf
  |true=>
   rw[hno]at hf;simp only[aa,FP.wr.injEq,ap]at hf;subst hf;rw[aDQ hno]at h⊢;simp only[hb]at h⊢;split at h
   ·rename_i eb;obtain⟨h1,h2⟩:=AK h;simp only[h1,aa];split at h2
    ·split at h2
     ·cases h2;exact⟨by rw[eb];simp,_,rfl,rfl⟩
     ·cases h2
    ·cases h2
   ·cases h
 ·cases h
theorem aDO{g:Bool}{x:TV}{mem:Ae}(hop:(∃T,o.op=.alloc T)∨∃T y,o.op=.box T y)(h:At C s ctx o=some (.ok g x mem)):
  ∃e,mem=s.mem++[e]/\∀m2:Ae,m2.length=s.mem.length->At C {s with mem:=m2} ctx o=some (.ok g x (m2++[e])):=by
 unfold At at h⊢;rcases hop with⟨T,hop⟩|⟨T,y,hop⟩
 ·rw[hop]at h⊢;simp only at h⊢;split at h
  ·split at h
   ·split at h
    ·rename_i xs exs;cases h;exact⟨_,rfl,fun m2 hm=>by rw[hm]⟩
    ·cases h
   ·cases h
  ·cases h;exact⟨_,rfl,fun m2 hm=>by rw[hm]⟩
  ·cases h
 ·rw[hop]at h⊢;simp only[Yr]at h⊢;split at h
  ·split at h
   ·split at h
    ·rename_i xs exs;cases h;exact⟨_,rfl,fun m2 hm=>by rw[hm]⟩
    ·cases h
   ·cases h
  ·cases h;exact⟨_,rfl,fun m2 hm=>by rw[hm]⟩
  ·cases h
theorem aNb{g:Bool}{x:TV}{mem:Ae}(hcalm:DC s ctx o.op=true∨Bx o.op=2)(hm:iJ o.op s.mem mem=true)(h:At C s ctx o=some (.ok g x mem)):
  ∃e,mem=s.mem++[e]/\∀m2,m2.length=s.mem.length->At C {s with mem:=m2} ctx o=some (.ok g x (m2++[e])):=by
 cases hop:o.op with
 |call c=>
  rw[hop]at hm;cases hc:c.callee with
  |value fo=>
   simp only[iJ,hc]at hm;have hlen:=av hm;have hcalm:DC s ctx o.op=true:=hcalm.resolve_right (by rw[hop];simp[Bx,hc]);rw[hop]at hcalm;have hn:DF s ctx (Op.call c).operands.toList=true:=by simpa only[DC,hc]using hcalm
   have hex:∃e,mem=s.mem++[e]/\∀m2,m2.length=s.mem.length->At C {s with mem:=m2} ctx o=some (.ok g x (m2++[e])):=by
    unfold At at h⊢;rw[hop]at h⊢;simp only[hc,Eh,Ys]at h⊢;split at h
    ·rename_i f caps args ef eargs;have hargs:=Pu hn (m:=c.args.toList) (fun x hx=>by simp[Op.operands,Call.operands,hc];exact .inr (by simpa using hx)) eargs;split at h
     ·rename_i L eL;exfalso;split at eL
      ·rw[iI hargs]at eL;cases eL
      ·cases eL
     split at h
     ·rename_i S eS;have hcaps:caps=[]/\C.sum f s.mem args=some S:=by
       cases caps with
       |nil=>exact⟨rfl,eS⟩
       |cons _ _=>cases eS
      obtain⟨rfl,hS⟩:=hcaps;split at h
      ·rename_i ec;have hmm:=BC h;obtain⟨l,hl1,hl2,_⟩:=aDa hargs ec;have hle:∃e,l=[e]:=by
        rw[hmm,hl1]at hlen;simp only[fc]at hlen;match l,hlen with
        | [e],_=>exact⟨e,rfl⟩
        | [],h=>simp at h
        |_::_::_,h=>simp at h
       obtain⟨e,rfl⟩:=hle;refine⟨e,by rw[hmm,hl1],fun m2 hm2=>?_⟩;have hsum:C.sum f m2 args=some S:=(aDG hargs).trans hS;split
       ·rename_i L eL;exfalso;split at eL
        ·rw[iI hargs]at eL;cases eL
        ·cases eL
       simp only[hsum];rw[hl2 m2 hm2];exact Cv h _
      ·cases h
     ·have h2:=(AK h).2;cases h2
    ·rename_i args ef eargs;have hargs:=Pu hn (m:=c.args.toList) (fun x hx=>by simp[Op.operands,Call.operands,hc];exact .inr (by simpa using hx)) eargs;split at h
     ·rename_i S eS;split at h
      ·rename_i ec;have hmm:=BC h;obtain⟨l,hl1,hl2,_⟩:=Ym hargs ec;have hle:∃e,l=[e]:=by
        rw[hmm,hl1]at hlen;simp only[fc]at hlen;match l,hlen with
        | [e],_=>exact⟨e,rfl⟩
        | [],h=>simp at h
        |_::_::_,h=>simp at h
       obtain⟨e,rfl⟩:=hle;refine⟨e,by rw[hmm,hl1],fun m2 hm2=>?_⟩;rw[aDE (m1:=m2) (m2:=s.mem) hargs,eS];simp only;rw[hl2 m2 hm2];exact Cv h _
      ·cases h
     ·cases h
    ·cases h
   exact hex
  |invoke r m=>simp only[iJ,hc]at hm;cases hm
  |builtin b=>simp only[iJ,hc]at hm;cases hm
 |buildSlice T n ps=>
  rw[hop]at hm;have hlen:=av hm;have hcalm:DC s ctx o.op=true:=hcalm.resolve_right (by rw[hop];simp[Bx]);have hn:DF s ctx o.op.operands.toList=true:=by
   have:=hcalm;rw[hop]at this⊢;exact this
  unfold At at h⊢;rw[hop]at h hn⊢;simp only[t6]at h⊢;split at h
  ·split at h
   ·rename_i z pl eτ hz hps;cases hn0:(Nat.beq n 0&&pl.isEmpty)with
    |true=>
     rw[hn0]at h;simp only[aa,ap,Res.ok.injEq]at h⊢;obtain⟨rfl,rfl,rfl⟩:=h;exact⟨_,rfl,fun m2 hm2=>by rw[hm2];exact⟨rfl,rfl,rfl⟩⟩
    |false=>
     rw[hn0]at h;simp only[ab]at h⊢;split at h
     ·rename_i cs ecs;have hcs:AL cs=true:=v4 _ ecs (u5 n (aFg hz)) (t7 hn (fun p hp=>by
       simp only[Op.operands];simp only[ly];exact⟨p,hp,rfl⟩) hps)
      rw[Wv hcs]at h;simp only at h;split at h
      ·rename_i xs exs;obtain⟨h1,h2⟩:=AK h;cases hA:HT C T with
       |true=>
        rw[hA]at h2;simp only[aa,ap,Res.ok.injEq]at h2;obtain⟨rfl,rfl,rfl⟩:=h2;refine⟨_,rfl,fun m2 hm2=>?_⟩;rw[Wv hcs];simp only[exs,h1,aa,hm2]
       |false=>
        exfalso;rw[hA]at h2;simp only[ab]at h2;have:=BC h2;rw[this]at hlen;omega
      ·cases h
     ·cases h
   ·cases h
  ·cases h
 |_=>rw[hop]at hm;cases hm
theorem aNZ{m m2:Ae}{f:FuncId}{b:Nat}{r:List SV}(hb:Ac m2 b=Ac m b):∀{l:List (FuncId×SumL)},G9 l f m2 (.one (.own b)::r)=G9 l f m (.one (.own b)::r)
 | []=>rfl
 |(g,L)::rest=>by
  have hf:LM m2 L.lend (.one (.own b)::r)=LM m L.lend (.one (.own b)::r):=by
   simp only[LM]
   cases L.lend with
   |win e=>simp only[gJ,hb]
   |ref τ=>rfl
  simp only[G9,hf,aNZ hb (l:=rest)]
theorem bAh{m m2:Ae}{b:Nat}{r:List SV}(hb:Ac m2 b=Ac m b)(h:∀z∈r,AL z.cells=true){sg:Aa}:Pw m2 sg (.one (.own b)::r)=Pw m sg (.one (.own b)::r):=by
 cases sg with
 |nil=>rfl
 |cons p sg=>
  obtain⟨a,τ⟩:=p;simp only[Pw,hb,aDH (m1:=m2) (m2:=m) h]
theorem aN5{m m2:Ae}{f:FuncId}{b:Nat}{r:List SV}(hb:Ac m2 b=Ac m b)(h:∀z∈r,AL z.cells=true):∀{l:List (FuncId×Sum)},JM l f m2 (.one (.own b)::r)=JM l f m (.one (.own b)::r)
 | []=>rfl
 |(g,S)::rest=>by simp only[JM,bAh hb h,aN5 hb h (l:=rest)]
theorem aNc{b:Nat}{g:Bool}{x:TV}{mem:Ae}(ho1:iQ C s ctx o.op=some b)(hl:mem.length=s.mem.length)(h:At C s ctx o=some (.ok g x mem)):
  Ac s.mem b≠.gone/\mem=s.mem.set b .gone/\∀m2,Ac m2 b=Ac s.mem b->At C {s with mem:=m2} ctx o=some (.ok g x (m2.set b .gone)):=by
 cases hop:o.op with
 |call c=>
  rw[hop]at ho1;cases hc:c.callee with
  |value fo=>
   simp only[iQ,hc]at ho1;split at ho1
   ·rename_i f b' r ef ea;split at ho1
    ·rename_i S eL eS;split at ho1
     ·rename_i e sg hins;obtain⟨hall,ho1⟩:=AK ho1;cases ho1;have hr:∀z∈r,AL z.cells=true:=by simpa using hall
      unfold At at h⊢;rw[hop]at h⊢;simp only[hc,Eh,Ys,ef,ea]at h⊢;have hL:(match o.guard with|none=>C.lsum f s.mem (.one (.own b)::r)|_=>none)=none:=by
       split
       ·exact eL
       ·rfl
      have step1:∀m2,Ac m2 b=Ac s.mem b->C.lsum f m2 (.one (.own b)::r)=none/\C.sum f m2 (.one (.own b)::r)=some S:=fun m2 hb=>⟨(aNZ hb).trans eL,(aN5 hb hr).trans eS⟩
      split at h
      ·rename_i L e';exfalso;split at e'
       ·rw[eL]at e';cases e'
       ·cases e'
      simp only[eS]at h;cases S with
      |mk ins outs pre F=>
      simp only at hins;subst hins;split at h;rotate_left
      ·cases h
      rename_i g' x' m' ec;have hmm:=BC h;subst hmm;rw[aM8]at ec;unfold EE at ec;simp only[BK,FD,aa]at ec;have fr:∀m2,(BK m2 sg r).2=m2/\(BK m2 sg r).1=(BK s.mem sg r).1:=fun m2=>⟨(Yu hr).1,(PD hr).1⟩
      have hr':∀z∈(BK s.mem sg r).1,AL z.cells=true:=(PD (mem:=s.mem) (m2:=s.mem) hr).2;rw[(fr s.mem).1]at ec;simp only[CQ]at ec;have key:∀(u:List (Ab e)) (m1:Ae),J1 s.mem true (.slice e) (.one (.own b))=some (u,m1)->m1=s.mem.set b .gone/\Ac s.mem b≠.gone/\∀m2,Ac m2 b=Ac s.mem b->J1 m2 true (.slice e) (.one (.own b))=some (u,m2.set b .gone):=fun u m1 h=>by
       simp only[J1,aa]at h⊢;cases eb:Ac s.mem b with
       |arr τ' xs=>
        rw[eb]at h;simp only at h;split at h
        ·rename_i xs' ec;cases h;exact⟨rfl,by simp,fun m2 hm=>by rw[hm];simp only[ec]⟩
        ·cases h
       |acc τ' xs=>
        rw[eb]at h;simp only at h;split at h
        ·rename_i xs' ec;cases h;exact⟨rfl,by simp,fun m2 hm=>by rw[hm];simp only[ec]⟩
        ·cases h
       |_=>rw[eb]at h;cases h
      split at ec
      ·rename_i zm ez;obtain⟨z,m3⟩:=zm;simp only at ec;split at ez
       ·rename_i u m1 e1;obtain⟨q1,q2,q3⟩:=key u m1 e1;subst q1;split at ez
        ·rename_i v m4 e2;cases ez;obtain⟨w1,w2⟩:=aD hr' e2;subst w1;split at ec
         ·rename_i vs m5 ev;cases ec;have hsame:mem.length=(s.mem.set b .gone).length:=by rw[hl];simp
          have gs:=aDV ev hsame;refine⟨q2,gs,fun m2 hb=>?_⟩;obtain⟨s1,s2⟩:=step1 m2 hb;split
          ·rename_i L e';exfalso;split at e'
           ·rw[s1]at e';cases e'
           ·cases e'
          simp only[s2,aM8,EE,BK,FD,aa];rw[(fr m2).1,(fr m2).2];simp only[CQ];rw[q3 m2 hb];simp only;rw[w2 (m2.set b .gone)];simp only;rw[Yw ev hsame (m2.set b .gone)];simp only;exact Cv h _
         ·cases ec
        ·cases ez
       ·cases ez
      ·cases ec
     ·cases ho1
    ·cases ho1
   ·cases ho1
  |invoke r m=>simp only[iQ,hc]at ho1;cases ho1
  |builtin b=>simp only[iQ,hc]at ho1;cases ho1
 |_=>rw[hop]at ho1;cases ho1
theorem aN1{m m2:Ae}{f:FuncId}{b:Nat}{r:List SV}(hb:Ac m2 b=Ac m b):∀{l:List (FuncId×SumL)},G9 l f m2 (.one (.ptr b 0)::r)=G9 l f m (.one (.ptr b 0)::r)
 | []=>rfl
 |(g,L)::rest=>by
  have hf:LM m2 L.lend (.one (.ptr b 0)::r)=LM m L.lend (.one (.ptr b 0)::r):=by
   simp only[LM]
   cases L.lend with
   |win e=>rfl
   |ref τ=>simp only[gJ,hb]
  simp only[G9,hf,aN1 hb (l:=rest)]
theorem aNa{b:Nat}{g:Bool}{x:TV}{mem:Ae}(hg:o.guard=none)(hl1:iG C s ctx o.op=some b)(hl:mem.length=s.mem.length)(h:At C s ctx o=some (.ok g x mem)):
  Ac s.mem b≠.gone/\∃e,mem=s.mem.set b e/\∀m2,Ac m2 b=Ac s.mem b->At C {s with mem:=m2} ctx o=some (.ok g x (m2.set b e)):=by
 cases hop:o.op with
 |call c=>
  rw[hop]at hl1;cases hc:c.callee with
  |value fo=>
   simp only[iG,hc]at hl1;split at hl1
   ·rename_i f b' r ef ea;split at hl1
    ·rename_i cs eb;obtain⟨hcond,hl1⟩:=AK hl1;simp only[ar]at hcond;split at hl1
     ·rename_i L eL;split at hl1
      ·rename_i τ hlend;cases hl1;have hcs:=hcond.1;have hr:∀z∈r,AL z.cells=true:=by simpa using hcond.2
       unfold At at h⊢;rw[hop]at h⊢;simp only[hc,Eh,Ys,ef,ea,hg]at h⊢;cases L with
       |mk lend ins outs pre F=>
       simp only at hlend;subst hlend;have eL2:∀m2,Ac m2 b=Ac s.mem b->C.lsum f m2 (.one (.ptr b 0)::r)=some ⟨.ref τ,ins,outs,pre,F⟩:=fun m2 hb=>(aN1 hb).trans eL;simp only[eL]at h;have pre1:∀m2,Ac m2 b=.raw cs->LY m2 (.ref τ) (.one (.ptr b 0))=m2:=fun m2 hb=>by
        simp only[LY,hb,Wv hcs];exact i2 hb (by simp)
       have fr:∀m2,(BK m2 ins r).2=m2/\(BK m2 ins r).1=(BK s.mem ins r).1:=fun m2=>⟨(Yu hr).1,(PD hr).1⟩
       have hr':∀z∈(BK s.mem ins r).1,AL z.cells=true:=(PD (mem:=s.mem) (m2:=s.mem) hr).2;rw[pre1 s.mem eb]at h;rw[(fr s.mem).1]at h;split at h
       ·rename_i v m2 ez;obtain⟨w1,w2⟩:=aD hr' ez;subst w1;simp only[WD,eb]at h;split at h
        ·rename_i b2 xl m3 el;split at el
         ·rename_i x0 ep;cases el;simp only[We,ot]at h;split at h
          ·rename_i vs m4 ev;simp only[ap,Res.ok.injEq]at h;obtain⟨rfl,rfl,rfl⟩:=h;have hsame:m4.length=(s.mem.set b (.raw (cellsOf τ (F (xl,v)).1))).length:=by rw[hl];simp
           have gs:=aDV ev hsame;refine⟨by rw[eb];simp,_,gs,fun m2 hb=>?_⟩;rw[eL2 m2 hb];have hb2:Ac m2 b=.raw cs:=hb.trans eb;simp only;rw[pre1 m2 hb2,(fr m2).1,(fr m2).2,w2 m2];simp only[WD,hb2,ep,We,ot];rw[Yw ev hsame (m2.set b (.raw (cellsOf τ (F (xl,v)).1)))]
          ·cases h
         ·cases el
        ·cases h
       ·cases h
      ·cases hl1
     ·cases hl1
    ·cases hl1
   ·cases hl1
  |invoke r m=>simp only[iG,hc]at hl1;cases hl1
  |builtin b=>simp only[iG,hc]at hl1;cases hl1
 |_=>rw[hop]at hl1;cases hl1
end Vx
namespace Vx
open Go Go.RowKit
variable {C:Cfg}
structure Trace (C:Cfg) (ops:List Oper) (s0:St) (S:Nat->St) (xs:Nat->TV) (fs:Nat->FP):Prop where
 zero:S 0=s0
 step:∀j o,ops[j]? = some o->Wq C ops o (S j)=some (fs j,true,xs j,(S (j+1)).mem)/\S (j+1)=JC ops o (S j) (xs j) (S (j+1)).mem/\∀d,o.dst=some d->d<(S j).n
theorem aFa{ops:List Oper}:∀(l:List Oper) (s s':St) (fps:List FP) (gs:List Bool),U4 C ops l s=some (fps,gs,s')->(∀g∈gs,g=true) ->
  ∃(S:Nat->St) (xs:Nat->TV) (fs:Nat->FP),(∀j o,l[j]? = some o->fps[j]? = some (fs j))/\S 0=s/\S l.length=s'/\∀j o,l[j]? = some o->Wq C ops o (S j)=some (fs j,true,xs j,(S (j+1)).mem)/\S (j+1)=JC ops o (S j) (xs j) (S (j+1)).mem/\∀d,o.dst=some d->d<(S j).n
 | [],s,s',fps,gs,h,_=>by
  simp only[U4]at h;cases h
  exact⟨fun _=>s,fun _=>.un,fun _=>.pure,fun j o hj=>by simp at hj,rfl,rfl,fun j o hj=>by simp at hj⟩
 |o::l,s,s',fps,gs,h,hg=>by
  simp only[U4]at h
  split at h
  ·rename_i fp g x mem e
   obtain⟨hb,h⟩:=AK h
   split at h
   ·rename_i fps' gs' s'' e2
    cases h
    obtain⟨S,xs,fs,h0,h1,h2,h3⟩:=aFa l _ _ _ _ e2 fun g hgg=>hg g (by simp[hgg])
    have hgt:g=true:=hg g (by simp)
    subst hgt
    have hmem:(S 0).mem=mem:=by
     rw[h1];unfold JC;split
     ·rfl
     ·split
      ·rfl
      ·split<;>rfl
    refine⟨fun j=>match j with|0=>s|j+1=>S j,fun j=>match j with|0=>x|j+1=>xs j,fun j=>match j with|0=>fp|j+1=>fs j,fun j q hj=>?_,rfl,by simpa using h2,fun j q hj=>?_⟩
    ·cases j with
     |zero=>rfl
     |succ j=>simpa using h0 j q (by simpa using hj)
    cases j with
    |zero=>
     simp at hj;subst hj
     refine⟨by simp only[hmem];exact e,by simp only[hmem];exact h1,fun d hd=>?_⟩
     rw[hd]at hb
     simpa using hb
    |succ j=>exact h3 j q (by simpa using hj)
   ·cases h
  ·cases h
theorem aMd{ops:List Oper}{o:Oper}{s:St}{x:TV}{mem:Ae}:(JC ops o s x mem).n=s.n/\(JC ops o s x mem).m0=s.m0:=by
 unfold JC;split
 ·exact⟨rfl,rfl⟩
 ·split
  ·exact⟨rfl,rfl⟩
  ·split<;>exact⟨rfl,rfl⟩
theorem PM:∀{l:List Nat} {n:Nat},H0 n l=true↔n∈l
 | [],n=>by simp[H0]
 |m::r,n=>by
  simp only[H0,fh,PM,dq]
  constructor
  ·rintro (h|h)
   ·exact .inl (av h).symm
   ·exact .inr h
  ·rintro (h|h)
   ·subst h;exact .inl (fg _)
   ·exact .inr h
theorem tZ{o:Oper}{l:List Nat}:Pr o l=true↔∃d,o.dst=some d/\d∈l:=by
 unfold Pr;cases o.dst with
 |none=>simp
 |some d=>simp[PM]
theorem aNP{x y:Oper}:t0 x y=true↔∃d,x.dst=some d/\y.dst=some d:=by
 unfold t0;cases x.dst<;>cases y.dst<;>simp;rename_i a b;exact⟨fun h=>h.symm,fun h=>h.symm⟩
theorem fF:∀{l:List Nat} {j:Nat},Ye j l=true->∀i∈l,i<j
 | [],_,_,i,h=>by simp at h
 |m::r,j,h,i,hi=>by
  simp only[Ye,ar]at h
  rcases dq.1 hi with rfl|hi
  ·simpa using h.1
  ·exact fF h.2 i hi
theorem aPY{ops:List Oper}{fps:List FP}{A:List (List Nat)}{j:Nat}{y:Oper}:∀(l:List Oper) (k:Nat),ZS ops fps A j y k l=true->∀i x,l[i]? = some x->k+i<j->aEu ops fps A (k+i) j x y=true
 | [],_,_,i,x,h,_=>by simp at h
 |z::r,k,h,i,x,hi,hij=>by
  simp only[ZS]at h
  have hk:Nat.blt k j=true:=by simp;omega
  rw[hk]at h
  simp only[aa,ar]at h
  cases i with
  |zero=>simp at hi;subst hi;exact h.1
  |succ i=>
   have:=aPY r (k+1) h.2 i x (by simpa using hi) (by omega)
   rw[show k+(i+1)=k+1+i by omega]
   exact this
theorem aPZ{ops:List Oper}{fps:List FP}{A:List (List Nat)}:∀(l:List Oper) (k:Nat),u9 ops fps A k l=true->∀j y,l[j]? = some y ->
  (∀i∈Cb y,i<k+j)/\Bx y.op<3/\Pr y (looks ops y)=false/\ZS ops fps A (k+j) y 0 ops=true/\∀g p,y.guard=some (g,p)->g<k+j
 | [],_,_,j,y,h=>by simp at h
 |z::r,k,h,j,y,hj=>by
  simp only[u9,ar,ff]at h
  obtain⟨⟨⟨⟨⟨h1,h2⟩,h3⟩,h4⟩,h6⟩,h5⟩:=h
  cases j with
  |zero=>
   simp at hj;subst hj
   refine⟨fF h1,by simpa using h2,h3,h4,fun g p e=>?_⟩
   rw[e]at h6
   simpa using h6
  |succ j=>
   have:=aPZ r (k+1) h5 j y (by simpa using hj)
   rw[show k+(j+1)=k+1+j by omega]
   exact this
theorem aOc{α β:Type}{f g:α->List β}:∀{l:List α},(∀x∈l,f x=g x)->l.flatMap f=l.flatMap g
 | [],_=>rfl
 |x::l,h=>by
  rw[qh,qh,h x (by simp),aOc fun y hy=>h y (by simp[hy])]
theorem aCJ:∀(l:List Oper) (acc:List (List Nat)) (i:Nat),i<acc.length->(G0 acc l)[i]? = acc[i]?
 | [],acc,i,_=>rfl
 |o::r,acc,i,h=>by
  simp only[G0]
  rw[aCJ r _ i (by simp;omega),cw h]
theorem aL9:∀(l:List Oper) (acc:List (List Nat)) (j:Nat) (o:Oper),l[j]? = some o->∀CR,CR=G0 acc l->(∀i∈Cb o,i<acc.length+j) ->
  CR[acc.length+j]? = some ((Cb o).flatMap fun i=>i::(CR[i]?).getD [])
 | [],_,_,_,h,_,_,_=>by simp at h
 |z::r,acc,0,o,h,CR,hf,hp=>by
  simp at h;subst h
  subst hf
  simp only[G0]
  rw[Nat.add_zero,aCJ r _ acc.length (by simp)]
  rw[cm (ci _)]
  simp only[gu,gv,ap]
  refine aOc fun i hi=>?_
  have:=hp i hi
  rw[aCJ r _ i (by simp;omega),cw (by omega)]
 |z::r,acc,j+1,o,h,CR,hf,hp=>by
  simp only[G0]at hf
  have:=aL9 r _ j o (by simpa using h) CR hf (fun i hi=>by have:=hp i hi;simp;omega)
  simp only[fc,cy,ee]at this
  rw[show acc.length+(j+1)=acc.length+(0+1)+j by omega]
  exact this
end Vx
namespace Vx
open Go Go.RowKit
variable {C:Cfg}
structure Reg (C:Cfg) (ops:List Oper) (s0:St) (S:Nat->St) (xs:Nat->TV) (fs:Nat->FP):Prop where
 ok:∃fps:List FP,ZR ops fps=true/\∀j o,ops[j]? = some o->fps[j]? = some (fs j)
 tr:Trace C ops s0 S xs fs
 cs0:s0.cs=[]
section
variable {ops:List Oper}{s0:St}{S:Nat->St}{xs:Nat->TV}{fs:Nat->FP}
def LB(ops:List Oper)(j:Nat):List Nat:=((G0 [] ops)[j]?).getD []
theorem Reg.row(h:Reg C ops s0 S xs fs){j:Nat}{y:Oper}(hj:ops[j]? = some y):
  (∀i∈Cb y,i<j)/\Bx y.op<3/\Pr y (looks ops y)=false/\(∃fps:List FP,ZS ops fps (G0 [] ops) j y 0 ops=true/\∀j o,ops[j]? = some o->fps[j]? = some (fs j))/\∀g p,y.guard=some (g,p)->g<j:=by
 obtain⟨fps,h1,h2⟩:=h.ok;have:=aPZ ops 0 h1 j y hj;simp only[dj]at this;exact⟨this.1,this.2.1,this.2.2.1,⟨fps,this.2.2.2.1,h2⟩,this.2.2.2.2⟩
theorem Reg.pair(h:Reg C ops s0 S xs fs){i j:Nat}{x y:Oper}(hi:ops[i]? = some x)(hj:ops[j]? = some y)(hij:i<j):
  t0 x y=false/\(i∈LB ops j∨(Pr x (looks ops y)=false/\Pr y (looks ops x)=false/\De (fs i) (fs j)=true)):=by
 obtain⟨fps,h0,hf⟩:=(h.row hj).2.2.2.1;have h1:=aPY ops 0 h0 i x hi (by omega);rw[dj]at h1;simp only[aEu,hf i x hi,hf j y hj,ms,ar,fh,ff]at h1;refine⟨h1.1,?_⟩;rcases h1.2 with h2|h2
 ·exact .inl (PM.1 h2)
 ·exact .inr ⟨h2.1.1,h2.1.2,h2.2⟩
theorem Reg.anc_eq(h:Reg C ops s0 S xs fs){j:Nat}{y:Oper}(hj:ops[j]? = some y):LB ops j=(Cb y).flatMap fun i=>i::LB ops i:=by
 have:=aL9 ops [] j y hj _ rfl (by simpa using(h.row hj).1);simp only[ee,dj]at this;unfold LB;rw[this];rfl
theorem Reg.distinct(h:Reg C ops s0 S xs fs){i j:Nat}{x y:Oper}{d:Nat}(hi:ops[i]? = some x)(hj:ops[j]? = some y)(hx:x.dst=some d)(hy:y.dst=some d):i=j:=by
 rcases gd i j with hlt|heq|hgt
 ·have:=(h.pair hi hj hlt).1;rw[aNP.2 ⟨d,hx,hy⟩]at this;cases this
 ·exact heq
 ·have:=(h.pair hj hi hgt).1;rw[aNP.2 ⟨d,hy,hx⟩]at this;cases this
theorem Reg.parts(h:Reg C ops s0 S xs fs):∀j,j<=ops.length->(S j).n=s0.n/\(S j).m0=s0.m0
 |0,_=>by rw[h.tr.zero];exact⟨rfl,rfl⟩
 |j+1,hj=>by
  obtain⟨_,h2,_⟩:=h.tr.step j ops[j] (bw (by omega))
  have ih:=h.parts j (by omega)
  rw[h2]
  exact⟨aMd.1.trans ih.1,aMd.2.trans ih.2⟩
theorem bAf{o:Oper}{s:St}{g:Bool}{x:TV}{mem:Ae}{gi:Nat}{p:Bool}{fp:FP}(hg:o.guard=some (gi,p))(h:Wq C ops o s=some (fp,g,x,mem)):∃t d,Fh ops gi=some t/\o.dst=some d:=by
 unfold Wq at h;rw[hg]at h;simp only at h;split at h
 ·rename_i t d e1 e2;exact⟨t,d,e1,e2⟩
 ·cases h
theorem Reg.tm_old(h:Reg C ops s0 S xs fs):∀j,j<=ops.length->∀t,(∀i o,i<j->ops[i]? = some o->o.dst≠some t)->Bt (S j).tm t=Bt s0.tm t
 |0,_,t,_=>by rw[h.tr.zero]
 |j+1,hj,t,ht=>by
  have hg:ops[j]? = some ops[j]:=bw (by omega)
  obtain⟨_,h2,_⟩:=h.tr.step j _ hg
  have ih:=h.tm_old j (by omega) t fun i o hi=>ht i o (by omega)
  rw[h2,←ih]
  have hne:=ht j _ (by omega) hg
  unfold JC
  split
  ·rfl
  ·rename_i d ed
   have hdt:Nat.beq d t=false:=by
    cases hb:Nat.beq d t with
    |false=>rfl
    |true=>have:=av hb;subst this;exact absurd ed hne
   split
   ·simp only[Bt,hdt,ab]
   ·split
    ·simp only[Bt,hdt,ab]
    ·rfl
theorem Reg.tm_new(h:Reg C ops s0 S xs fs){i:Nat}{o:Oper}{t:Nat}(hi:ops[i]? = some o)(ht:o.dst=some t):∀j,i<j->j<=ops.length->Bt (S j).tm t=(match o.guard with|none=>xs i|some _=>.un)
 |0,hij,_=>by omega
 |j+1,hij,hj=>by
  have hg:ops[j]? = some ops[j]:=bw (by omega)
  obtain⟨h1,h2,_⟩:=h.tr.step j _ hg
  by_cases hji:j=i
  ·subst hji
   rw[hg]at hi
   cases hi
   rw[h2]
   unfold JC
   simp only[ht]
   cases hgu:(ops[j]).guard with
   |none=>simp[Bt,fg]
   |some gp=>
    obtain⟨gi,p⟩:=gp
    obtain⟨t',d,e1,_⟩:=bAf hgu h1
    simp only[e1]
    simp[Bt,fg]
  ·have ih:=h.tm_new hi ht j (by omega) (by omega)
   rw[h2,←ih]
   have hne:ops[j].dst≠some t:=fun e=>hji (h.distinct hg hi e ht)
   unfold JC
   split
   ·rfl
   ·rename_i d ed
    have hdt:Nat.beq d t=false:=by
     cases hb:Nat.beq d t with
     |false=>rfl
     |true=>have:=av hb;subst this;exact absurd ed hne
    split
    ·simp only[Bt,hdt,ab]
    ·split
     ·simp only[Bt,hdt,ab]
     ·rfl
theorem Reg.cs_of(h:Reg C ops s0 S xs fs):∀j,j<=ops.length->∀d g p x,(d,g,p,x)∈(S j).cs->∃i o gi,i<j/\ops[i]? = some o/\o.dst=some d/\o.guard=some (gi,p)/\Fh ops gi=some g/\x=xs i
 |0,_,d,g,p,x,hm=>by rw[h.tr.zero,h.cs0]at hm;simp at hm
 |j+1,hj,d,g,p,x,hm=>by
  have hg:ops[j]? = some ops[j]:=bw (by omega)
  obtain⟨h1,h2,_⟩:=h.tr.step j _ hg
  have ih:=h.cs_of j (by omega) d g p x
  have old:(d,g,p,x)∈(S j).cs->∃i o gi,i<j+1/\ops[i]? = some o/\o.dst=some d/\o.guard=some (gi,p)/\Fh ops gi=some g/\x=xs i:=fun hm=>by
   obtain⟨i,o,gi,q1,q2⟩:=ih hm;exact⟨i,o,gi,by omega,q2⟩
  rw[h2]at hm
  unfold JC at hm
  split at hm
  ·exact old hm
  ·rename_i d' ed
   split at hm
   ·exact old hm
   ·rename_i gi p' eg
    split at hm
    ·rename_i t et
     rcases dq.1 hm with hm|hm
     ·cases hm
      exact⟨j,_,gi,by omega,hg,ed,eg,et,rfl⟩
     ·exact old hm
    ·exact old hm
def Wr:FP->Nat->Prop
 |.wr none,_=>True
 |.wr (some c),b=>c=b
 |.mk c,b=>c=b
 |_,_=>False
def Ec:FP->Prop
 |.wr _=>False
 |.mk _=>False
 |_=>True
def En:FP->Prop
 |.wr none=>True
 |.mk _=>True
 |_=>False
theorem Ec.not_wr{x:FP}(h:Ec x)(b:Nat):¬Wr x b:=by cases x<;>simp_all [Ec,Wr]
theorem Ec.not_len{x:FP}(h:Ec x):¬En x:=by cases x<;>simp_all [Ec,En]
theorem Ec.ne_wr{x:FP}(h:Ec x)(q:Option Nat):x≠.wr q:=fun e=>by rw[e]at h;exact h
theorem Ec.ne_mk{x:FP}(h:Ec x)(q:Nat):x≠.mk q:=fun e=>by rw[e]at h;exact h
theorem Yt{s:St}{ctx:List (Nat×Bool)}{op:Op}(hk:Bx op<=1):Ec (EH s ctx op):=by
 have addr:∀y,Ec (PA s ctx y):=fun y=>by
  unfold PA;(repeat' split)<;>simp[Ec]
 cases op<;>simp only[EH,Bx]at hk⊢<;>first|exact addr _|(simp[Ec];done)|omega|skip
 (repeat' split)<;>first|exact addr _|simp[Ec]
theorem aMo{mem:Ae}{b c:Nat}{e:Blk}(h:c≠b):Ac (mem.set c e) b=Ac mem b:=by
 unfold Ac;rw[List.getElem?_set_ne h]
theorem Reg.mem_cases(h:Reg C ops s0 S xs fs){j:Nat}{o:Oper}(hj:ops[j]? = some o):
  (Bx o.op<=1/\(S (j+1)).mem=(S j).mem/\Ec (fs j))∨(o.guard=none/\(fs j=.wr none∨(∃c e,fs j=.wr (some c)/\(S (j+1)).mem=(S j).mem.set c e/\Ac (S j).mem c≠.gone)∨∃e,fs j=.mk (S j).mem.length/\(S (j+1)).mem=(S j).mem++[e])):=by
 obtain⟨h1,_,_⟩:=h.tr.step j o hj;have hk3:=(h.row hj).2.1;unfold Wq at h1;simp only at h1;split at h1
 ·rename_i hg;cases hb:(DC (Cf ops o (S j)) [] o.op||Nat.beq (Bx o.op) 2)with
  |false=>
   rw[hb]at h1;simp only[ab]at h1;cases hbo:Yi C (Cf ops o (S j)) [] o.op with
   |true=>
    rw[hbo]at h1;simp only[aa]at h1;split at h1
    ·rename_i g x mem e;simp only[ap,cr]at h1;obtain⟨hfs,_,_,hmem⟩:=h1;obtain⟨q1,q2⟩:=tA hbo e;exact .inl ⟨q2,by rw[←hmem];exact q1,by rw[←hfs];trivial⟩
    ·cases h1
   |false=>
   rw[hbo]at h1;simp only[ab]at h1;split at h1
   ·rename_i b eo;split at h1
    ·rename_i g x mem e;obtain⟨hl,h1⟩:=AK h1;simp only[ap,cr]at h1;obtain⟨hfs,_,_,hmem⟩:=h1;obtain⟨q1,q2,_⟩:=aNc eo (av hl) e;exact .inr ⟨hg,.inr (.inl ⟨b,.gone,hfs.symm,by rw[←hmem];exact q2,q1⟩)⟩
    ·cases h1
   ·split at h1
    ·rename_i b el;split at h1
     ·rename_i g x mem e;obtain⟨hl,h1⟩:=AK h1;simp only[ap,cr]at h1;obtain⟨hfs,_,_,hmem⟩:=h1;obtain⟨q1,e',q2,_⟩:=aNa hg el (av hl) e;exact .inr ⟨hg,.inr (.inl ⟨b,e',hfs.symm,by rw[←hmem];exact q2,q1⟩)⟩
     ·cases h1
    ·split at h1
     ·simp only[ap,cr]at h1;exact .inr ⟨hg,.inl h1.1.symm⟩
     ·cases h1
  |true=>
  rw[hb]at h1;simp only[aa]at h1;split at h1
  ·rename_i g x mem e;cases hst:Dt o.op (Cf ops o (S j)).mem mem with
   |false=>
    rw[hst]at h1;obtain⟨hmk,h1⟩:=AK h1;simp only[ap,cr]at h1;obtain⟨hfs,_,_,hmem⟩:=h1;have hb':DC (Cf ops o (S j)) [] o.op=true∨Bx o.op=2:=by
     simp only[fh]at hb;exact hb.imp id fun h=>av h
    obtain⟨e',he,_⟩:=aNb hb' hmk e;exact .inr ⟨hg,.inr (.inr ⟨e',hfs.symm,by rw[←hmem];exact he⟩)⟩
   |true=>
   rw[hst]at h1;simp only[aa,ap,cr]at h1;obtain⟨hfs,_,_,hmem⟩:=h1;by_cases hk:Bx o.op<=1
   ·left;have hb:DC (Cf ops o (S j)) [] o.op=true:=by
     simp only[fh]at hb;rcases hb with hb|hb
     ·exact hb
     ·have:=av hb;omega
    exact⟨hk,by rw[←hmem];exact aEa hb hk hst e,by rw[←hfs];exact Yt hk⟩
   ·right;refine⟨hg,?_⟩;rw[←hfs,←hmem];cases hop:o.op with
    |store T y z=>
     cases hf:EH (Cf ops o (S j)) [] (.store T y z)with
     |wr q=>
      cases q with
      |none=>exact .inl rfl
      |some c=>
       obtain⟨hng,e',he,_⟩:=aOi hop e (m2:=(Cf ops o (S j)).mem) (b:=c) (by rw[hop];exact hf) rfl;exact .inr (.inl ⟨c,e',rfl,he,hng⟩)
     |_=>simp only[EH]at hf;(repeat' split at hf)<;>first|cases hf|(cases hq:AL _<;>rw[hq]at hf<;>cases hf)
    |alloc T=>
     obtain⟨e',he,_⟩:=aDO (.inl ⟨T,hop⟩) e;exact .inr (.inr ⟨e',rfl,he⟩)
    |box T y=>
     obtain⟨e',he,_⟩:=aDO (.inr ⟨T,y,hop⟩) e;exact .inr (.inr ⟨e',rfl,he⟩)
    |call c=>
     exfalso;rw[hop]at hk hk3;simp only[Bx]at hk hk3;generalize hz:c.callee=z at hk hk3;cases z with
     |value f=>simp at hk
     |invoke r m=>simp at hk
     |builtin b=>cases b<;>simp at hk hk3
    |_=>exfalso;rw[hop]at hk hk3;simp only[Bx]at hk hk3;omega
  ·cases h1
 ·rename_i gi p hg;split at h1
  ·rename_i t d _ _;cases hbc:(Gb o.op&&!(Nat.beq d t)&&DC (Cf ops o (S j)) (Ff (Cf ops o (S j)).cs t p) o.op)with
   |false=>
    rw[hbc]at h1;simp only[ab]at h1;obtain⟨hb,h1⟩:=AK h1;simp only[ar]at hb;split at h1
    ·rename_i e;simp only[ap,cr]at h1;obtain⟨q1,q2⟩:=tA hb.2 e;exact .inl ⟨q2,by rw[←h1.2.2.2];exact q1,by rw[←h1.1];trivial⟩
    ·cases h1
   |true=>
   rw[hbc]at h1;simp only[aa]at h1;have hb:=hbc;simp only[ar]at hb;split at h1
   ·rename_i e;obtain⟨hst,h1⟩:=AK h1;simp only[ap,cr]at h1;left;have hk:Bx o.op<=1:=by
     have hl:=hb.1.1;cases hop:o.op<;>rw[hop]at hl hk3<;>simp only[Gb,Bx]at hl hk3⊢<;>first|omega|cases hl|skip
     split at hl<;>rename_i hc<;>first|cases hl|(split<;>first|omega|skip)
     all_goals (split at hk3<;>first|omega|simp_all)
    exact⟨hk,by rw[←h1.2.2.2];exact aEa hb.2 hk hst e,by rw[←h1.1];exact Yt hk⟩
   ·cases h1
  ·cases h1
end
end Vx
namespace Vx
open Go Go.RowKit
variable {C:Cfg}{ops:List Oper}{s0:St}{S:Nat->St}{xs:Nat->TV}{fs:Nat->FP}{base:Base}{S0:Nat->Prop}
structure Inv (C:Cfg) (ops:List Oper) (s0:St) (S:Nat->St) (xs:Nat->TV) (fs:Nat->FP) (base:Base) (S0:Nat->Prop) (σ0:Sit) (L:Nat->Prop) (σ:Sit) (a:Act):Prop where
 ok:Ok base S0 σ
 adv:Adv σ0 σ
 size:a.tmps.size=s0.n
 defers:a.defers=[]
 closed:∀i,L i->∀x∈LB ops i,L x
 lt:∀i,L i->i<ops.length
 blk:∀b,∃k,k<=ops.length/\Ac σ.mem b=Ac (S k).mem b/\∀i,i<ops.length->Wr (fs i) b->(L i↔i<k)
 len:∃k,k<=ops.length/\σ.mem.length=(S k).mem.length/\∀i,i<ops.length->En (fs i)->(L i↔i<k)
 old:∀t,(∀i o,L i->ops[i]? = some o->o.dst≠some t)->BB σ (Bt s0.tm t) (a.tmps.getD t undef)
 new:∀i o d,L i->ops[i]? = some o->o.dst=some d->o.guard=none->BB σ (xs i) (a.tmps.getD d undef)
 tag:∀i o d gi p t,L i->ops[i]? = some o->o.dst=some d->o.guard=some (gi,p)->Fh ops gi=some t ->
  (a.tmps.getD t undef=.bool p->BB σ (xs i) (a.tmps.getD d undef))/\(a.tmps.getD t undef≠.bool p->a.tmps.getD d undef=undef)
theorem aEZ{α:Type}{f:Nat->α}{P:Nat->Prop}{n:Nat}(hs:∀i,i<n->¬P i->f (i+1)=f i):∀(m k:Nat),k+m<=n->(∀i,k<=i->i<k+m->¬P i)->f (k+m)=f k
 |0,k,_,_=>rfl
 |m+1,k,h,hn=>by
  rw[←Nat.add_assoc,hs (k+m) (by omega) (hn _ (by omega) (by omega))]
  exact aEZ hs m k (by omega) fun i h1 h2=>hn i h1 (by omega)
theorem i5{α:Type}{f:Nat->α}{P:Nat->Prop}{n:Nat}(hs:∀i,i<n->¬P i->f (i+1)=f i){k j:Nat}(hk:k<=n)(hj:j<=n)(hn:∀i,i<n->P i->(i<j↔i<k)):f k=f j:=by
 rcases Nat.le_total k j with hle|hle
 ·have:=aEZ hs (j-k) k (by omega) fun i h1 h2 hp=>by have:=hn i (by omega) hp;omega
  rw[show k+(j-k)=j by omega]at this;exact this.symm
 ·have:=aEZ hs (k-j) j (by omega) fun i h1 h2 hp=>by have:=hn i (by omega) hp;omega
  rw[show j+(k-j)=k by omega]at this;exact this
theorem aMn{mem:Ae}{b:Nat}{e:Blk}(h:mem.length≠b):Ac (mem++[e]) b=Ac mem b:=by
 unfold Ac;rcases bc b mem.length with hb|hb
 ·rw[cw hb]
 ·rw[dz (by simp;omega),dz hb]
theorem aMm{mem:Ae}{e:Blk}:Ac (mem++[e]) mem.length=e:=by
 unfold Ac;rw[cm (ci _)];simp
theorem Reg.blk_step(h:Reg C ops s0 S xs fs){b:Nat}(i:Nat)(hi:i<ops.length)(hw:¬Wr (fs i) b):Ac (S (i+1)).mem b=Ac (S i).mem b:=by
 rcases h.mem_cases (bw hi)with⟨_,h1,_⟩|⟨_,h1|⟨c,e,h1,h2,_⟩|⟨e,h1,h2⟩⟩
 ·rw[h1]
 ·rw[h1]at hw;exact absurd trivial hw
 ·rw[h2];exact aMo fun e=>hw (by rw[h1];exact e)
 ·rw[h2];exact aMn fun e=>hw (by rw[h1];exact e)
theorem Reg.len_step(h:Reg C ops s0 S xs fs)(i:Nat)(hi:i<ops.length)(hw:¬En (fs i)):(S (i+1)).mem.length=(S i).mem.length:=by
 rcases h.mem_cases (bw hi)with⟨_,h1,_⟩|⟨_,h1|⟨c,e,h1,h2,_⟩|⟨e,h1,h2⟩⟩
 ·rw[h1]
 ·rw[h1]at hw;exact absurd trivial hw
 ·rw[h2];simp
 ·rw[h1]at hw;exact absurd trivial hw
theorem aPJ{m m':Ae}(hl:m.length=m'.length)(hb:∀b,Ac m b=Ac m' b):m=m':=by
 apply List.ext_getElem hl;intro i h1 h2;have:=hb i;unfold Ac at this;rw[bw h1,bw h2]at this;exact this
theorem aOD{ops:List Oper}{o:Oper}{gi t:Nat}{p:Bool}(hg:o.guard=some (gi,p))(ht:Fh ops gi=some t):t∈looks ops o:=by
 unfold looks;rw[hg];unfold Fh at ht;simp only[uI];split at ht
 ·rename_i o' e;simp[e,ht]
 ·cases ht
section
variable {σ0 σ:Sit}{a:Act}{L:Nat->Prop}
theorem Inv.anc_in(hI:Inv C ops s0 S xs fs base S0 σ0 L σ a)(hR:Reg C ops s0 S xs fs){j:Nat}{o:Oper}(hj:ops[j]? = some o)(hp:∀i∈Cb o,L i):∀i∈LB ops j,L i:=by
 rw[hR.anc_eq hj];intro i hi;obtain⟨q,hq,hiq⟩:=og.1 hi;rcases dq.1 hiq with rfl|hiq
 ·exact hp _ hq
 ·exact hI.closed q (hp q hq) i hiq
theorem Inv.as_text(hI:Inv C ops s0 S xs fs base S0 σ0 L σ a)(hR:Reg C ops s0 S xs fs){j:Nat}{o:Oper}(hj:ops[j]? = some o)(hp:∀i∈Cb o,L i)(hn:¬L j){i:Nat}(hi:i<ops.length)
  (hc:De (fs i) (fs j)=false) (hc':De (fs j) (fs i)=false):L i↔i<j:=by
 have hi':=bw hi;rcases gd i j with hlt|heq|hgt
 ·have:L i:=by
   rcases(hR.pair hi' hj hlt).2 with h|h
   ·exact hI.anc_in hR hj hp i h
   ·rw[hc]at h;cases h.2.2
  exact⟨fun _=>hlt,fun _=>this⟩
 ·subst heq;exact⟨fun h=>absurd h hn,fun h=>absurd h (ob _)⟩
 ·constructor
  ·intro h;rcases(hR.pair hj hi' hgt).2 with h' | h'
   ·exact absurd (hI.closed i h j h') hn
   ·rw[hc']at h';cases h'.2.2
  ·intro h;omega
theorem aS2{x y:FP}{b:Nat}(hx:Wr x b)(hy:Wr y b∨y=.rd (some b)∨y=.rd none):De x y=false/\De y x=false:=by
 cases x with
 |pure=>cases hx
 |rd o=>cases hx
 |wr o=>
  rcases hy with hy|rfl|rfl
  ·cases y with
   |pure=>cases hy
   |rd o=>cases hy
   |wr q=>cases o<;>cases q<;>simp_all [Wr,De,fg]
   |mk q=>cases o<;>simp_all [Wr,De,fg]
  ·cases o<;>simp_all [Wr,De,fg]
  ·cases o<;>simp[De]
 |mk o=>
  rcases hy with hy|rfl|rfl
  ·cases y with
   |pure=>cases hy
   |rd o=>cases hy
   |wr q=>cases q<;>simp_all [Wr,De,fg]
   |mk q=>simp_all [Wr,De,fg]
  ·simp_all [Wr,De,fg]
  ·simp[De]
theorem aEd{x y:FP}(hx:En x)(hy:En y∨y=.rd none):De x y=false/\De y x=false:=by
 cases x with
 |pure=>cases hx
 |rd o=>cases hx
 |wr o=>
  cases o with
  |some _=>cases hx
  |none=>
   rcases hy with hy|rfl
   ·cases y with
    |pure=>cases hy
    |rd o=>cases hy
    |wr q=>cases q<;>simp_all [En,De]
    |mk q=>simp[De]
   ·simp[De]
 |mk o=>
  rcases hy with hy|rfl
  ·cases y with
   |pure=>cases hy
   |rd o=>cases hy
   |wr q=>cases q<;>simp_all [En,De]
   |mk q=>simp[De]
  ·simp[De]
theorem Inv.blk_at(hI:Inv C ops s0 S xs fs base S0 σ0 L σ a)(hR:Reg C ops s0 S xs fs){j:Nat}{o:Oper}(hj:ops[j]? = some o)(hp:∀i∈Cb o,L i)(hn:¬L j){b:Nat}(hw:Wr (fs j) b∨fs j=.rd (some b)∨fs j=.rd none):Ac σ.mem b=Ac (S j).mem b:=by
 have hjl:j<ops.length:=(bp.1 hj).1;obtain⟨k,hk,h1,h2⟩:=hI.blk b;rw[h1];refine i5 (f:=fun k=>Ac (S k).mem b) (P:=fun i=>Wr (fs i) b) (fun i hi=>hR.blk_step i hi) hk (by omega) fun i hi hwi=>?_;have hap:=aS2 hwi hw;rw[←h2 i hi hwi,hI.as_text hR hj hp hn hi hap.1 hap.2]
theorem Inv.len_at(hI:Inv C ops s0 S xs fs base S0 σ0 L σ a)(hR:Reg C ops s0 S xs fs){j:Nat}{o:Oper}(hj:ops[j]? = some o)(hp:∀i∈Cb o,L i)(hn:¬L j)(hw:En (fs j)):σ.mem.length=(S j).mem.length:=by
 have hjl:j<ops.length:=(bp.1 hj).1;obtain⟨k,hk,h1,h2⟩:=hI.len;rw[h1];refine i5 (f:=fun k=>(S k).mem.length) (P:=fun i=>En (fs i)) (fun i hi=>hR.len_step i hi) hk (by omega) fun i hi hwi=>?_;have hap:=aEd hwi (.inl hw);rw[←h2 i hi hwi,hI.as_text hR hj hp hn hi hap.1 hap.2]
theorem Inv.mem_at(hI:Inv C ops s0 S xs fs base S0 σ0 L σ a)(hR:Reg C ops s0 S xs fs){j:Nat}{o:Oper}(hj:ops[j]? = some o)(hp:∀i∈Cb o,L i)(hn:¬L j):kP (S j).mem σ.mem (fs j):=by
 have hjl:j<ops.length:=(bp.1 hj).1;have hfull:(fs j=.rd none∨fs j=.wr none)->σ.mem=(S j).mem:=fun hf=>by
  refine aPJ ?_ fun b=>hI.blk_at hR hj hp hn (by rcases hf with h|h<;>rw[h]<;>simp[Wr]);obtain⟨k,hk,h1,h2⟩:=hI.len;rw[h1];refine i5 (f:=fun k=>(S k).mem.length) (P:=fun i=>En (fs i)) (fun i hi=>hR.len_step i hi) hk (by omega) fun i hi hwi=>?_;have hap:De (fs i) (fs j)=false/\De (fs j) (fs i)=false:=aEd hwi (by rcases hf with h|h<;>rw[h]<;>simp[En]);rw[←h2 i hi hwi,hI.as_text hR hj hp hn hi hap.1 hap.2]
 cases hf:fs j with
 |pure=>trivial
 |rd q=>
  cases q with
  |none=>exact hfull (.inl hf)
  |some b=>exact hI.blk_at hR hj hp hn (.inr (.inl hf))
 |wr q=>
  cases q with
  |none=>exact hfull (.inr hf)
  |some b=>exact hI.blk_at hR hj hp hn (.inl (by rw[hf];rfl))
 |mk b=>exact hI.len_at hR hj hp hn (by rw[hf];trivial)
theorem bAQ{l:List Nat}{tm:List (Nat×TV)}:∀t,Bt (l.map fun t=>(t,Bt tm t)) t=Bt tm t/\t∈l∨Bt (l.map fun t=>(t,Bt tm t)) t=.un:=by
 induction l with
 |nil=>intro t;exact .inr rfl
 |cons q r ih=>
  intro t;simp only[gg,Bt];cases hb:Nat.beq q t with
  |true=>have:=av hb;subst this;exact .inl ⟨rfl,by simp⟩
  |false=>
   rcases ih t with h|h
   ·exact .inl ⟨h.1,by simp[h.2]⟩
   ·exact .inr h
theorem Inv.rel_at(hI:Inv C ops s0 S xs fs base S0 σ0 L σ a)(hR:Reg C ops s0 S xs fs){j:Nat}{o:Oper}(hj:ops[j]? = some o)(hp:∀i∈Cb o,L i)(hn:¬L j):RelT σ {Cf ops o (S j)with mem:=σ.mem} a:=by
 have hjl:j<ops.length:=(bp.1 hj).1;have hanc:=hI.anc_in hR hj hp;have before:∀i x t,i<j->ops[i]? = some x->x.dst=some t->t∈looks ops o->L i:=fun i x t hij hi hd ht=>by
  rcases(hR.pair hi hj hij).2 with h|h
  ·exact hanc i h
  ·rw[tZ.2 ⟨t,hd,ht⟩]at h;cases h.1
 refine⟨?_,hI.defers,rfl,fun t=>?_,fun d g p x hm=>?_⟩
 ·exact hI.size.trans (hR.parts j (by omega)).1.symm
 ·simp only[Cf];rcases bAQ (l:=looks ops o) (tm:=(S j).tm) t with⟨h,ht⟩|h
  ·rw[h];by_cases hex:∃i x,i<j/\ops[i]? = some x/\x.dst=some t
   ·obtain⟨i,x,hij,hi,hd⟩:=hex;rw[hR.tm_new hi hd j hij (by omega)];cases hg:x.guard with
    |none=>exact hI.new i x t (before i x t hij hi hd ht) hi hd hg
    |some _=>trivial
   ·rw[hR.tm_old j (by omega) t fun i x hij hi hd=>hex ⟨i,x,hij,hi,hd⟩];refine hI.old t fun i x hL hi hd=>?_;rcases gd i j with hlt|heq|hgt
    ·exact hex ⟨i,x,hlt,hi,hd⟩
    ·subst heq;exact hn hL
    ·rcases(hR.pair hj hi hgt).2 with h' | h'
     ·exact hn (hI.closed i hL j h')
     ·rw[tZ.2 ⟨t,hd,ht⟩]at h';cases h'.2.1
  ·rw[h];trivial
 ·simp only[Cf]at hm;obtain⟨hm,hd⟩:=qv.1 hm;obtain⟨i,y,gi,hij,hi,hyd,hyg,hgs,rfl⟩:=hR.cs_of j (by omega) d g p x hm;exact hI.tag i y d gi p g (before i y d hij hi hyd (PM.1 hd)) hi hyd hyg hgs
theorem Reg.plain{j:Nat}{o:Oper}(hk3:Bx o.op<3){mem:Ae}{ctx:List (Nat×Bool)}{g:Bool}{x:TV}{m2:Ae}(hsame:kP (S j).mem mem (EH (Cf ops o (S j)) ctx o.op))
  (hno:DC (Cf ops o (S j)) ctx o.op=true∨Bx o.op=2) (hst:Dt o.op (Cf ops o (S j)).mem m2=true) (h:At C (Cf ops o (S j)) ctx o=some (.ok g x m2)) :
  ∃m3,At C {Cf ops o (S j)with mem:=mem} ctx o=some (.ok g x m3)/\(Bx o.op<=1->m3=mem)/\(EH (Cf ops o (S j)) ctx o.op=.wr none->m3=m2) /\
   (∀c,EH (Cf ops o (S j)) ctx o.op=.wr (some c)->∃e,m2=(S j).mem.set c e/\m3=mem.set c e/\Ac (S j).mem c≠.gone) /\
   (∀c,EH (Cf ops o (S j)) ctx o.op=.mk c->∃e,m2=(S j).mem++[e]/\m3=mem++[e]):=by
 by_cases hk:Bx o.op<=1
 ·have hc:DC (Cf ops o (S j)) ctx o.op=true:=hno.resolve_right (by omega)
  exact⟨mem,bAr hc hk hst h mem hsame,fun _=>rfl,fun hf=>absurd hf ((Yt hk).ne_wr _),fun c hf=>absurd hf ((Yt hk).ne_wr _),fun c hf=>absurd hf ((Yt hk).ne_mk _)⟩
 ·cases hf:EH (Cf ops o (S j)) ctx o.op with
  |wr q=>
   cases q with
   |none=>
    rw[hf]at hsame
    have e:mem=(S j).mem:=hsame
    subst e
    exact⟨m2,h,fun h'=>absurd h' hk,fun _=>rfl,fun c hc=>(by cases hc),fun c hc=>(by cases hc)⟩
   |some b=>
    rw[hf]at hsame
    cases hop:o.op with
    |store T y z=>
     obtain⟨hng,e,h1,h2⟩:=aOi hop h hf (m2:=mem) hsame
     exact⟨_,h2,fun h'=>(by rw[←hop]at h';exact absurd h' hk),fun hc=>(by cases hc),fun c hc=>(by cases hc;exact⟨e,h1,rfl,hng⟩),fun c hc=>(by cases hc)⟩
    |alloc T=>rw[hop]at hf;cases hf
    |box T y=>rw[hop]at hf;cases hf
    |call c=>
     exfalso
     rw[hop]at hk hk3
     simp only[Bx]at hk hk3
     generalize hz:c.callee=z at hk hk3
     cases z with
     |value f=>simp at hk
     |invoke r m=>simp at hk
     |builtin b=>cases b<;>simp at hk hk3
    |_=>exfalso;rw[hop]at hk hk3;simp only[Bx]at hk hk3;omega
  |mk b=>
   rw[hf]at hsame
   have hnew:(∃T,o.op=.alloc T)∨∃T y,o.op=.box T y:=by
    cases hop:o.op with
    |alloc T=>exact .inl ⟨T,rfl⟩
    |box T y=>exact .inr ⟨T,y,rfl⟩
    |store T y z=>exfalso;rw[hop]at hf;simp only[EH]at hf;(repeat' split at hf)<;>first|cases hf|(cases hq:AL _<;>rw[hq]at hf<;>cases hf)
    |call c=>
     exfalso
     rw[hop]at hk hk3
     simp only[Bx]at hk hk3
     generalize hz:c.callee=z at hk hk3
     cases z with
     |value f=>simp at hk
     |invoke r m=>simp at hk
     |builtin b=>cases b<;>simp at hk hk3
    |_=>exfalso;rw[hop]at hk hk3;simp only[Bx]at hk hk3;omega
   obtain⟨e,he,hany⟩:=aDO hnew h
   exact⟨_,hany mem hsame,fun h'=>absurd h' hk,fun hc=>(by cases hc),fun c hc=>(by cases hc),fun c _=>⟨e,he,rfl⟩⟩
  |_=>
   exfalso
   cases hop:o.op with
   |store T y z=>rw[hop]at hf;simp only[EH]at hf;(repeat' split at hf)<;>first|cases hf|(cases hq:AL _<;>rw[hq]at hf<;>cases hf)
   |alloc T=>rw[hop]at hf;cases hf
   |box T y=>rw[hop]at hf;cases hf
   |call c=>
    rw[hop]at hk hk3
    simp only[Bx]at hk hk3
    generalize hz:c.callee=z at hk hk3
    cases z with
    |value f=>simp at hk
    |invoke r m=>simp at hk
    |builtin b=>cases b<;>simp at hk hk3
   |_=>rw[hop]at hk hk3;simp only[Bx]at hk hk3;omega
theorem uJ{a:Act}{o:Option Nat}{v:Value}{n:Nat}(hs:a.tmps.size=n)(hd:∀d,o=some d->d<n)(t:Nat):(a.put o v).tmps.getD t undef=if o=some t then v else a.tmps.getD t undef:=by
 cases o with
 |none=>simp[Act.put]
 |some d=>
  rw[PE (by rw[hs];exact hd d rfl)];by_cases h:t=d
  ·subst h;simp
  ·rw[ag h,ag (by simp;exact fun e=>h e.symm)]
theorem Inv.next(hI:Inv C ops s0 S xs fs base S0 σ0 L σ a)(hR:Reg C ops s0 S xs fs){j:Nat}{o:Oper}(hj:ops[j]? = some o)(hp:∀i∈Cb o,L i)(hn:¬L j){σ':Sit}{v:Value}
  (hok:Ok base S0 σ') (hmv:Moves id σ σ')
  (hmem:(σ'.mem=σ.mem/\Ec (fs j))∨(fs j=.wr none/\σ'.mem=(S (j+1)).mem)∨(∃c e,fs j=.wr (some c)/\(S (j+1)).mem=(S j).mem.set c e/\σ'.mem=σ.mem.set c e/\Ac (S j).mem c≠.gone)∨(∃e,fs j=.mk (S j).mem.length/\(S (j+1)).mem=(S j).mem++[e]/\σ'.mem=σ.mem++[e]))
  (hnew:o.guard=none->BB σ' (xs j) v)
  (htag:∀gi p t,o.guard=some (gi,p)->Fh ops gi=some t->(a.tmps.getD t undef=.bool p->BB σ' (xs j) v)/\(a.tmps.getD t undef≠.bool p->v=undef)) :
  Inv C ops s0 S xs fs base S0 σ0 (fun i=>i=j∨L i) σ' (a.put o.dst v):=by
 have hjl:j<ops.length:=(bp.1 hj).1;obtain⟨hev,hap,hdn⟩:=hR.tr.step j o hj;have hdn':∀d,o.dst=some d->d<s0.n:=fun d hd=>by have:=hdn d hd;rw[(hR.parts j (by omega)).1]at this;exact this
 have hget:=fun t=>uJ (v:=v) hI.size hdn' t;have hanc:=hI.anc_in hR hj hp;have keep:∀{x y},BB σ x y->BB σ' x y:=fun h=>BB.keep hmv.rep h;have hguard:∀i x gi p t,L i->ops[i]? = some x->x.guard=some (gi,p)->Fh ops gi=some t->o.dst≠some t:=fun i x gi p t hL hi hg ht hd=>by
  have hgi:=(hR.row hi).2.2.2.2 gi p hg;have hex:∃z,ops[gi]? = some z/\z.dst=some t:=by
   unfold Fh at ht;split at ht
   ·rename_i z e;exact⟨z,e,ht⟩
   ·cases ht
  obtain⟨z,hz,hzd⟩:=hex;have hjg:gi=j:=hR.distinct hz hj hzd hd;subst hjg;have hlook:t∈looks ops x:=aOD hg ht;rcases(hR.pair hj hi hgi).2 with h|h
  ·exact hn (hI.closed i hL _ h)
  ·rw[tZ.2 ⟨t,hd,hlook⟩]at h;cases h.1
 refine⟨hok,hI.adv.trans hmv.adv_id,?_,?_,fun i hi x hx=>?_,fun i hi=>?_,fun b=>?_,?_,fun t ht=>?_,fun i x d hi hx hd hg=>?_,fun i x d gi p t hi hx hd hg ht=>?_⟩
 ·have:=hI.size;cases hd:o.dst<;>simp[Act.put,this]
 ·have:=hI.defers;cases hd:o.dst<;>simp[Act.put,this]
 ·rcases hi with rfl|hi
  ·exact .inr (hanc x hx)
  ·exact .inr (hI.closed i hi x hx)
 ·rcases hi with rfl|hi
  ·exact hjl
  ·exact hI.lt i hi
 ·obtain⟨k,hkl,hb1,hb2⟩:=hI.blk b;have stay:¬Wr (fs j) b->∀i,i<ops.length->Wr (fs i) b->((i=j∨L i)↔i<k):=fun hw i hi hwi=>by
   rw[←hb2 i hi hwi];exact⟨fun h=>h.resolve_left fun e=>hw (by rw[←e];exact hwi),.inr⟩
  have here:Wr (fs j) b->∀i,i<ops.length->Wr (fs i) b->((i=j∨L i)↔i<j+1):=fun hw i hi hwi=>by
   have hap:=aS2 hwi (.inl hw);rw[hI.as_text hR hj hp hn hi hap.1 hap.2];omega
  rcases hmem with⟨h1,h2⟩|⟨h1,h2⟩|⟨c,e,h1,h2,h3,h4⟩|⟨e,h1,h2,h3⟩
  ·exact⟨k,hkl,by rw[h1];exact hb1,stay (h2.not_wr b)⟩
  ·exact⟨j+1,by omega,by rw[h2],here (by rw[h1];trivial)⟩
  ·by_cases hcb:c=b
   ·subst hcb;have hw:Wr (fs j) c:=by rw[h1];rfl
    refine⟨j+1,by omega,?_,here hw⟩;have heq:=hI.blk_at hR hj hp hn (.inl hw);rw[h2,h3,B9 (DP h4),B9 (DP (by rw[heq];exact h4)),ah rfl,ah rfl]
   ·exact⟨k,hkl,by rw[h3,aMo hcb];exact hb1,stay fun hw=>hcb (by rw[h1]at hw;exact hw)⟩
  ·have hlen:=hI.len_at hR hj hp hn (by rw[h1];trivial);by_cases hcb:(S j).mem.length=b
   ·subst hcb;have hw:Wr (fs j) (S j).mem.length:=by rw[h1];rfl
    refine⟨j+1,by omega,?_,here hw⟩;rw[h2,h3,aMm,←hlen,aMm]
   ·exact⟨k,hkl,by rw[h3,aMn (by rw[hlen];exact hcb)];exact hb1,stay fun hw=>hcb (by rw[h1]at hw;exact hw)⟩
 ·obtain⟨k,hkl,hb1,hb2⟩:=hI.len;have stay:¬En (fs j)->∀i,i<ops.length->En (fs i)->((i=j∨L i)↔i<k):=fun hw i hi hwi=>by
   rw[←hb2 i hi hwi];exact⟨fun h=>h.resolve_left fun e=>hw (by rw[←e];exact hwi),.inr⟩
  have here:En (fs j)->∀i,i<ops.length->En (fs i)->((i=j∨L i)↔i<j+1):=fun hw i hi hwi=>by
   have hap:=aEd hwi (.inl hw);rw[hI.as_text hR hj hp hn hi hap.1 hap.2];omega
  rcases hmem with⟨h1,h2⟩|⟨h1,h2⟩|⟨c,e,h1,h2,h3,h4⟩|⟨e,h1,h2,h3⟩
  ·exact⟨k,hkl,by rw[h1];exact hb1,stay h2.not_len⟩
  ·exact⟨j+1,by omega,by rw[h2],here (by rw[h1];trivial)⟩
  ·exact⟨k,hkl,by rw[h3,List.length_set];exact hb1,stay (by rw[h1];simp[En])⟩
  ·have hlen:=hI.len_at hR hj hp hn (by rw[h1];trivial);exact⟨j+1,by omega,by rw[h2,h3,fc,fc,hlen],here (by rw[h1];trivial)⟩
 ·rw[hget,ag (ht j o (.inl rfl) hj)];exact keep (hI.old t fun i x hi hx=>ht i x (.inr hi) hx)
 ·rw[hget];rcases hi with rfl|hi
  ·rw[hj]at hx;cases hx;rw[ah hd];exact hnew hg
  ·rw[ag fun e=>hn (by rw[←hR.distinct hx hj hd e];exact hi)];exact keep (hI.new i x d hi hx hd hg)
 ·rw[hget t,hget d];rcases hi with rfl|hi
  ·rw[hj]at hx;cases hx;have hne:o.dst≠some t:=fun e=>by
    have hr:=(hR.row hj).2.2.1;rw[tZ.2 ⟨t,e,aOD hg ht⟩]at hr;cases hr
   rw[ah hd,ag hne];exact htag gi p t hg ht
  ·have hne1:o.dst≠some d:=fun e=>hn (by rw[←hR.distinct hx hj hd e];exact hi);have hne2:=hguard i x gi p t hi hx hg ht;rw[ag hne1,ag hne2];have:=hI.tag i x d gi p t hi hx hd hg ht;exact⟨fun h=>keep (this.1 h),this.2⟩
end
end Vx
namespace Vx
open Go Go.RowKit
variable {C:Cfg}{ops:List Oper}{s0:St}{S:Nat->St}{xs:Nat->TV}{fs:Nat->FP}{base:Base}{S0:Nat->Prop}
theorem aNu{p q:Nat->Bool}(h:∀i,q i=true->p i=true):∀l:List Nat,l.countP q<=l.countP p
 | []=>by simp
 |x::l=>by
  have ih:=aNu h l
  rw[kv,kv]
  have:=h x
  cases hq:q x<;>cases hp:p x<;>simp_all<;>omega
theorem aDr{p q:Nat->Bool}(h:∀i,q i=true->p i=true){j:Nat}(hp:p j=true)(hq:q j=false):∀l:List Nat,j∈l->l.countP q<l.countP p
 | [],hj=>by simp at hj
 |x::l,hj=>by
  rw[kv,kv]
  rcases dq.1 hj with rfl|hj
  ·have:=aNu h l
   rw[hp,hq];simp;omega
  ·have ih:=aDr h hp hq l hj
   have:=h x
   cases hq':q x<;>cases hp':p x<;>simp_all<;>omega
theorem JR{o:Oper}{i:Nat}:i∈Cb o↔∃e∈o.after,Region.binds .any e=true/\e.on=i:=by
 unfold Cb;simp only[ly,qv,Array.mem_toList_iff];constructor
 ·rintro ⟨e,⟨h1,h2⟩,h3⟩;exact⟨e,h1,h2,h3⟩
 ·rintro ⟨e,h1,h2,h3⟩;exact⟨e,⟨h1,h2⟩,h3⟩
theorem bA4{o:Op}(h:Gb o=true):Bx o≠2:=by
 cases o<;>simp[Gb,Bx]at h⊢;split<;>simp
theorem aNJ(hC:SumsOk C){opsA:Array Oper}(hR:Reg C opsA.toList s0 S xs fs){σ0 σ:Sit}{a:Act}{L:Nat->Prop}(hG0:GlobsOk C.globs σ0.w σ0.S)
  (hI:Inv C opsA.toList s0 S xs fs base S0 σ0 L σ a) {j:Nat} {o:Oper} (hj:opsA.toList[j]? = some o) (hp:∀i∈Cb o,L i) (hn:¬L j) {K:Act->World->Prop} {Q:Exit->Act->World->Prop}
  (hK:∀σ' v,Inv C opsA.toList s0 S xs fs base S0 σ0 (fun i=>i=j∨L i) σ' (a.put o.dst v)->K (a.put o.dst v) σ'.w) :
  if ig o (yielded opsA a.tmps)then o.wp C.P a σ.w K Q else K (a.put o.dst undef) σ.w:=by
 have hrel:=hI.rel_at hR hj hp hn
 have hat:=hI.mem_at hR hj hp hn
 have hG:=hG0.adv hI.adv
 obtain⟨hev,hap,hdn⟩:=hR.tr.step j o hj
 have hkind:=(hR.row hj).2.1
 have hna:∀c,o.op=.call c->c.callee=.builtin .append->∃T Ts,c.argTypes.toList=T::Ts/\HT C T=true:=fun c hop hc=>by rw[hop]at hkind;simp[Bx,hc]at hkind
 unfold Wq at hev
 simp only at hev
 split at hev
 ·rename_i hg
  rw[ah (by simp[ig,hg])]
  cases hb:(DC (Cf opsA.toList o (S j)) [] o.op||Nat.beq (Bx o.op) 2)with
  |false=>
   rw[hb]at hev
   simp only[ab]at hev
   cases hbo:Yi C (Cf opsA.toList o (S j)) [] o.op with
   |true=>
    rw[hbo]at hev
    simp only[aa]at hev
    split at hev
    ·rename_i g x m2 hpl
     simp only[ap,cr]at hev
     obtain⟨hfs,rfl,rfl,hm2⟩:=hev
     rw[←hfs]at hat
     have em:σ.mem=(S j).mem:=hat
     obtain⟨q1,q2⟩:=tA hbo hpl
     have hpl':At C {Cf opsA.toList o (S j)with mem:=σ.mem} [] o=some (.ok true (xs j) m2):=by rw[em];exact hpl
     refine JX hC hI.ok hrel (fun _ _ h=>by simp at h) hG hna hpl' K Q fun v σ' k1 k2 k3 k4=>hK σ' _ ?_
     exact hI.next hR hj hp hn k1 k2 (.inl ⟨by rw[k3,q1,em];rfl,by rw[←hfs];trivial⟩) (fun _=>k4) (fun gi p t h=>by rw[hg]at h;cases h)
    ·cases hev
   |false=>
   rw[hbo]at hev
   simp only[ab]at hev
   split at hev
   ·rename_i b eo
    split at hev
    ·rename_i g x m2 hpl
     obtain⟨hl,hev⟩:=AK hev
     simp only[ap,cr]at hev
     obtain⟨hfs,rfl,rfl,hm2⟩:=hev
     rw[←hfs]at hat
     obtain⟨q1,q2,hany⟩:=aNc eo (av hl) hpl
     have hpl':=hany σ.mem hat
     refine JX hC hI.ok hrel (fun _ _ h=>by simp at h) hG hna hpl' K Q fun v σ' k1 k2 k3 k4=>hK σ' _ ?_
     exact hI.next hR hj hp hn k1 k2 (.inr (.inr (.inl ⟨b,.gone,hfs.symm,by rw[←hm2];exact q2,k3,q1⟩))) (fun _=>k4) (fun gi p t h=>by rw[hg]at h;cases h)
    ·cases hev
   ·split at hev
    ·rename_i b el
     split at hev
     ·rename_i g x m2 hpl
      obtain⟨hl,hev⟩:=AK hev
      simp only[ap,cr]at hev
      obtain⟨hfs,rfl,rfl,hm2⟩:=hev
      rw[←hfs]at hat
      obtain⟨q1,e',q2,hany⟩:=aNa hg el (av hl) hpl
      have hpl':=hany σ.mem hat
      refine JX hC hI.ok hrel (fun _ _ h=>by simp at h) hG hna hpl' K Q fun v σ' k1 k2 k3 k4=>hK σ' _ ?_
      exact hI.next hR hj hp hn k1 k2 (.inr (.inr (.inl ⟨b,e',hfs.symm,by rw[←hm2];exact q2,k3,q1⟩))) (fun _=>k4) (fun gi p t h=>by rw[hg]at h;cases h)
     ·cases hev
    ·split at hev
     ·rename_i g x m2 hpl
      simp only[ap,cr]at hev
      obtain⟨hfs,rfl,rfl,hm2⟩:=hev
      rw[←hfs]at hat
      have em:σ.mem=(S j).mem:=hat
      have hpl':At C {Cf opsA.toList o (S j)with mem:=σ.mem} [] o=some (.ok true (xs j) m2):=by rw[em];exact hpl
      refine JX hC hI.ok hrel (fun _ _ h=>by simp at h) hG hna hpl' K Q fun v σ' k1 k2 k3 k4=>hK σ' _ ?_
      exact hI.next hR hj hp hn k1 k2 (.inr (.inl ⟨hfs.symm,by rw[k3,hm2]⟩)) (fun _=>k4) (fun gi p t h=>by rw[hg]at h;cases h)
     ·cases hev
  |true=>
  rw[hb]at hev
  simp only[fh]at hb
  simp only[aa]at hev
  split at hev
  ·rename_i g x m2 hpl
   cases hst:Dt o.op (Cf opsA.toList o (S j)).mem m2 with
   |false=>
    rw[hst]at hev
    obtain⟨hmk,hev⟩:=AK hev
    simp only[ap,cr]at hev
    obtain⟨hfs,rfl,rfl,hm2⟩:=hev
    rw[←hfs]at hat
    obtain⟨e',he,hany⟩:=aNb (hb.imp id fun h=>av h) hmk hpl
    have hpl':=hany σ.mem hat
    refine JX hC hI.ok hrel (fun _ _ h=>by simp at h) hG hna hpl' K Q fun v σ' k1 k2 k3 k4=>hK σ' _ ?_
    exact hI.next hR hj hp hn k1 k2 (.inr (.inr (.inr ⟨e',hfs.symm,by rw[←hm2];exact he,k3⟩))) (fun _=>k4) (fun gi p t h=>by rw[hg]at h;cases h)
   |true=>
   rw[hst]at hev
   simp only[aa,ap,cr]at hev
   obtain⟨hfs,rfl,rfl,hm2⟩:=hev
   rw[←hfs]at hat
   obtain⟨m3,hpl',h1,h2,h3,h4⟩:=Reg.plain hkind hat (hb.imp id fun h=>av h) hst hpl
   refine JX hC hI.ok hrel (fun _ _ h=>by simp at h) hG hna hpl' K Q fun v σ' k1 k2 k3 k4=>hK σ' _ ?_
   refine hI.next hR hj hp hn k1 k2 ?_ (fun _=>k4) (fun gi p t h=>by rw[hg]at h;cases h)
   rcases hR.mem_cases hj with⟨hk1,_,hq⟩|⟨_,hq|⟨c,e,hq,_,_⟩|⟨e,hq,_⟩⟩
   ·exact .inl ⟨by rw[k3,h1 hk1],hq⟩
   ·exact .inr (.inl ⟨hq,by rw[k3,h2 (by rw[hfs];exact hq),hm2]⟩)
   ·obtain⟨e',q1,q2,q3⟩:=h3 c (by rw[hfs];exact hq)
    exact .inr (.inr (.inl ⟨c,e',hq,by rw[←hm2];exact q1,by rw[k3];exact q2,q3⟩))
   ·obtain⟨e',q1,q2⟩:=h4 _ (by rw[hfs];exact hq)
    exact .inr (.inr (.inr ⟨e',hq,by rw[←hm2];exact q1,by rw[k3];exact q2⟩))
  ·cases hev
 ·rename_i gi p hg
  split at hev
  ·rename_i t d ht hd
   cases hbc:(Gb o.op&&!(Nat.beq d t)&&DC (Cf opsA.toList o (S j)) (Ff (Cf opsA.toList o (S j)).cs t p) o.op)with
   |false=>
    rw[hbc]at hev
    simp only[ab]at hev
    obtain⟨hb,hev⟩:=AK hev
    simp only[ar,ff]at hb
    split at hev
    ·rename_i c g x m2 hcv hpl
     simp only[ap,cr,fh,ff]at hev
     obtain⟨hfs,hgc,rfl,hm2⟩:=hev
     obtain⟨q1,q2⟩:=tA hb.2 hpl
     have hq:Ec (fs j):=by rw[←hfs];trivial
     rw[←hfs]at hat
     have em:σ.mem=(S j).mem:=hat
     have hpl':At C {Cf opsA.toList o (S j)with mem:=σ.mem} (Ff (Cf opsA.toList o (S j)).cs t p) o=some (.ok g (xs j) m2):=by rw[em];exact hpl
     have hcv':=Yp (s:={Cf opsA.toList o (S j)with mem:=σ.mem}) hrel.tm hrel.cs hcv
     have hw:=aAf (a:=a) hg ht
     by_cases hwant:a.tmps.getD t undef=.bool p
     ·rw[ah (hw.2 hwant)]
      have hgt:g=true:=by
       rcases hgc with h|h
       ·exact h
       ·rw[hcv'.2 hwant]at h;cases h
      subst hgt
      refine JX hC hI.ok hrel (Wk hrel.cs hwant) hG hna hpl' K Q fun v σ' k1 k2 k3 k4=>hK σ' _ ?_
      refine hI.next hR hj hp hn k1 k2 (.inl ⟨by rw[k3,q1,em];rfl,hq⟩) (fun h=>by rw[hg]at h;cases h) (fun gi' p' t' h e=>?_)
      rw[hg]at h;cases h
      rw[ht]at e;cases e
      exact⟨fun _=>k4,fun h=>absurd hwant h⟩
     ·rw[ag fun h=>hwant (hw.1 h)]
      refine hK σ _ (hI.next hR hj hp hn hI.ok (Goes.refl σ).moves (.inl ⟨rfl,hq⟩) (fun h=>by rw[hg]at h;cases h) (fun gi' p' t' h e=>?_))
      rw[hg]at h;cases h
      rw[ht]at e;cases e
      exact⟨fun h=>absurd h hwant,fun _=>rfl⟩
    ·cases hev
   |true=>
   rw[hbc]at hev
   simp only[aa]at hev
   have hb:=hbc
   simp only[ar,ff]at hb
   split at hev
   ·rename_i c g x m2 hcv hpl
    obtain⟨hst,hev⟩:=AK hev
    simp only[ap,cr,fh,ff]at hev
    obtain⟨hfs,hgc,rfl,hm2⟩:=hev
    have hk2:=bA4 hb.1.1
    have hk1:Bx o.op<=1:=by omega
    have hq:Ec (fs j):=by rw[←hfs];exact Yt hk1
    rw[←hfs]at hat
    obtain⟨m3,hpl',h1,_,_,_⟩:=Reg.plain hkind hat (.inl hb.2) hst hpl
    have hcv':=Yp (s:={Cf opsA.toList o (S j)with mem:=σ.mem}) hrel.tm hrel.cs hcv
    have hw:=aAf (a:=a) hg ht
    by_cases hwant:a.tmps.getD t undef=.bool p
    ·rw[ah (hw.2 hwant)]
     have hgt:g=true:=by
      rcases hgc with h|h
      ·exact h
      ·rw[hcv'.2 hwant]at h;cases h
     subst hgt
     refine JX hC hI.ok hrel (Wk hrel.cs hwant) hG hna hpl' K Q fun v σ' k1 k2 k3 k4=>hK σ' _ ?_
     refine hI.next hR hj hp hn k1 k2 (.inl ⟨by rw[k3,h1 hk1],hq⟩) (fun h=>by rw[hg]at h;cases h) (fun gi' p' t' h e=>?_)
     rw[hg]at h;cases h
     rw[ht]at e;cases e
     exact⟨fun _=>k4,fun h=>absurd hwant h⟩
    ·rw[ag fun h=>hwant (hw.1 h)]
     refine hK σ _ (hI.next hR hj hp hn hI.ok (Goes.refl σ).moves (.inl ⟨rfl,hq⟩) (fun h=>by rw[hg]at h;cases h) (fun gi' p' t' h e=>?_))
     rw[hg]at h;cases h
     rw[ht]at e;cases e
     exact⟨fun h=>absurd h hwant,fun _=>rfl⟩
   ·cases hev
  ·cases hev
theorem Inv.start(hR:Reg C ops s0 S xs fs){σ:Sit}{a:Act}(ho:Ok base S0 σ)(hr:RelT σ s0 a):Inv C ops s0 S xs fs base S0 σ (fun _=>False) σ a:=
 ⟨ho,Adv.refl σ,hr.size,hr.defers,fun _ h=>h.elim,fun _ h=>h.elim,fun b=>⟨0,dv _,by rw[hR.tr.zero,hr.mem],fun i _ _=>⟨fun h=>h.elim,fun h=>by omega⟩⟩,⟨0,dv _,by rw[hR.tr.zero,hr.mem],fun i _ _=>⟨fun h=>h.elim,fun h=>by omega⟩⟩,fun t _=>hr.tm t,
  fun _ _ _ h=>h.elim,fun _ _ _ _ _ _ h=>h.elim⟩
theorem Inv.done(hR:Reg C ops s0 S xs fs){σ0 σ:Sit}{a:Act}{L:Nat->Prop}(hI:Inv C ops s0 S xs fs base S0 σ0 L σ a)(hall:∀i,i<ops.length->L i):RelT σ (S ops.length) a:=by
 refine⟨?_,hI.defers,?_,fun t=>?_,fun d g p x hm=>?_⟩
 ·exact hI.size.trans (hR.parts _ (ci _)).1.symm
 ·refine aPJ ?_ fun b=>?_
  ·obtain⟨k,hkl,h1,h2⟩:=hI.len;rw[h1];refine i5 (f:=fun k=>(S k).mem.length) (P:=fun i=>En (fs i)) (fun i hi=>hR.len_step i hi) hkl (ci _) fun i hi hwi=>?_;rw[←h2 i hi hwi];exact⟨fun _=>hall i hi,fun _=>hi⟩
  ·obtain⟨k,hkl,h1,h2⟩:=hI.blk b;rw[h1];refine i5 (f:=fun k=>Ac (S k).mem b) (P:=fun i=>Wr (fs i) b) (fun i hi=>hR.blk_step i hi) hkl (ci _) fun i hi hwi=>?_;rw[←h2 i hi hwi];exact⟨fun _=>hall i hi,fun _=>hi⟩
 ·by_cases hex:∃i x,i<ops.length/\ops[i]? = some x/\x.dst=some t
  ·obtain⟨i,x,hij,hi,hd⟩:=hex;rw[hR.tm_new hi hd _ hij (ci _)];cases hg:x.guard with
   |none=>exact hI.new i x t (hall i hij) hi hd hg
   |some _=>trivial
  ·rw[hR.tm_old _ (ci _) t fun i x hij hi hd=>hex ⟨i,x,hij,hi,hd⟩];exact hI.old t fun i x hL hi hd=>hex ⟨i,x,hI.lt i hL,hi,hd⟩
 ·obtain⟨i,y,gi,hij,hi,hyd,hyg,hgs,rfl⟩:=hR.cs_of _ (ci _) d g p x hm;exact hI.tag i y d gi p g (hall i hij) hi hyd hyg hgs
theorem aDl{α:Type}{r:α}:∀{gs:List Bool} {x:Option α},Ai gs x=some r->(∀g∈gs,g=true)/\x=some r
 | [],x,h=>⟨by simp,h⟩
 |g::gs,x,h=>by
  simp only[Ai]at h
  obtain⟨h1,h2⟩:=AK h
  obtain⟨h3,h4⟩:=aDl h2
  exact⟨fun q hq=>by rcases dq.1 hq with rfl|hq;exact h1;exact h3 q hq,h4⟩
end Vx
namespace Vx
open Go Go.RowKit
variable {C:Cfg}{base:Base}{S0:Nat->Prop}{s0:St}{S:Nat->St}{xs:Nat->TV}{fs:Nat->FP}
theorem aCH{l:List Nat}:∀{n:Nat},sU l n=true->∀j,j<n->j∈l
 |0,_,j,h=>by omega
 |n+1,h,j,hj=>by
  simp only[sU,ar]at h
  rcases bc j n with h1|h1
  ·exact aCH h.2 j h1
  ·have:j=n:=by omega
   subst this
   exact PM.1 h.1
theorem aE5:∀{l:List Oper} {i:Nat},zZ i l=true->∀k o,l[k]? = some o->o.guard=none/\i+k∈Cb o/\∀p∈Cb o,p<i+k+1
 | [],i,_,k,o,h=>by simp at h
 |x::r,i,h,k,o,hk=>by
  simp only[zZ,ar]at h
  cases k with
  |zero=>
   simp at hk;subst hk
   refine⟨?_,PM.1 h.1.1.2,fF h.1.2⟩
   have:=h.1.1.1
   unfold iL at this
   split at this
   ·assumption
   ·cases this
  |succ k=>
   have:=aE5 h.2 k o (by simpa using hk)
   exact⟨this.1,by rw[show i+(k+1)=i+1+k by omega];exact this.2.1,by rw[show i+(k+1)+1=i+1+k+1 by omega];exact this.2.2⟩
theorem aSK{opsA:Array Oper}{Q:Exit->Act->World->Prop}{n:Nat}(hrest:∀i o,n<i->opsA[i]? = some o->i-1∈Cb o)(hbefore:∀i o,n<=i->opsA[i]? = some o->∀p∈Cb o,p<i):
  ∀(fuel k:Nat) (listed:Array Bool) (a:Act) (w:World),n<=k->listed.size=opsA.size->(∀i,listed.getD i false=true↔i<k)->k<=opsA.size->opsA.size-k<=fuel ->
   wpList C.P opsA Q (opsA.toList.drop k) a w->wpAny C.P .any opsA Q fuel listed a w:=by
 intro fuel;have hready:∀(k:Nat) (listed:Array Bool),n<=k->listed.size=opsA.size->(∀i,listed.getD i false=true↔i<k)->∀i∈mo .any opsA listed,i=k:=fun k listed hnk hs hl i hi=>by
  obtain⟨h1,o,ho,hall⟩:=mem_ready.1 hi;have hil:i<opsA.size:=(dx.1 ho).1;have hil':i<listed.size:=by omega
  have hni:¬i<k:=fun h=>by
   have:=(hl i).2 h;simp[jm,hil']at h1 this;rw[this]at h1;cases h1
  rcases bc k i with hki|hki
  ·exfalso;have:=hrest i o (by omega) ho;obtain⟨e,he,hb,hon⟩:=JR.1 this;have:=(hl e.on).1 (hall e he hb);omega
  ·omega
 induction fuel with
 |zero=>
  intro k listed a w hnk hs hl hk hf hw;have hke:k=opsA.size:=by omega
  subst hke;have hdrop:opsA.toList.drop opsA.size=[]:=by simp
  rw[hdrop]at hw;refine⟨?_,hw⟩;cases hr:mo .any opsA listed with
  |nil=>rfl
  |cons i r=>
   exfalso;have hi:i∈mo .any opsA listed:=by rw[hr];simp
   have:=hready _ listed hnk hs hl i hi;obtain⟨_,o,ho,_⟩:=mem_ready.1 hi;have:=(dx.1 ho).1;omega
 |succ fuel ih=>
  intro k listed a w hnk hs hl hk hf hw;rcases bc k opsA.size with hlt|hge
  ·have hget:opsA[k]? = some opsA[k]:=by simp[hlt]
   have hdrop:opsA.toList.drop k=opsA[k]::opsA.toList.drop (k+1):=by
    rw[List.drop_eq_getElem_cons (by simpa using hlt)];simp
   rw[hdrop]at hw;refine⟨fun hnil=>?_,fun i hi=>?_⟩
   ·exfalso;have:k∈mo .any opsA listed:=by
     rw[mem_ready];have hil:k<listed.size:=by omega
     refine⟨?_,opsA[k],hget,fun e he hbd=>?_⟩
     ·have h0:¬listed.getD k false=true:=fun h=>absurd ((hl k).1 h) (ob _);simpa[jm,hil]using h0
     ·exact(hl e.on).2 (hbefore k opsA[k] hnk hget e.on (JR.2 ⟨e,he,hbd,rfl⟩))
    rw[hnil]at this;simp at this
   ·have:=hready k listed hnk hs hl i hi;subst this;have hil':i<listed.size:=by omega
    have hset:∀j,(listed.setIfInBounds i true).getD j false=true↔j<i+1:=fun j=>by
     by_cases hj:j=i
     ·subst hj;simp[jm,hil']
     ·rw[fi,im (fun e=>hj e.symm),←fi,hl j];omega
    simp only[wpList]at hw;unfold wpOp;rw[hget];simp only;split
    ·rename_i hwant;rw[ah hwant]at hw;rcases hw with hw|hw
     ·exact .inl (Oper.wp_mono (fun a' w' h=>ih (i+1) _ a' w' (by omega) (by simpa using hs) hset hlt (by omega) h) hw)
     ·exact .inr hw
    ·rename_i hwant;rw[ag hwant]at hw;exact ih (i+1) _ _ w (by omega) (by simpa using hs) hset hlt (by omega) hw
  ·have hke:k=opsA.size:=by omega
   subst hke;have hdrop:opsA.toList.drop opsA.size=[]:=by simp
   rw[hdrop]at hw;refine⟨fun _=>hw,fun i hi=>?_⟩;exfalso;have:=hready _ listed hnk hs hl i hi;obtain⟨_,o,ho,_⟩:=mem_ready.1 hi;have:=(dx.1 ho).1;omega
theorem aZ3(hC:SumsOk C){opsA:Array Oper}{n:Nat}(hn:n<=opsA.size)(hR:Reg C (opsA.toList.take n) s0 S xs fs)(hT:PW (opsA.toList.take n) n (opsA.toList.drop n)=true){σ0:Sit}(hG0:GlobsOk C.globs σ0.w σ0.S){Q:Exit->Act->World->Prop}
  (hQ:∀σ' a',Ok base S0 σ'->Adv σ0 σ'->RelT σ' (S n) a'->wpList C.P opsA Q (opsA.toList.drop n) a' σ'.w) :
  ∀(fuel:Nat) (listed:Array Bool) (σ:Sit) (a:Act),listed.size=opsA.size->(ja opsA.size).countP (fun i=>!listed.getD i false)<=fuel->(∀i,n<=i->listed.getD i false=false) ->
   Inv C (opsA.toList.take n) s0 S xs fs base S0 σ0 (fun i=>listed.getD i false=true) σ a->wpAny C.P .any opsA Q fuel listed a σ.w:=by
 have hlen:(opsA.toList.take n).length=n:=by simp;omega
 have hH:∀i,i<n->(opsA.toList.take n)[i]? = opsA[i]?:=fun i hi=>by rw[di hi];simp
 have htail:∀i o,n<=i->opsA[i]? = some o->(n<i->i-1∈Cb o)/\(∀p∈Cb o,p<i)/\(i=n->∀j,j<n->j∈(Cb o).flatMap fun i=>i::LB (opsA.toList.take n) i):=fun i o hi ho=>by
  have hdrop:(opsA.toList.drop n)[i-n]? = some o:=by
   rw[fe,show n+(i-n)=i by omega];simpa using ho
  cases hd:opsA.toList.drop n with
  |nil=>rw[hd]at hdrop;simp at hdrop
  |cons x r=>
   rw[hd]at hdrop hT
   simp only[PW,ar]at hT
   obtain⟨⟨⟨t1,t2⟩,t3⟩,t4⟩:=hT
   rcases mg hi with heq|hgt
   ·subst heq
    rw[gu]at hdrop
    simp at hdrop
    subst hdrop
    exact⟨fun h=>absurd h (ob _),fF t3,fun _ j hj=>aCH t2 j hj⟩
   ·obtain⟨k,rfl⟩:∃k,i=n+1+k:=⟨i-n-1,by omega⟩
    rw[show n+1+k-n=k+1 by omega]at hdrop
    have:=aE5 t4 k o (by simpa using hdrop)
    refine⟨fun _=>by rw[show n+1+k-1=n+k by omega];exact this.2.1,fun p hp=>?_,fun h=>by omega⟩
    have:=this.2.2 p hp
    omega
 have hdone:∀(fuel:Nat) (listed:Array Bool) (σ:Sit) (a:Act),listed.size=opsA.size->(ja opsA.size).countP (fun i=>!listed.getD i false)<=fuel->(∀i,n<=i->listed.getD i false=false)->(∀i,i<n->listed.getD i false=true) ->
   Inv C (opsA.toList.take n) s0 S xs fs base S0 σ0 (fun i=>listed.getD i false=true) σ a->wpAny C.P .any opsA Q fuel listed a σ.w:=fun fuel listed σ a hs hc hno hall hI=>by
  have hl:∀i,listed.getD i false=true↔i<n:=fun i=>by
   rcases bc i n with h|h
   ·exact⟨fun _=>h,fun _=>hall i h⟩
   ·exact⟨fun h'=>(by rw[hno i h]at h';cases h'),fun h'=>by omega⟩
  have hrel:=hI.done hR (fun i hi=>hall i (by rw[hlen]at hi;exact hi))
  rw[hlen]at hrel
  refine aSK (n:=n) (fun i o hi ho=>(htail i o (by omega) ho).1 hi) (fun i o hi ho=>(htail i o hi ho).2.1) fuel n listed a σ.w (ci _) hs hl hn ?_ (hQ σ a hI.ok hI.adv hrel)
  refine gb ?_ hc
  have:(ja opsA.size).countP (fun i=>!listed.getD i false)=(ja opsA.size).countP (fun i=>decide (n<=i)):=by
   refine qi fun i _=>?_
   rcases bc i n with h|h
   ·rw[hall i h];simp;omega
   ·rw[hno i h];simp;omega
  rw[this]
  have key:∀m,m-n<=(ja m).countP (fun i=>decide (n<=i)):=fun m=>by
   induction m with
   |zero=>simp
   |succ m ih=>
    rw[qw,qa]
    simp only[kv,qx,ai]
    split<;>omega
  exact key _
 intro fuel
 induction fuel with
 |zero=>
  intro listed σ a hs hc hno hI
  refine hdone 0 listed σ a hs hc hno (fun i hi=>?_) hI
  have h0:(ja opsA.size).countP (fun i=>!listed.getD i false)=0:=by omega
  rw[pj]at h0
  have:=h0 i (lq.2 (by omega))
  simpa using this
 |succ fuel ih=>
  intro listed σ a hs hc hno hI
  by_cases hall:∀i,i<n->listed.getD i false=true
  ·exact hdone (fuel+1) listed σ a hs hc hno hall hI
  ·have hex:∃j,j<n/\listed.getD j false=false/\∀k,k<j->listed.getD k false=true:=by
    obtain⟨j,hj⟩:=jo.1 hall
    obtain⟨hj1,hj2⟩:=ki.1 hj
    have hj2:listed.getD j false=false:=by simpa using hj2
    have:∀m,∀j,j<=m->j<n->listed.getD j false=false->∃j,j<n/\listed.getD j false=false/\∀k,k<j->listed.getD k false=true:=fun m=>by
     induction m with
     |zero=>intro j hj h1 h2;exact⟨j,h1,h2,fun k hk=>by omega⟩
     |succ m ihm=>
      intro j hj h1 h2
      by_cases hk:∀k,k<j->listed.getD k false=true
      ·exact⟨j,h1,h2,hk⟩
      ·obtain⟨k,hk⟩:=jo.1 hk
       obtain⟨hk1,hk2⟩:=ki.1 hk
       exact ihm k (by omega) (by omega) (by simpa using hk2)
    exact this j j (ci _) hj1 hj2
   refine⟨fun hnil=>?_,fun i hi=>?_⟩
   ·exfalso
    obtain⟨j,h1,h2,h3⟩:=hex
    have:j∈mo .any opsA listed:=by
     rw[mem_ready]
     have hil:j<listed.size:=by omega
     refine⟨by simpa[jm,hil]using h2,opsA[j],by simp[show j<opsA.size by omega],fun e he hbd=>?_⟩
     have hlt:=(hR.row (j:=j) (y:=opsA[j]) (by rw[hH j h1];simp[show j<opsA.size by omega])).1 e.on (JR.2 ⟨e,he,hbd,rfl⟩)
     exact h3 e.on hlt
    rw[hnil]at this;simp at this
   ·obtain⟨h1,o,ho,hpre⟩:=mem_ready.1 hi
    have hil:i<opsA.size:=(dx.1 ho).1
    have hil':i<listed.size:=by omega
    have h1':listed.getD i false=false:=by simpa[jm,hil']using h1
    have hin:i<n:=by
     rcases bc i n with h|h
     ·exact h
     ·exfalso
      obtain⟨t1,t2,t3⟩:=htail i o h ho
      rcases mg h with heq|hgt
      ·subst heq
       obtain⟨j,g1,g2,_⟩:=hex
       obtain⟨q,hq,hqj⟩:=og.1 (t3 rfl j g1)
       have hql:listed.getD q false=true:=by
        obtain⟨e,he,hb,rfl⟩:=JR.1 hq
        exact hpre e he hb
       rcases dq.1 hqj with rfl|hqj
       ·rw[g2]at hql;cases hql
       ·have:=hI.closed q hql j hqj
        rw[g2]at this;cases this
      ·obtain⟨e,he,hb,hon⟩:=JR.1 (t1 hgt)
       have:=hpre e he hb
       rw[hon,hno (i-1) (by omega)]at this
       cases this
    have hset:∀k,(listed.setIfInBounds i true).getD k false=true↔(k=i∨listed.getD k false=true):=fun k=>by
     by_cases hk:k=i
     ·subst hk;simp[jm,hil']
     ·rw[fi,im (fun e=>hk e.symm),←fi]
      simp[hk]
    have hstep:=aNJ (opsA:=(opsA.toList.take n).toArray) (K:=wpAny C.P .any opsA Q fuel (listed.setIfInBounds i true)) (Q:=Q) hC hR hG0 hI (j:=i) (o:=o) ((hH i hin).trans ho)
     (fun k hk=>by obtain⟨e,he,hb,rfl⟩:=JR.1 hk;exact hpre e he hb) (by simp[h1'])
     (fun σ' v hI'=>ih _ σ' _ (by simpa using hs) ?_ ?_ ?_)
    ·have hw:ig o (yielded (opsA.toList.take n).toArray a.tmps)=ig o (yielded opsA a.tmps):=by
      unfold ig
      cases hg:o.guard with
      |none=>rfl
      |some gp=>
       obtain⟨gi,p⟩:=gp
       have hgi:=(hR.row (j:=i) (y:=o) (by rw[hH i hin];exact ho)).2.2.2.2 gi p hg
       simp only
       unfold yielded
       have:((opsA.toList.take n).toArray[gi]?)=opsA[gi]?:=by
        rw[gq];exact hH gi (by omega)
       rw[this]
     rw[hw]at hstep
     unfold wpOp
     rw[ho]
     simp only
     split
     ·rename_i hwant;rw[ah hwant]at hstep;exact .inl hstep
     ·rename_i hwant;rw[ag hwant]at hstep;exact hstep
    ·have:=aDr (p:=fun i=>!listed.getD i false) (q:=fun k=>!(listed.setIfInBounds i true).getD k false) (j:=i) (fun k hk=>by
      simp only[ff]at hk⊢
      cases hb:listed.getD k false with
      |false=>rfl
      |true=>rw[(hset k).2 (.inr hb)]at hk;cases hk) (by simp[h1']) (by simp only[qb];exact(hset i).2 (.inl rfl)) (ja opsA.size) (lq.2 hil)
     omega
    ·intro k hk
     cases hb:(listed.setIfInBounds i true).getD k false with
     |false=>rfl
     |true=>
      rcases(hset k).1 hb with rfl|h
      ·omega
      ·rw[hno k hk]at h;cases h
    ·have:(fun k=>(listed.setIfInBounds i true).getD k false=true)=(fun k=>k=i∨listed.getD k false=true):=funext fun k=>propext (hset k)
     rw[this]
     exact hI'
theorem aZ5(hP:ProgOk C){opsA:Array Oper}{n:Nat}(hn:n<=opsA.size){fps:List FP}{gs:List Bool}{s s':St}(hd:ZR (opsA.toList.take n) fps=true)(hT:PW (opsA.toList.take n) n (opsA.toList.drop n)=true)(he:U4 C (opsA.toList.take n) (opsA.toList.take n) s=some (fps,gs,s'))(hgs:∀g∈gs,g=true)(hcs:s.cs=[])
  {σ:Sit} {a:Act} (ho:Ok base S0 σ) (hr:RelT σ s a) (hG:GlobsOk C.globs σ.w σ.S) {id:Nat} {Q:Exit->Act->World->Prop}
  (hQ:∀σ' a',Ok base S0 σ'->Adv σ σ'->RelT σ' s' a'->s'.m0=s.m0->wpList C.P opsA Q (opsA.toList.drop n) a' σ'.w):(Code.region id opsA true).wp C.P Q a σ.w:=by
 have hlen:(opsA.toList.take n).length=n:=by simp;omega
 obtain⟨S,xs,fs,h0,h1,h2,h3⟩:=aFa _ _ _ _ _ he hgs;have hR:Reg C (opsA.toList.take n) s S xs fs:=⟨⟨fps,hd,h0⟩,⟨h1,h3⟩,hcs⟩
 rw[hlen]at h2;obtain⟨k1,k2⟩:=aEv (n:=σ.w.drawn+1) ho;refine wp_region_any hP.mixed ?_;have hstart:=Inv.start hR k1 (show RelT _ s a from⟨hr.size,hr.defers,hr.mem,fun t=>BB.keep k2.moves.rep (hr.tm t),fun d g p x hm=>⟨fun h=>BB.keep k2.moves.rep ((hr.cs d g p x hm).1 h),(hr.cs d g p x hm).2⟩⟩);have hm0:s'.m0=s.m0:=by
  rw[←h2];exact(hR.parts _ (by rw[hlen];exact ci _)).2
 refine aZ3 hP.sums hn hR hT (σ0:={σ with w:={σ.w with drawn:=σ.w.drawn+1} }) (hG.adv k2.adv) (fun σ' a' q1 q2 q3=>hQ σ' a' q1 (k2.adv.trans q2) (by rw[←h2];exact q3) hm0) opsA.size (kp opsA.size false) {σ with w:={σ.w with drawn:=σ.w.drawn+1} } a (by simp) ?_ (fun i _=>by simp[jm]) ?_
 ·refine gb (ou) ?_;simp
 ·have:(fun i=>(kp opsA.size false).getD i false=true)=fun _=>False:=funext fun i=>by
   simp[jm]
  rw[this];exact hstart
end Vx
namespace Vx
open Go Go.RowKit
variable {C:Cfg}{s0:St}{S:Nat->St}{xs:Nat->TV}{fs:Nat->FP}{base b:Base}{S0:Nat->Prop}{σ σ0:Sit}{a:Act}
structure Sub (base b:Base):Prop where
 low:Low base b.w
 new:∀r,b.new r->base.new r
theorem Sub.refl:Sub base base:=⟨⟨rfl,rfl,rfl,ci _,fun _ _ _=>rfl⟩,fun _ h=>h⟩
theorem Sub.back(hs:Sub base b)(ho:Ok b S0 σ):Ok base S0 σ:=
 ⟨hs.low.step ho.below.os ho.below.tape ho.below.output ho.below.size (fun k hk hn=>ho.below.block k hk (fun hM=>hn (hs.new k (.inr hM)))),ho.stab0,
  fun r h=>⟨(ho.stab r h).1,(ho.stab r h).2.imp id (hs.new r)⟩,ho.ent,fun c r h=>⟨hs.new r (ho.own c r h).1,(ho.own c r h).2⟩,ho.inj⟩
def Base.less(b:Base)(w:World)(o:Obj):Base:=⟨w.alloc o,fun r=>b.new r/\r≠w.heap.size⟩
def Sit.behind(σ:Sit)(o:Obj):Sit:={E:=σ.E,mem:=σ.mem,w:=σ.w.alloc o,S:=σ.S}
theorem aMi(ho:Ok b S0 σ)(o:Obj):Goes σ (σ.behind o):=
 ⟨fun _ h=>h,fun r hr=>PF (ho.stab r hr).1,ci _,fun _ _=>BL.refl rfl rfl rfl⟩
theorem bBc(ho:Ok b S0 σ)(o:Obj):Ok (b.less σ.w o) S0 (σ.behind o):=by
 refine⟨⟨rfl,rfl,rfl,ci _,fun _ _ _=>rfl⟩,ho.stab0,fun r h=>?_,fun c=>?_,fun c r h=>?_,fun c c' r h h'=>ho.inj c c' r h h'⟩
 ·have:=ho.stab r h;refine⟨by simp only[Sit.behind,il];omega,this.2.imp id fun hn=>.inr ⟨hn,by omega⟩⟩
 ·exact AE.keep (aMi ho o) rfl rfl rfl (fun r hr=>PF (ho.own c r hr).2.1) (ho.ent c)
 ·have:=ho.own c r h;exact⟨.inr ⟨this.1,by omega⟩,by simp only[Sit.behind,il];omega,this.2.2⟩
theorem Sub.less(hs:Sub base b)(ho:Ok b S0 σ)(o:Obj):Sub base (b.less σ.w o):=by
 refine⟨(hs.back ho).below.alloc o,fun r h=>?_⟩;rcases h with h|h
 ·refine hs.new r (.inl ?_);have h1:(σ.w.alloc o).heap.size<=r:=h;have h2:=ho.below.size;rw[il]at h1;omega
 ·exact hs.new r h.1
structure Made (b:Base) (S0:Nat->Prop) (p:Nat) (o:Obj):Prop where
 lt:p<b.w.heap.size
 old:¬b.new p
 at_:b.w.heap[p]? = some o
 s0:¬S0 p
theorem Made.here{p:Nat}{o:Obj}(hm:Made b S0 p o)(ho:Ok b S0 σ):p<σ.w.heap.size/\σ.w.heap[p]? = some o:=
 ⟨az hm.lt ho.below.size,(ho.below.block p hm.lt (fun h=>hm.old (.inr h))).trans hm.at_⟩
theorem Made.keep{p:Nat}{o:Obj}(hm:Made b S0 p o)(ho:Ok b S0 σ)(o':Obj):Made (b.less σ.w o') S0 p o:=by
 obtain⟨h1,h2⟩:=hm.here ho;refine⟨by show p<(σ.w.alloc o').heap.size;rw[il];omega,fun h=>?_,(PF h1).trans h2,hm.s0⟩;rcases h with h|h
 ·have h3:(σ.w.alloc o').heap.size<=p:=h;rw[il]at h3;omega
 ·exact hm.old h.1
theorem Made.make(ho:Ok b S0 σ)(o:Obj):Made (b.less σ.w o) S0 σ.w.heap.size o:=by
 refine⟨by show σ.w.heap.size<(σ.w.alloc o).heap.size;rw[il];omega,fun h=>?_,PG,fun h=>?_⟩
 ·rcases h with h|h
  ·have h3:(σ.w.alloc o).heap.size<=σ.w.heap.size:=h;rw[il]at h3;omega
  ·exact h.2 rfl
 ·have:=(ho.stab _ (ho.stab0 _ h)).1;omega
theorem bBH(ho:Ok base S0 σ){cs:List SC}{vs:Array Value}{T:TypeId}{r:Nat}(hl:Eo base σ r)(hh:σ.w.heap[r]? = some (.cells vs T (0,0)))(hrep:All2 (Aw σ) cs vs.toList):
  ∃σ':Sit,σ'.mem=σ.mem++[.raw cs]/\σ'.w=σ.w/\σ'.S=σ.S/\Ok base S0 σ'/\Goes σ σ'/\Aw σ' (.ptr σ.mem.length 0) (.pointer (some ⟨r,0,none⟩))/\∀c r',σ'.owned c r'->σ.owned c r'∨r'=r:=by
 let σ':Sit:={E:=⟨AI σ.E.β σ.mem.length (some r),σ.E.κ⟩,mem:=σ.mem++[.raw cs],w:=σ.w,S:=σ.S}
 have hblk:Ac σ'.mem σ.mem.length=.raw cs:=Ex;have hold:∀c r',c≠σ.mem.length->σ'.owned c r'->σ.owned c r':=fun c r' hne ⟨g1,g2⟩=>by
  rcases bc c σ.mem.length with hb|hb
  ·simp only[σ']at g1 g2;rw[HV hb]at g1;exact⟨g1,by simpa[AI,hne]using g2⟩
  ·simp only[σ']at g1;rw[U0 (by omega)]at g1;exact g1.elim
 have hnew:∀r',σ'.owned σ.mem.length r'->r'=r:=fun r' ⟨_,g2⟩=>by
  have:some r=some r':=by simpa[σ',AI]using g2
  cases this;rfl
 have hg:Goes σ σ':=⟨fun _ h=>h,fun _ _=>rfl,by simp[σ'],fun c hb=>BL.refl (HV hb) (by simp[σ',AI];omega) rfl⟩
 refine⟨σ',rfl,rfl,rfl,⟨ho.below,ho.stab0,ho.stab,fun c=>?_,fun c r' h=>?_,fun c c' r' h h'=>?_⟩,hg,⟨by simp[σ'],⟨_,rfl⟩,?_⟩,fun c r' h=>?_⟩
 ·by_cases hb:c=σ.mem.length
  ·subst hb;unfold AE;rw[hblk];exact⟨r,vs,T,by simp[σ',AI],hh,hrep.mono fun _ _=>hg.repC⟩
  ·rcases bc c σ.mem.length with h' | h'
   ·exact AE.keep hg (HV h') (by simp[σ',AI,hb]) rfl (fun _ _=>rfl) (ho.ent c)
   ·unfold AE;simp only[σ'];rw[U0 (by omega)];trivial
 ·by_cases hb:c=σ.mem.length
  ·subst hb;rw[hnew r' h];exact⟨hl.1,hl.2.1,hl.2.2.1⟩
  ·exact ho.own c r' (hold c r' hb h)
 ·by_cases hb:c=σ.mem.length<;>by_cases hb':c'=σ.mem.length
  ·rw[hb,hb']
  ·subst hb;rw[hnew r' h]at h';exact(hl.2.2.2 c' (hold c' r hb' h')).elim
  ·subst hb';rw[hnew r' h']at h;exact(hl.2.2.2 c (hold c r hb h)).elim
  ·exact ho.inj c c' r' (hold c r' hb h) (hold c' r' hb' h')
 ·rw[hblk];exact⟨r,by simp[σ',AI],rfl⟩
 ·by_cases hb:c=σ.mem.length
  ·subst hb;exact .inr (hnew r' h)
  ·exact .inl (hold c r' hb h)
theorem aPO{q:Nat->Nat}:∀(l:List Oper) (j0:Nat) {σ:Sit} {s s2:St},Ok base S0 σ->RelT σ s a->Wb C.P l s=some s2 ->
  (∀j o,l[j]? = some o->∃T d zv,o.op=.alloc T/\o.dst=some d/\(∀w,(zeroValue T).run C.P w=.ok zv w)/\a.tmps.getD d undef=.pointer (some ⟨q (j0+j),0,none⟩)/\Eo base σ (q (j0+j))/\σ.w.heap[q (j0+j)]? = some (.cells zv.cells T (0,0))) ->
  (∀j j',j<l.length->j'<l.length->q (j0+j)=q (j0+j')->j=j') ->
  ∃σ2:Sit,σ2.w=σ.w/\Ok base S0 σ2/\Goes σ σ2/\RelT σ2 s2 a/\s2.m0=s.m0
 | [],j0,σ,s,s2,ho,hr,h,_,_=>by
  simp only[Wb,ap]at h
  subst h
  exact⟨σ,rfl,ho,Goes.refl σ,hr,rfl⟩
 |o::l,j0,σ,s,s2,ho,hr,h,hf,hd=>by
  obtain⟨T,d,zv,e1,e2,e3,e4,e5,e6⟩:=hf 0 o rfl
  simp only[Wb,e1,e2]at h
  obtain⟨hdn,h⟩:=AK h
  split at h
  ·rename_i z hz
   obtain⟨zv',g1,g2⟩:=jG (σ:=σ) hz
   have hzz:zv'=zv:=by
    have:=(g2 σ.w).symm.trans (e3 σ.w)
    cases this;rfl
   subst hzz
   obtain⟨σ',k1,k2,k3,k4,k5,k6,k7⟩:=bBH ho e5 e6 g1.cells
   have hr':RelT σ' {s with tm:=(d,.val (.one (.ptr s.mem.length 0)))::s.tm,mem:=s.mem++[.raw z.cells] } a:=by
    refine⟨hr.size,hr.defers,by rw[k1,hr.mem],fun t=>?_,fun d' g p x hm=>⟨fun h=>BB.keep k5.moves.rep ((hr.cs d' g p x hm).1 h),(hr.cs d' g p x hm).2⟩⟩
    simp only[Bt]
    cases hb:Nat.beq d t with
    |true=>
     have:=av hb
     subst this
     rw[e4,←hr.mem]
     exact k6
    |false=>exact BB.keep k5.moves.rep (hr.tm t)
   obtain⟨σ2,m1,m2,m3,m4,m5⟩:=aPO l (j0+1) k4 hr' h (fun j o' ho'=>by
    obtain⟨T',d',zv',f1,f2,f3,f4,f5,f6⟩:=hf (j+1) o' ho'
    rw[show j0+(j+1)=j0+1+j by omega]at f4 f5 f6
    refine⟨T',d',zv',f1,f2,f3,f4,⟨f5.1,by rw[k2];exact f5.2.1,by rw[k3];exact f5.2.2.1,fun c hc=>?_⟩,by rw[k2];exact f6⟩
    rcases k7 c _ hc with hc|hc
    ·exact f5.2.2.2 c hc
    ·have hj:=(bp.1 ho').1
     have:=hd (j+1) 0 (by simp;omega) (by simp) (by rw[show j0+(j+1)=j0+1+j by omega];exact hc)
     omega) (fun j j' hj hj' hq=>by
    have:=hd (j+1) (j'+1) (by simp;omega) (by simp;omega) (by rw[show j0+(j+1)=j0+1+j by omega,show j0+(j'+1)=j0+1+j' by omega];exact hq)
    omega)
   exact⟨σ2,m1.trans k2,m2,k5.trans m3,m4,m5⟩
  ·cases h
theorem Inv.make{H:List Oper}{L:Nat->Prop}(hI:Inv C H s0 S xs fs b S0 σ0 L σ a){d:Nat}(hd:d<s0.n)(hun:Bt s0.tm d=.un)(hH:∀(i:Nat) (y:Oper),H[i]? = some y->y.dst≠some d)(v:Value)(o:Obj):
  Inv C H s0 S xs fs (b.less σ.w o) S0 σ0 L (σ.behind o) (a.put (some d) v):=by
 have hg:=aMi hI.ok o;have keep:∀{x y},BB σ x y->BB (σ.behind o) x y:=fun h=>BB.keep hg.moves.rep h;have hget:=fun t=>uJ (v:=v) (o:=some d) hI.size (fun d' h=>by cases h;exact hd) t;refine⟨bBc hI.ok o,hI.adv.trans hg.adv,?_,?_,hI.closed,hI.lt,hI.blk,hI.len,fun t ht=>?_,fun i x d' hi hx hd' hgu=>?_,fun i x d' gi p t hi hx hd' hgu ht=>?_⟩
 ·have:=hI.size;simp[Act.put,this]
 ·have:=hI.defers;simp[Act.put,this]
 ·rw[hget];by_cases htd:t=d
  ·subst htd;rw[hun];trivial
  ·rw[ag (fun h=>htd (by cases h;rfl))];exact keep (hI.old t ht)
 ·rw[hget,ag (fun h=>hH i x hx (by cases h;exact hd'))];exact keep (hI.new i x d' hi hx hd' hgu)
 ·have hne:t≠d:=fun h=>by
   subst h;unfold Fh at ht;split at ht
   ·rename_i y e;exact hH gi y e ht
   ·cases ht
  rw[hget,hget,ag (fun h=>hne (by cases h;rfl)),ag (fun h=>hH i x hx (by cases h;exact hd'))];have:=hI.tag i x d' gi p t hi hx hd' hgu ht;exact⟨fun h=>keep (this.1 h),this.2⟩
structure Allocs (C:Cfg) (opsA:Array Oper) (s0:St) (n k:Nat):Prop where
 op:∀j,j<k->∃o d T zv,opsA[n+j]? = some o/\o.op=.alloc T/\o.guard=none/\o.dst=some d/\Cb o=[]/\Bt s0.tm d=.un/\d<s0.n/\(∀w,(zeroValue T).run C.P w=.ok zv w)
 apart:∀i i' o o' d,i<n+k->i'<n+k->opsA[i]? = some o->opsA[i']? = some o'->o.dst=some d->o'.dst=some d->(n<=i∨n<=i')->i=i'
def aAt(C:Cfg)(opsA:Array Oper)(n k:Nat)(base b:Base)(S0:Nat->Prop)(q:Nat->Nat)(L:Nat->Prop)(a:Act):Prop:=(∀j,j<k->L (n+j)->∃o d T zv,opsA[n+j]? = some o/\o.op=.alloc T/\o.dst=some d/\(∀w,(zeroValue T).run C.P w=.ok zv w)/\a.tmps.getD d undef=.pointer (some ⟨q j,0,none⟩)/\base.new (q j)/\Made b S0 (q j) (.cells zv.cells T (0,0))) /\ ∀j j',j<k->j'<k->L (n+j)->L (n+j')->q j=q j'->j=j'
theorem aZ4(hC:SumsOk C){opsA:Array Oper}{n k:Nat}(hn:n+k<=opsA.size)(hR:Reg C (opsA.toList.take n) s0 S xs fs)(hA:Allocs C opsA s0 n k)(hT:PW (opsA.toList.take n) (n+k) (opsA.toList.drop (n+k))=true)
  (hG0:GlobsOk C.globs σ0.w σ0.S) {Q:Exit->Act->World->Prop}
  (hQ:∀σ' a' b q,Sub base b->Ok b S0 σ'->Adv σ0 σ'->RelT σ' (S n) a'->aAt C opsA n k base b S0 q (fun _=>True) a'->wpList C.P opsA Q (opsA.toList.drop (n+k)) a' σ'.w) :
  ∀(fuel:Nat) (listed:Array Bool) (σ:Sit) (a:Act) (b:Base) (q:Nat->Nat),listed.size=opsA.size->(ja opsA.size).countP (fun i=>!listed.getD i false)<=fuel->(∀i,n+k<=i->listed.getD i false=false)->Sub base b ->
   Inv C (opsA.toList.take n) s0 S xs fs b S0 σ0 (fun i=>i<n/\listed.getD i false=true) σ a->aAt C opsA n k base b S0 q (fun i=>listed.getD i false=true) a->wpAny C.P .any opsA Q fuel listed a σ.w:=by
 have hlen:(opsA.toList.take n).length=n:=by simp;omega
 have hH:∀i,i<n->(opsA.toList.take n)[i]? = opsA[i]?:=fun i hi=>by rw[di hi];simp
 have hHd:∀i o,(opsA.toList.take n)[i]? = some o->i<n/\opsA[i]? = some o:=fun i o h=>by
  have hi:i<n:=by
   have:=(bp.1 h).1
   omega
  exact⟨hi,by rw[←hH i hi];exact h⟩
 have htail:∀i o,n+k<=i->opsA[i]? = some o->(n+k<i->i-1∈Cb o)/\(∀p∈Cb o,p<i)/\(i=n+k->∀j,j<n+k->j∈(Cb o).flatMap fun i=>i::LB (opsA.toList.take n) i):=fun i o hi ho=>by
  have hdrop:(opsA.toList.drop (n+k))[i-(n+k)]? = some o:=by
   rw[fe,show n+k+(i-(n+k))=i by omega];simpa using ho
  cases hd:opsA.toList.drop (n+k)with
  |nil=>rw[hd]at hdrop;simp at hdrop
  |cons x r=>
   rw[hd]at hdrop hT
   simp only[PW,ar]at hT
   obtain⟨⟨⟨t1,t2⟩,t3⟩,t4⟩:=hT
   rcases mg hi with heq|hgt
   ·subst heq
    rw[gu]at hdrop
    simp at hdrop
    subst hdrop
    exact⟨fun h=>absurd h (ob _),fF t3,fun _ j hj=>aCH t2 j hj⟩
   ·obtain⟨m,rfl⟩:∃m,i=n+k+1+m:=⟨i-(n+k)-1,by omega⟩
    rw[show n+k+1+m-(n+k)=m+1 by omega]at hdrop
    have:=aE5 t4 m o (by simpa using hdrop)
    refine⟨fun _=>by rw[show n+k+1+m-1=n+k+m by omega];exact this.2.1,fun p hp=>?_,fun h=>by omega⟩
    have:=this.2.2 p hp
    omega
 have hdone:∀(fuel:Nat) (listed:Array Bool) (σ:Sit) (a:Act) (b:Base) (q:Nat->Nat),listed.size=opsA.size->(ja opsA.size).countP (fun i=>!listed.getD i false)<=fuel->(∀i,n+k<=i->listed.getD i false=false)->(∀i,i<n+k->listed.getD i false=true)->Sub base b ->
   Inv C (opsA.toList.take n) s0 S xs fs b S0 σ0 (fun i=>i<n/\listed.getD i false=true) σ a->aAt C opsA n k base b S0 q (fun i=>listed.getD i false=true) a->wpAny C.P .any opsA Q fuel listed a σ.w:=fun fuel listed σ a b q hs hc hno hall hsub hI hM=>by
  have hl:∀i,listed.getD i false=true↔i<n+k:=fun i=>by
   rcases bc i (n+k)with h|h
   ·exact⟨fun _=>h,fun _=>hall i h⟩
   ·exact⟨fun h'=>(by rw[hno i h]at h';cases h'),fun h'=>by omega⟩
  have hrel:=hI.done hR (fun i hi=>⟨by omega,hall i (by omega)⟩)
  rw[hlen]at hrel
  refine aSK (n:=n+k) (fun i o hi ho=>(htail i o (by omega) ho).1 hi) (fun i o hi ho=>(htail i o hi ho).2.1) fuel (n+k) listed a σ.w (ci _) hs hl hn ?_
   (hQ σ a b q hsub hI.ok hI.adv hrel ⟨fun j hj _=>hM.1 j hj (hall _ (by omega)),fun j j' hj hj' _ _=>hM.2 j j' hj hj' (hall _ (by omega)) (hall _ (by omega))⟩)
  refine gb ?_ hc
  have:(ja opsA.size).countP (fun i=>!listed.getD i false)=(ja opsA.size).countP (fun i=>decide (n+k<=i)):=by
   refine qi fun i _=>?_
   rcases bc i (n+k)with h|h
   ·rw[hall i h];simp;omega
   ·rw[hno i h];simp;omega
  rw[this]
  have key:∀m,m-(n+k)<=(ja m).countP (fun i=>decide (n+k<=i)):=fun m=>by
   induction m with
   |zero=>simp
   |succ m ih=>
    rw[qw,qa]
    simp only[kv,qx,ai]
    split<;>omega
  exact key _
 intro fuel
 induction fuel with
 |zero=>
  intro listed σ a b q hs hc hno hsub hI hM
  refine hdone 0 listed σ a b q hs hc hno (fun i hi=>?_) hsub hI hM
  have h0:(ja opsA.size).countP (fun i=>!listed.getD i false)=0:=by omega
  rw[pj]at h0
  have:=h0 i (lq.2 (by omega))
  simpa using this
 |succ fuel ih=>
  intro listed σ a b q hs hc hno hsub hI hM
  by_cases hall:∀i,i<n+k->listed.getD i false=true
  ·exact hdone (fuel+1) listed σ a b q hs hc hno hall hsub hI hM
  ·have hex:∃j,j<n+k/\listed.getD j false=false/\∀i,i<j->listed.getD i false=true:=by
    obtain⟨j,hj⟩:=jo.1 hall
    obtain⟨hj1,hj2⟩:=ki.1 hj
    have hj2:listed.getD j false=false:=by simpa using hj2
    have:∀m,∀j,j<=m->j<n+k->listed.getD j false=false->∃j,j<n+k/\listed.getD j false=false/\∀i,i<j->listed.getD i false=true:=fun m=>by
     induction m with
     |zero=>intro j hj h1 h2;exact⟨j,h1,h2,fun i hi=>by omega⟩
     |succ m ihm=>
      intro j hj h1 h2
      by_cases hk:∀i,i<j->listed.getD i false=true
      ·exact⟨j,h1,h2,hk⟩
      ·obtain⟨i,hk⟩:=jo.1 hk
       obtain⟨hk1,hk2⟩:=ki.1 hk
       exact ihm i (by omega) (by omega) (by simpa using hk2)
    exact this j j (ci _) hj1 hj2
   refine⟨fun hnil=>?_,fun i hi=>?_⟩
   ·exfalso
    obtain⟨j,h1,h2,h3⟩:=hex
    have:j∈mo .any opsA listed:=by
     rw[mem_ready]
     have hil:j<listed.size:=by omega
     refine⟨by simpa[jm,hil]using h2,opsA[j],by simp[show j<opsA.size by omega],fun e he hbd=>?_⟩
     rcases bc j n with hjn|hjn
     ·have hlt:=(hR.row (j:=j) (y:=opsA[j]) (by rw[hH j hjn];simp[show j<opsA.size by omega])).1 e.on (JR.2 ⟨e,he,hbd,rfl⟩)
      exact h3 e.on hlt
     ·obtain⟨o,d,T,zv,g1,_,_,_,g5,_⟩:=hA.op (j-n) (by omega)
      rw[show n+(j-n)=j by omega]at g1
      have:opsA[j]=o:=by
       have h4:opsA[j]? = some opsA[j]:=by simp[show j<opsA.size by omega]
       rw[h4]at g1;cases g1;rfl
      have hp:e.on∈Cb o:=by rw[←this];exact JR.2 ⟨e,he,hbd,rfl⟩
      rw[g5]at hp;simp at hp
    rw[hnil]at this;simp at this
   ·obtain⟨h1,o,ho,hpre⟩:=mem_ready.1 hi
    have hil:i<opsA.size:=(dx.1 ho).1
    have hil':i<listed.size:=by omega
    have h1':listed.getD i false=false:=by simpa[jm,hil']using h1
    have hin:i<n+k:=by
     rcases bc i (n+k)with h|h
     ·exact h
     ·exfalso
      obtain⟨t1,t2,t3⟩:=htail i o h ho
      rcases mg h with heq|hgt
      ·subst heq
       obtain⟨j,g1,g2,_⟩:=hex
       obtain⟨p,hp,hpj⟩:=og.1 (t3 rfl j g1)
       have hpl:listed.getD p false=true:=by
        obtain⟨e,he,hb,rfl⟩:=JR.1 hp
        exact hpre e he hb
       rcases dq.1 hpj with rfl|hpj
       ·rw[g2]at hpl;cases hpl
       ·rcases bc p n with hpn|hpn
        ·have:=(hI.closed p ⟨hpn,hpl⟩ j hpj).2
         rw[g2]at this;cases this
        ·have:LB (opsA.toList.take n) p=[]:=by
          unfold LB
          have hal:∀(l:List Oper) (acc:List (List Nat)),(G0 acc l).length=acc.length+l.length:=fun l=>by
           induction l with
           |nil=>intro acc;simp[G0]
           |cons x r ihr=>intro acc;simp only[G0];rw[ihr];simp;omega
          have:=hal (opsA.toList.take n) []
          rw[dz (by rw[this,hlen];simpa using hpn)];rfl
         rw[this]at hpj;simp at hpj
      ·obtain⟨e,he,hb,hon⟩:=JR.1 (t1 hgt)
       have:=hpre e he hb
       rw[hon,hno (i-1) (by omega)]at this
       cases this
    have hset:∀m,(listed.setIfInBounds i true).getD m false=true↔(m=i∨listed.getD m false=true):=fun m=>by
     by_cases hk:m=i
     ·subst hk;simp[jm,hil']
     ·rw[fi,im (fun e=>hk e.symm),←fi]
      simp[hk]
    have hcount:(ja opsA.size).countP (fun m=>!(listed.setIfInBounds i true).getD m false)<=fuel:=by
     have:=aDr (p:=fun m=>!listed.getD m false) (q:=fun m=>!(listed.setIfInBounds i true).getD m false) (j:=i) (fun m hk=>by
      simp only[ff]at hk⊢
      cases hb:listed.getD m false with
      |false=>rfl
      |true=>rw[(hset m).2 (.inr hb)]at hk;cases hk) (by simp[h1']) (by simp only[qb];exact(hset i).2 (.inl rfl)) (ja opsA.size) (lq.2 hil)
     omega
    have hno':∀m,n+k<=m->(listed.setIfInBounds i true).getD m false=false:=fun m hm=>by
     cases hb:(listed.setIfInBounds i true).getD m false with
     |false=>rfl
     |true=>
      rcases(hset m).1 hb with rfl|h
      ·omega
      ·rw[hno m hm]at h;cases h
    rcases bc i n with hi1|hi1
    ·have hstep:=aNJ (opsA:=(opsA.toList.take n).toArray) (K:=wpAny C.P .any opsA Q fuel (listed.setIfInBounds i true)) (Q:=Q) hC hR hG0 hI (j:=i) (o:=o) ((hH i hi1).trans ho)
      (fun m hk=>by
       obtain⟨e,he,hb,rfl⟩:=JR.1 hk
       have:=(hR.row (j:=i) (y:=o) (by rw[hH i hi1];exact ho)).1 e.on hk
       exact⟨by omega,hpre e he hb⟩) (by simp[h1'])
      (fun σ' v hI'=>ih _ σ' _ b q (by simpa using hs) hcount hno' hsub ?_ ?_)
     ·have hw:ig o (yielded (opsA.toList.take n).toArray a.tmps)=ig o (yielded opsA a.tmps):=by
       unfold ig
       cases hg:o.guard with
       |none=>rfl
       |some gp=>
        obtain⟨gi,p⟩:=gp
        have hgi:=(hR.row (j:=i) (y:=o) (by rw[hH i hi1];exact ho)).2.2.2.2 gi p hg
        simp only
        unfold yielded
        have:((opsA.toList.take n).toArray[gi]?)=opsA[gi]?:=by
         rw[gq];exact hH gi (by omega)
        rw[this]
      rw[hw]at hstep
      unfold wpOp
      rw[ho]
      simp only
      split
      ·rename_i hwant;rw[ah hwant]at hstep;exact .inl hstep
      ·rename_i hwant;rw[ag hwant]at hstep;exact hstep
     ·have:(fun m=>m<n/\(listed.setIfInBounds i true).getD m false=true)=(fun m=>m=i∨(m<n/\listed.getD m false=true)):=funext fun m=>propext (by
       rw[hset m]
       constructor
       ·rintro ⟨g1,g2|g2⟩
        ·exact .inl g2
        ·exact .inr ⟨g1,g2⟩
       ·rintro (g|g)
        ·exact⟨by omega,.inl g⟩
        ·exact⟨g.1,.inr g.2⟩)
      rw[this]
      exact hI'
     ·refine⟨fun j hj hL=>?_,fun j j' hj hj' hL hL'=>hM.2 j j' hj hj' (((hset _).1 hL).resolve_left (by omega)) (((hset _).1 hL').resolve_left (by omega))⟩
      obtain⟨o',d',T',zv',f1,f2,f3,f4,f5,f6⟩:=hM.1 j hj (((hset _).1 hL).resolve_left (by omega))
      have hdn':∀d,o.dst=some d->d<s0.n:=fun d hd=>by
       have:=(hR.tr.step i o ((hH i hi1).trans ho)).2.2 d hd
       rw[(hR.parts i (by rw[hlen];omega)).1]at this
       exact this
      refine⟨o',d',T',zv',f1,f2,f3,f4,?_,f6⟩
      rw[uJ hI.size hdn',ag (fun h=>?_)]
      ·exact f5
      ·have:=hA.apart i (n+j) o o' d' (by omega) (by omega) ho f1 h f3 (.inr (by omega))
       omega
    ·obtain⟨j,rfl⟩:∃j,i=n+j:=⟨i-n,by omega⟩
     obtain⟨o',d,T,zv,g1,g2,g3,g4,g5,g6,g7,g8⟩:=hA.op j (by omega)
     have:o'=o:=by rw[ho]at g1;cases g1;rfl
     subst this
     have hex':(execOp a.eval o').run C.P σ.w=.ok (.value (.pointer (some ⟨σ.w.heap.size,0,none⟩))) (σ.w.alloc (.cells zv.cells T)):=by
      simp only[execOp,g2,Instr.alloc]
      simp[g8 σ.w,aES]
     unfold wpOp
     rw[ho]
     simp only
     rw[ah (by simp[ig,g3])]
     refine .inl ?_
     unfold Oper.wp
     rw[hex']
     show wpAny C.P .any opsA Q fuel (listed.setIfInBounds (n+j) true) (a.put o'.dst (.pointer (some ⟨σ.w.heap.size,0,none⟩))) (σ.w.alloc (.cells zv.cells T))
     rw[g4]
     have hHdst:∀(m:Nat) (x:Oper),(opsA.toList.take n)[m]? = some x->x.dst≠some d:=fun m x hx hxd=>by
      obtain⟨u1,u2⟩:=hHd m x hx
      have:=hA.apart m (n+j) x o' d (by omega) (by omega) u2 ho hxd g4 (.inr (by omega))
      omega
     refine ih _ (σ.behind (.cells zv.cells T)) _ (b.less σ.w (.cells zv.cells T)) (fun m=>if m=j then σ.w.heap.size else q m) (by simpa using hs) hcount hno' (hsub.less hI.ok _) ?_ ?_
     ·have:(fun m=>m<n/\(listed.setIfInBounds (n+j) true).getD m false=true)=(fun m=>m<n/\listed.getD m false=true):=funext fun m=>propext (by
       rw[hset m]
       constructor
       ·rintro ⟨u1,u2|u2⟩
        ·omega
        ·exact⟨u1,u2⟩
       ·rintro ⟨u1,u2⟩
        exact⟨u1,.inr u2⟩)
      rw[this]
      exact hI.make g7 g6 hHdst _ _
     ·have hget:=fun t=>uJ (v:=.pointer (some ⟨σ.w.heap.size,0,none⟩)) (o:=some d) hI.size (fun d' h=>by cases h;exact g7) t
      have hold:∀m,m<k->m≠j->(listed.setIfInBounds (n+j) true).getD (n+m) false=true->listed.getD (n+m) false=true:=fun m hm hne hL=>((hset _).1 hL).resolve_left (by omega)
      refine⟨fun m hm hL=>?_,fun m m' hm hm' hL hL' hq=>?_⟩
      ·by_cases hmj:m=j
       ·subst hmj
        refine⟨o',d,T,zv,ho,g2,g4,g8,?_,?_,?_⟩
        ·dsimp only
         rw[hget,ah rfl,ah rfl]
        ·dsimp only
         rw[ah rfl]
         exact .inl (hsub.back hI.ok).below.size
        ·dsimp only
         rw[ah rfl]
         exact Made.make hI.ok _
       ·obtain⟨o2,d2,T2,zv2,f1,f2,f3,f4,f5,f6,f7⟩:=hM.1 m hm (hold m hm hmj hL)
        refine⟨o2,d2,T2,zv2,f1,f2,f3,f4,?_,by dsimp only;rw[ag hmj];exact f6,by dsimp only;rw[ag hmj];exact f7.keep hI.ok _⟩
        dsimp only
        rw[hget,ag hmj,ag (fun h=>?_)]
        ·exact f5
        ·have h:d=d2:=by cases h;rfl
         subst h
         have:=hA.apart (n+m) (n+j) o2 o' d (by omega) (by omega) f1 ho f3 g4 (.inr (by omega))
         omega
      ·dsimp only at hq
       by_cases hmj:m=j<;>by_cases hmj':m'=j
       ·omega
       ·exfalso
        rw[ah hmj,ag hmj']at hq
        obtain⟨_,_,_,_,_,_,_,_,_,_,f7⟩:=hM.1 m' hm' (hold m' hm' hmj' hL')
        have:=(f7.here hI.ok).1
        omega
       ·exfalso
        rw[ag hmj,ah hmj']at hq
        obtain⟨_,_,_,_,_,_,_,_,_,_,f7⟩:=hM.1 m hm (hold m hm hmj hL)
        have:=(f7.here hI.ok).1
        omega
       ·rw[ag hmj,ag hmj']at hq
        exact hM.2 m m' hm hm' (hold m hm hmj hL) (hold m' hm' hmj' hL') hq
theorem aL8(σ:Sit):∀{l:List Oper} {s s2:St},Wb C.P l s=some s2->sV l=true ->
  ∀(j:Nat) (o:Oper),l[j]? = some o->∃d T zv,o.op=.alloc T/\o.guard=none/\o.dst=some d/\Cb o=[]/\d<s.n/\∀w,(zeroValue T).run C.P w=.ok zv w
 | [],_,_,_,_,j,o,h=>by simp at h
 |x::l,s,s2,h,hk,j,o,ho=>by
  simp only[Wb]at h
  simp only[sV,ar]at hk
  obtain⟨⟨⟨q1,q2⟩,_⟩,q4⟩:=hk
  split at h
  ·rename_i T d e1 e2
   obtain⟨hd,h⟩:=AK h
   split at h
   ·rename_i z hz
    cases j with
    |zero=>
     simp at ho
     subst ho
     obtain⟨zv,_,g2⟩:=jG (σ:=σ) hz
     refine⟨d,T,zv,e1,?_,e2,?_,kc hd,g2⟩
     ·unfold uM at q1
      rw[e1]at q1
      unfold iL at q1
      simp only at q1
      split at q1
      ·assumption
      ·cases q1
     ·split at q2
      ·assumption
      ·cases q2
    |succ j=>exact aL8 σ h q4 j o (by simpa using ho)
   ·cases h
  ·cases h
theorem t5:∀{l:List Oper} {i:Nat} {o:Oper} {d:Nat},l[i]? = some o->o.dst=some d->d∈F7 l
 | [],_,_,_,h,_=>by simp at h
 |x::l,i,o,d,h,hd=>by
  cases i with
  |zero=>
   simp at h
   subst h
   simp only[F7,hd]
   simp
  |succ i=>
   have:=t5 (l:=l) (by simpa using h) hd
   simp only[F7]
   split
   ·exact fw _ this
   ·exact this
theorem aPS:∀{l:List Oper} {i i':Nat} {o o':Oper} {d:Nat},WK (F7 l)=true->l[i]? = some o->l[i']? = some o'->o.dst=some d->o'.dst=some d->i=i'
 | [],_,_,_,_,_,_,h,_,_,_=>by simp at h
 |x::l,i,i',o,o',d,hk,h,h',hd,hd'=>by
  have hk2:WK (F7 l)=true:=by
   simp only[F7]at hk
   split at hk
   ·simp only[WK,ar]at hk;exact hk.2
   ·exact hk
  cases i with
  |zero=>
   cases i' with
   |zero=>rfl
   |succ i' =>
    exfalso
    simp at h
    subst h
    simp only[F7,hd,WK,ar,ff]at hk
    have:=t5 (l:=l) (by simpa using h') hd'
    rw[PM.2 this]at hk
    cases hk.1
  |succ i=>
   cases i' with
   |zero=>
    exfalso
    simp at h'
    subst h'
    simp only[F7,hd',WK,ar,ff]at hk
    have:=t5 (l:=l) (by simpa using h) hd
    rw[PM.2 this]at hk
    cases hk.1
   |succ i' =>
    have:=aPS (l:=l) hk2 (by simpa using h) (by simpa using h') hd hd'
    omega
theorem aDm{ds:List Nat}{s:St}:∀t,(t∈ds->Bt (Yn ds s).tm t=.un)/\(t∉ds->Bt (Yn ds s).tm t=Bt s.tm t):=by
 intro t;unfold Yn;simp only;induction ds with
 |nil=>exact⟨fun h=>by simp at h,fun _=>rfl⟩
 |cons d r ih=>
  simp only[gg,List.cons_append,Bt];cases hb:Nat.beq d t with
  |true=>
   have:=av hb;subst this;exact⟨fun _=>rfl,fun h=>absurd (List.mem_cons_self ..) h⟩
  |false=>
   have hne:t≠d:=fun h=>by
    subst h;rw[fg]at hb;cases hb
   exact⟨fun h=>ih.1 ((dq.1 h).resolve_left hne),fun h=>ih.2 (fun h'=>h (fw _ h'))⟩
theorem aZB{ds:List Nat}{s:St}(hr:RelT σ s a):RelT σ (Yn ds s) a:=by
 refine⟨hr.size,hr.defers,hr.mem,fun t=>?_,hr.cs⟩;by_cases h:t∈ds
 ·rw[((aDm (s:=s)) t).1 h];trivial
 ·rw[((aDm (s:=s)) t).2 h];exact hr.tm t
theorem bAy{s:St}{t:Nat}(h:Bt s.tm t=.un)(x:Operand):Bt (Ga s x).tm t=.un:=by
 unfold Ga;split
 ·rename_i t';split
  ·rename_i c e;simp only[Bt];cases hb:Nat.beq t' t with
   |true=>
    have:=av hb;subst this;rw[h]at e;cases e
   |false=>exact h
  ·exact h
 ·exact h
theorem aOo{t:Nat}:∀(l:List Operand) {s:St},Bt s.tm t=.un->Bt (l.foldl Ga s).tm t=.un
 | [],_,h=>h
 |x::l,_,h=>aOo l (bAy h x)
theorem aOp{t:Nat}:∀(l:List Oper) {s:St},Bt s.tm t=.un->Bt (l.foldl (Ha false) s).tm t=.un
 | [],_,h=>h
 |o::l,s,h=>by
  refine aOp l ?_
  unfold Ha
  split
  ·split
   ·exact aOo _ h
   ·exact h
  ·exact h
  ·exact h
  ·exact h
end Vx
namespace Vx
open Go Go.RowKit
def GI(e e':Blk):Prop:=
 match e' with
 |.gone=>True
 |.raw _=>∃cs,e=.raw cs
 |.arr τ xs=>e=.arr τ xs
 |.acc τ xs=>e=.acc τ xs
 |.froz τ xs=>e=.froz τ xs
 |.itr s p=>e=.itr s p
structure Cut (σ σ':Sit):Prop where
 E:σ'.E=σ.E
 w:σ'.w=σ.w
 S:σ'.S=σ.S
 rel:∀b,GI (Ac σ.mem b) (Ac σ'.mem b)
variable {σ σ':Sit}
theorem aDg{τ' τ:Shape}{xs:List (Ab τ')}{ys:List (Ab τ)}(h:CX τ' τ xs=some ys):(⟨τ',xs⟩:Sigma fun τ=>List (Ab τ))=⟨τ,ys⟩:=by
 obtain⟨rfl,rfl⟩:=G3 h;rfl
theorem aQx(hc:Cut σ σ'):∀{c:PC} {z:SC} {d:c.D} {y:Value},EJ σ.mem σ'.mem.length c z=some d->Aw σ z y->Aw σ' (aC8 c d) y
 |.v k,z,d,y,h,hz=>by
  simp only[EJ]at h
  split at h
  ·split at h
   ·rename_i k' n hk;subst hk;cases h;exact hz
   ·cases h
  ·cases h
 |.bool,z,d,y,h,hz=>by
  simp only[EJ]at h
  split at h
  ·cases h;exact hz
  ·cases h
 |.str,z,d,y,h,hz=>by
  simp only[EJ]at h
  split at h
  ·cases h;exact hz
  ·cases h
 |.fnv,z,d,y,h,hz=>by
  simp only[EJ]at h
  split at h
  ·cases h
   obtain⟨rfl,_⟩:=hz
   exact(rfl:[Value.nilFunc]=_)
  ·cases h
   obtain⟨_,_,h1⟩:=hz
   rcases h1 with⟨p,hp,_⟩|⟨rs,h1,rfl⟩
   ·simp at hp
   ·exact⟨[],by simp,rfl,fun i n hi=>by simp at hi⟩
  ·cases h
   show AJ σ'.w σ'.S .fn _ [y]
   rw[hc.w,hc.S];exact hz
  ·cases h
 |.ifv,z,d,y,h,hz=>by
  simp only[EJ]at h
  split at h
  ·cases h
   obtain⟨rfl,_⟩:=hz
   exact(rfl:[Value.nilIface]=_)
  ·cases h
   show AJ σ'.w σ'.S .ifc _ [y]
   rw[hc.w,hc.S];exact hz
  ·cases h
 |.sl τ,z,d,y,h,hz=>by
  have key:∀{τ':Shape} {xs:List (Ab τ')},CX τ' τ xs=some d->AJ σ.w σ.S (.slice τ') xs [y]->AJ σ'.w σ'.S (.slice τ) d [y]:=fun hcast hd=>by
   have:=aDf hcast hd
   rw[hc.w,hc.S];exact this
  simp only[EJ]at h
  split at h
  ·exact key h hz
  ·cases h
   obtain⟨rfl,_⟩:=hz
   exact uY τ
  ·split at h
   ·rename_i b' τ' xs e
    obtain⟨_,_,hz⟩:=hz
    rw[e]at hz
    exact key h hz
   ·cases h
  ·cases h
 |.fl k,z,d,y,h,hz=>by
  simp only[EJ]at h
  split at h
  ·split at h
   ·rename_i k' o hk;subst hk;cases h;exact hz
   ·cases h
  ·cases h
 |.cx k,z,d,y,h,hz=>by
  simp only[EJ]at h
  split at h
  ·split at h
   ·rename_i k' x1 x2 hk;subst hk;cases h;exact hz
   ·cases h
  ·cases h
 |.own b,z,d,y,h,hz=>by
  simp only[EJ]at h
  split at h
  ·rename_i b'
   obtain⟨hb,_⟩:=AK h
   simp only[ar]at hb
   have:b'=b:=av hb.1
   subst this
   obtain⟨h1,h2,h3⟩:=hz
   refine⟨by simpa using hb.2,h2,?_⟩
   have hr:=hc.rel b'
   unfold GI at hr
   cases e:Ac σ'.mem b' with
   |gone=>trivial
   |raw cs=>trivial
   |arr τ xs=>rw[e]at hr;rw[hr]at h3;simp only at h3⊢;rw[hc.E];exact h3
   |acc τ xs=>rw[e]at hr;rw[hr]at h3;simp only at h3⊢;rw[hc.E];exact h3
   |froz τ xs=>rw[e]at hr;rw[hr]at h3;simp only at h3⊢;rw[hc.w,hc.S];exact h3
   |itr s p=>trivial
  ·cases h
 |.ptr b off,z,d,y,h,hz=>by
  simp only[EJ]at h
  split at h
  ·rename_i b' off'
   obtain⟨hb,_⟩:=AK h
   simp only[ar]at hb
   have:b'=b:=av hb.1.1
   subst this
   have:off'=off:=av hb.1.2
   subst this
   obtain⟨h1,h2,h3⟩:=hz
   refine⟨by simpa using hb.2,h2,?_⟩
   have hr:=hc.rel b'
   unfold GI at hr
   cases e:Ac σ'.mem b' with
   |gone=>trivial
   |raw cs=>rw[e]at hr;obtain⟨cs',hr⟩:=hr;rw[hr]at h3;simp only at h3⊢;rw[hc.E];exact h3
   |arr τ xs=>rw[e]at hr;rw[hr]at h3;simp only at h3⊢;rw[hc.E];exact h3
   |acc τ xs=>trivial
   |froz τ xs=>trivial
   |itr s p=>rw[e]at hr;rw[hr]at h3;simp only at h3⊢;rw[hc.E];exact h3
  ·cases h
 |.gptr g,z,d,y,h,hz=>by
  simp only[EJ]at h
  split at h
  ·rename_i g'
   have:g'=g:=av (AK h).1
   subst this
   exact hz
  ·cases h
 |.fn f,z,d,y,h,hz=>by
  simp only[EJ]at h
  split at h
  ·rename_i f'
   have:f'=f:=av (AK h).1
   subst this
   obtain⟨_,h2,h1⟩:=hz
   rcases h1 with⟨p,hp,_⟩|⟨rs,h1,rfl⟩
   ·simp at hp
   ·exact⟨by simp,h2,.inr ⟨rs,h1,rfl⟩⟩
  ·cases h
 |.nilp,z,d,y,h,hz=>by
  simp only[EJ]at h
  split at h
  ·cases h;exact hz
  ·cases h
 |.undef,z,d,y,h,hz=>hz.scalar
 |.sub b,z,d,y,h,hz=>by
  simp only[EJ]at h
  split at h
  ·rename_i b' lo n
   obtain⟨hb,h⟩:=AK h
   simp only[ar]at hb
   have:b'=b:=av hb.1
   subst this
   cases h
   obtain⟨h1,h2,h3⟩:=hz
   refine⟨by simpa using hb.2,h2,?_⟩
   have hr:=hc.rel b'
   unfold GI at hr
   cases e:Ac σ'.mem b' with
   |gone=>trivial
   |raw cs=>trivial
   |arr τ xs=>rw[e]at hr;rw[hr]at h3;simp only at h3⊢;rw[hc.E];exact h3
   |acc τ xs=>trivial
   |froz τ xs=>trivial
   |itr s p=>trivial
  ·cases h
theorem aZO(hc:Cut σ σ'){c:SC}{y:Value}(hlt:∀b,ZN b c=true->b<σ'.mem.length)(hz:Aw σ c y):Aw σ' c y:=by
 cases c with
 |undef=>exact hz
 |v x=>exact hz
 |fl k o=>exact hz
 |sl τ xs=>simp only[Aw];rw[hc.w,hc.S];exact hz
 |own b=>
  obtain⟨h1,h2,h3⟩:=hz;refine⟨hlt b (fg b),h2,?_⟩;have hr:=hc.rel b;unfold GI at hr;cases e:Ac σ'.mem b with
  |gone=>trivial
  |raw cs=>trivial
  |arr τ xs=>rw[e]at hr;rw[hr]at h3;simp only at h3⊢;rw[hc.E];exact h3
  |acc τ xs=>rw[e]at hr;rw[hr]at h3;simp only at h3⊢;rw[hc.E];exact h3
  |froz τ xs=>rw[e]at hr;rw[hr]at h3;simp only at h3⊢;rw[hc.w,hc.S];exact h3
  |itr s p=>trivial
 |ptr b off=>
  obtain⟨h1,h2,h3⟩:=hz;refine⟨hlt b (fg b),h2,?_⟩;have hr:=hc.rel b;unfold GI at hr;cases e:Ac σ'.mem b with
  |gone=>trivial
  |raw cs=>rw[e]at hr;obtain⟨cs',hr⟩:=hr;rw[hr]at h3;simp only at h3⊢;rw[hc.E];exact h3
  |arr τ xs=>rw[e]at hr;rw[hr]at h3;simp only at h3⊢;rw[hc.E];exact h3
  |acc τ xs=>trivial
  |froz τ xs=>trivial
  |itr s p=>rw[e]at hr;rw[hr]at h3;simp only at h3⊢;rw[hc.E];exact h3
 |eptr b i off=>
  obtain⟨h1,h2,h3⟩:=hz;refine⟨hlt b (fg b),h2,?_⟩;have hr:=hc.rel b;unfold GI at hr;cases e:Ac σ'.mem b with
  |arr τ xs=>rw[e]at hr;rw[hr]at h3;simp only at h3⊢;rw[hc.E];exact h3
  |_=>trivial
 |sub b lo n=>
  obtain⟨h1,h2,h3⟩:=hz;refine⟨hlt b (fg b),h2,?_⟩;have hr:=hc.rel b;unfold GI at hr;cases e:Ac σ'.mem b with
  |arr τ xs=>rw[e]at hr;rw[hr]at h3;simp only at h3⊢;rw[hc.E];exact h3
  |_=>trivial
 |iptr τ x off=>simp only[Aw];rw[hc.w,hc.S];exact hz
 |gptr g=>exact hz
 |fnv o=>simp only[Aw];rw[hc.w,hc.S];exact hz
 |ifv o=>simp only[Aw];rw[hc.w,hc.S];exact hz
 |cx k x y=>exact hz
 |fn f caps=>
  obtain⟨h1,h2,h3⟩:=hz;refine⟨fun p hp=>hlt p.1 (by simp only[ZN,qp];exact⟨p,hp,fg p.1⟩),h2,?_⟩;by_cases hall:∀p∈caps,∃cs,Ac σ'.mem p.1=.raw cs
  ·rcases h3 with⟨p,hp,hq⟩|⟨rs,g1,g2⟩
   ·obtain⟨cs,e⟩:=hall p hp;have hr:=hc.rel p.1;unfold GI at hr;rw[e]at hr;obtain⟨cs',hr⟩:=hr;rw[hr]at hq;exact hq.elim
   ·refine .inr ⟨rs,?_,g2⟩;rw[←g1,hc.E]
  ·refine .inl ?_;obtain⟨p,hp⟩:=jo.1 hall;obtain⟨hp,hn⟩:=ki.1 hp;refine⟨p,hp,?_⟩;cases e:Ac σ'.mem p.1 with
   |raw cs=>exact absurd ⟨cs,e⟩ hn
   |_=>trivial
theorem aEI(hc:Cut σ σ'):∀{l:List PC} {zs:List SC} {d:Xn l} {ys:List Value},WW σ.mem σ'.mem.length l zs=some d->All2 (Aw σ) zs ys->All2 (Aw σ') (tJ l d) ys
 | [],[],_,_,_,.nil=>.nil
 | [],_::_,_,_,h,_=>by simp[WW]at h
 |_::_,[],_,_,h,_=>by simp[WW]at h
 |c::r,z::zs,d,_,h,.cons h1 h2=>by
  simp only[WW]at h
  split at h
  ·rename_i e1 e2
   cases h
   exact .cons (aQx hc e1 h1) (aEI hc e2 h2)
  ·cases h
theorem bGP(hc:Cut σ σ'){v:PV}{x:TV}{d:v.D}{y:Value}(h:aEK σ.mem σ'.mem.length v x=some d)(hx:BB σ x y):Bv σ' (aM5 v d) y:=by
 unfold aEK at h;split at h
 ·exact aQx hc h hx
 ·obtain⟨ys,e,ha⟩:=hx;exact⟨ys,e,aEI hc h ha⟩
 ·cases h
theorem aQz(hc:Cut σ σ'){s:St}(hm:σ.mem=s.mem){ys:Nat->Value}(ht:∀t,BB σ (Bt s.tm t) (ys t)):∀{l:List (Nat×PV)} {d:aQ l},vK s σ'.mem.length l=some d->∀t,BB σ' (Bt (tK l d) t) (ys t)
 | [],_,_,t=>trivial
 |(n,v)::r,d,h,t=>by
  simp only[vK]at h
  split at h
  ·rename_i e1 e2
   cases h
   simp only[tK,Bt]
   cases hb:Nat.beq n t with
   |true=>
    have:=av hb
    subst this
    rw[←hm]at e1
    exact bGP hc e1 (ht n)
   |false=>exact aQz hc hm ht e2 t
  ·cases h
theorem aM4:∀{l:List PB} {d:Xo l},(Yl l d).length=l.length
 | [],_=>rfl
 |_::r,d=>by simp[Yl,aM4]
theorem aQy{mem:Ae}{len:Nat}:∀{l:List PB} {zs:List Blk} {d:Xo l},iT mem len l zs=some d->∀b,b<l.length->∃(p:PB) (z:Blk) (x:p.D),zs[b]? = some z/\Z0 mem len p z=some x/\(Yl l d)[b]? = some (LD p x)
 | [],_,_,_,b,hb=>by simp at hb
 |p::r,[],_,h,b,hb=>by simp[iT]at h
 |p::r,z::zs,d,h,b,hb=>by
  simp only[iT]at h
  split at h
  ·rename_i x xs e1 e2
   cases h
   cases b with
   |zero=>exact⟨p,z,x,rfl,e1,rfl⟩
   |succ b=>
    obtain⟨p',z',x',h1,h2,h3⟩:=aQy e2 b (by simpa using hb)
    exact⟨p',z',x',h1,h2,h3⟩
  ·cases h
theorem bGN{mem:Ae}{len:Nat}{p:PB}{z:Blk}{x:p.D}(h:Z0 mem len p z=some x):GI z (LD p x):=by
 unfold Z0 at h;split at h
 ·trivial
 ·exact⟨_,rfl⟩
 ·have:=aDg h;simp only[Sigma.mk.injEq]at this;obtain⟨rfl,h2⟩:=this;cases h2;rfl
 ·have:=aDg h;simp only[Sigma.mk.injEq]at this;obtain⟨rfl,h2⟩:=this;cases h2;rfl
 ·have:=aDg h;simp only[Sigma.mk.injEq]at this;obtain⟨rfl,h2⟩:=this;cases h2;rfl
 ·cases h;rfl
 ·cases h
theorem vJ{base:Base}{S0:Nat->Prop}{s:St}{a:Act}(ho:Ok base S0 σ)(hr:RelT σ s a){p:Pat}{x:p.D}{m:Nat}(h:H5 p s m=some x):
  ∃σ':Sit,σ'.w=σ.w/\Cut σ σ'/\Ok base S0 σ'/\RelT σ' (Pj p x m) a/\m<=σ'.mem.length:=by
 unfold H5 at h;obtain⟨hb,h⟩:=AK h;simp only[ar]at hb;split at h
 ·rename_i x1 x2 e1 e2;cases h;let σ':Sit:={σ with mem:=Yl p.mem x2}
  have hlen:σ'.mem.length=p.mem.length:=aM4;have hat:∀b,b<p.mem.length->∃(q:PB) (x:q.D),Z0 σ.mem σ'.mem.length q (Ac σ.mem b)=some x/\Ac σ'.mem b=LD q x:=fun b hb=>by
   obtain⟨q,z,x,h1,h2,h3⟩:=aQy e2 b hb;refine⟨q,x,?_,?_⟩
   ·rw[hr.mem,hlen];unfold Ac;rw[h1];exact h2
   ·unfold Ac;rw[h3];rfl
  have hout:∀b,¬b<p.mem.length->Ac σ'.mem b=.gone:=fun b hb=>aYG (by rw[hlen];omega);have hc:Cut σ σ':=⟨rfl,rfl,rfl,fun b=>by
   by_cases hb:b<p.mem.length
   ·obtain⟨q,x,h1,h2⟩:=hat b hb;rw[h2];exact bGN h1
   ·rw[hout b hb];trivial⟩
  have howned:∀b r,σ'.owned b r->σ.owned b r:=fun b r h=>by
   obtain⟨h1,h2⟩:=h;refine⟨?_,h2⟩;have hrel:=hc.rel b;unfold GI at hrel;cases e:Ac σ'.mem b with
   |gone=>rw[e]at h1;exact h1.elim
   |raw cs=>rw[e]at hrel;obtain⟨cs',h⟩:=hrel;rw[h];trivial
   |arr τ xs=>rw[e]at hrel;rw[hrel];trivial
   |acc τ xs=>rw[e]at hrel;rw[hrel];trivial
   |froz τ xs=>rw[e]at h1;exact h1.elim
   |itr s p=>rw[e]at hrel;rw[hrel];trivial
  refine⟨σ',rfl,hc,⟨ho.below,ho.stab0,ho.stab,fun b=>?_,fun b r h=>ho.own b r (howned b r h),fun b b' r h h'=>ho.inj b b' r (howned b r h) (howned b' r h')⟩,?_,by rw[hlen];simpa using hb.2⟩
  ·have hent:=ho.ent b;unfold AE at hent⊢;have hrel:=hc.rel b;unfold GI at hrel;cases e:Ac σ'.mem b with
   |gone=>trivial
   |froz τ xs=>trivial
   |itr s p=>rw[e]at hrel;rw[hrel]at hent;exact hent
   |arr τ xs=>rw[e]at hrel;rw[hrel]at hent;exact hent
   |acc τ xs=>rw[e]at hrel;rw[hrel]at hent;exact hent
   |raw cs=>
    have hb:b<p.mem.length:=Classical.byContradiction fun hb=>by rw[hout b hb]at e;cases e
    obtain⟨q,x,h1,h2⟩:=hat b hb;rw[e]at h2;rw[e]at hrel;obtain⟨cs',hcs⟩:=hrel;rw[hcs]at hent h1;obtain⟨r,vs,T,g1,g2,g3⟩:=hent;cases q with
    |raw l=>
     simp only[Z0]at h1;simp only[LD,Blk.raw.injEq]at h2;subst h2;exact⟨r,vs,T,g1,g2,aEI hc h1 g3⟩
    |gone=>simp[LD]at h2
    |arr τ=>simp[LD]at h2
    |acc τ=>simp[LD]at h2
    |froz τ=>simp[LD]at h2
    |itr=>simp[LD]at h2
  ·refine⟨?_,hr.defers,rfl,fun t=>?_,fun d g q y hm=>by simp[Pj]at hm⟩
   ·rw[hr.size];exact av hb.1.1
   ·rw[←hlen]at e1;exact aQz hc hr.mem hr.tm e1 t
 ·cases h
theorem bGO{p:Pat}{s:St}{x:p.D}{m:Nat}(h:H5 p s m=some x):s.m0=m:=by
 unfold H5 at h;have:=(AK h).1;simp only[ar]at this;exact av this.1.2
theorem uE{base:Base}{S0:Nat->Prop}{a:Act}{σ:Sit}{s:St}(ho:Ok base S0 σ)(hr:RelT σ s a)(hcs:s.cs=[])(x:Operand):∃σ':Sit,σ'.w=σ.w/\Ok base S0 σ'/\Goes σ σ'/\RelT σ' (Ga s x) a/\(Ga s x).m0=s.m0/\(Ga s x).cs=[]:=by
 have same:∃σ':Sit,σ'.w=σ.w/\Ok base S0 σ'/\Goes σ σ'/\RelT σ' s a/\s.m0=s.m0/\s.cs=[]:=⟨σ,rfl,ho,Goes.refl σ,hr,rfl,hcs⟩
 cases x with
 |tmp t=>
  unfold Ga;dsimp only;split
  ·rename_i b e;cases hf:Do s.mem (.own b)with
   |mk c m=>
    dsimp only;rw[←hr.mem]at hf;obtain⟨σ1,a1,a2,a3,a4,a5,a6⟩:=Va ho hf;refine⟨σ1,a2,a4,a5,⟨hr.size,hr.defers,a1,fun t'=>?_,fun d g p y hm=>by rw[hcs]at hm;simp at hm⟩,rfl,hcs⟩;simp only[Bt];cases hb:Nat.beq t t' with
    |false=>exact a5.repT (hr.tm t')
    |true=>
     have:=av hb;subst this;have h1:=hr.tm t;rw[e]at h1;exact a6 _ h1
  ·exact same
 |_=>exact same
theorem fA{base:Base}{S0:Nat->Prop}{a:Act}:∀(l:List (Nat×Shape)) {σ:Sit} {s:St},Ok base S0 σ->RelT σ s a->s.cs=[]->∃σ':Sit,σ'.w=σ.w/\Ok base S0 σ'/\Goes σ σ'/\RelT σ' (Lz l s) a/\(Lz l s).m0=s.m0
 | [],σ,s,ho,hr,_=>⟨σ,rfl,ho,Goes.refl σ,hr,rfl⟩
 |(t,τ)::r,σ,s,ho,hr,hcs=>by
  unfold Lz
  split
  ·obtain⟨σ1,a1,a2,a3,a4,a5,a6⟩:=uE ho hr hcs (.tmp t)
   obtain⟨σ',h1,h2,h3,h4,h5⟩:=fA r a2 a4 a6
   exact⟨σ',h1.trans a1,h2,a3.trans h3,h4,h5.trans a5⟩
  split
  ·rename_i e
   have hg:=uT σ (.acc τ [])
   have hr':RelT (σ.name (.acc τ [])) {s with tm:=(t,.val (.one (.own s.mem.length)))::s.tm,mem:=s.mem++[.acc τ []] } a:=by
    refine⟨hr.size,hr.defers,by simp[Sit.name,hr.mem],fun t'=>?_,fun d g p x hm=>by rw[hcs]at hm;simp at hm⟩
    simp only[Bt]
    cases hb:Nat.beq t t' with
    |false=>exact hg.repT (hr.tm t')
    |true=>
     have:=av hb
     subst this
     have h1:=hr.tm t
     rw[e]at h1
     obtain⟨h1,_⟩:=h1
     rw[h1]
     refine⟨by simp[Sit.name,hr.mem],ak,?_⟩
     rw[←hr.mem]
     simp only[Sit.name,Ex]
     simp[AI]
   obtain⟨σ',h1,h2,h3,h4,h5⟩:=fA r (aEk ho τ) hr' hcs
   exact⟨σ',h1,h2,hg.trans h3,h4,h5⟩
  ·exact fA r ho hr hcs
theorem sT{σ0 σ σ':Sit}(hA:Adv σ0 σ)(hc:Cut σ σ')(hlen:σ0.mem.length<=σ'.mem.length):Adv σ0 σ':=by
 refine⟨fun r hr=>by rw[hc.S];exact hA.stab r hr,fun r hr=>by rw[hc.w];exact hA.heap r hr,fun c y hz=>?_,hlen,fun b hb ha=>hA.noacc b hb ?_⟩
 ·have h1:=hA.rep c y hz;refine aZO hc (fun b hb=>az ?_ hlen) h1;cases c with
  |own b' =>
   rcases Wn (mem:=σ0.mem) (b:=b')with⟨e,_⟩|⟨e,_⟩
   ·rw[e]at hb;cases hb
   ·rw[e]at hb;have:b'=b:=av hb;subst this;exact hz.1
  |ptr b' off=>have:b'=b:=av hb;subst this;exact hz.1
  |eptr b' i off=>have:b'=b:=av hb;subst this;exact hz.1
  |sub b' lo n=>have:b'=b:=av hb;subst this;exact hz.1
  |fn f caps=>
   have hb:(caps.any fun p=>Nat.beq p.1 b)=true:=hb;rw[qp]at hb;obtain⟨p,hp,e⟩:=hb;have:p.1=b:=av e;subst this;exact hz.1 p hp
  |undef=>cases hb
  |v x=>cases hb
  |fl k o=>cases hb
  |sl τ xs=>cases hb
  |iptr τ x off=>cases hb
  |gptr g=>cases hb
  |fnv o=>cases hb
  |ifv o=>cases hb
  |cx k x y=>cases hb
 ·have hr:=hc.rel b;unfold GI at hr;cases e:Ac σ'.mem b with
  |acc τ xs=>rw[e]at hr;rw[hr];trivial
  |_=>rw[e]at ha;exact ha.elim
end Vx
namespace Vx
open Go Go.RowKit
def kU(C:Cfg)(d:Nat)(fid:FuncId)(body:Code)(sp:LoopSpec):Prop:=∀(R:Type) (ke:Nat->St->Option R) (kr:St->Option R) (r:R) (x:sp.pat.D),sp.run x ke kr=some r->∃n,C3 (WB C d fid body sp ke kr) n x=some r
def MM(C:Cfg):Prop:=∀fid k sp,C.loop fid k=some sp->∀fn whole,C.P.funcs[fid]? = some fn->fn.body=some whole->∀body∈CS whole,Dq body=k->∀d,kU C (d+2) fid body sp
variable {C:Cfg}{base:Base}{S0:Nat->Prop}{R:Type}{r:R}
theorem aQL{d:Nat}{fid:FuncId}{body:Code}{sp:LoopSpec}{σ0:Sit}(h0:σ0.mem.length=sp.m0){kn:St->Option R}{ke:Nat->St->Option R}{kr:St->Option R}
  (hbody:∀(σ:Sit) (s:St) (a:Act) (kn':St->Option R) (ke':Nat->St->Option R) (kr':St->Option R),Ok base S0 σ->Adv σ0 σ->RelT σ s a->s.m0=σ0.mem.length ->
   Dn C (JN C d) true fid body s kn' ke' kr'=some r->body.wp C.P (HE base S0 σ0 r kn' ke' kr') a σ.w) :
  ∀(n:Nat) (x:sp.pat.D) (σ:Sit) (a:Act),Ok base S0 σ->Adv σ0 σ->RelT σ (Pj sp.pat x sp.m0) a->C3 (WB C d fid body sp ke kr) n x=some r->Code.rounds C.P body (HE base S0 σ0 r kn ke kr) n a σ.w
 |0,_,_,_,_,_,_,h=>by simp[C3]at h
 |n+1,x,σ,a,ho,hA,hr,h=>by
  simp only[C3]at h
  unfold WB at h
  have:=hbody σ _ a _ _ _ ho hA hr (by rw[h0];rfl) h
  rw[rounds_succ]
  refine wp_mono this fun e a' w' hp=>?_
  obtain⟨σ',s',rfl,k2,k3,k4,k5,k6⟩:=hp
  cases e with
  |normal=>
   simp only at k6
   split at k6
   ·rename_i y ey
    obtain⟨σ1,g1,g2,g3,g4,g5⟩:=fA sp.accs k2 k4.clear rfl
    obtain⟨σ2,q1,q2,q3,q4,q5⟩:=vJ g2 g4 ey
    have hA2:Adv σ0 σ2:=sT (k3.trans g3.adv) q2 (by rw[h0];exact q5)
    have:=aQL (kn:=kn) h0 hbody n y σ2 a' q3 hA2 q4 k6
    rw[q1,g1]at this
    exact this
   ·cases k6
  |exit id=>
   simp only at k6
   unfold ZT at k6
   split at k6
   ·split at k6
    ·rename_i y ey
     obtain⟨σ2,q1,q2,q3,q4,q5⟩:=vJ k2 k4 ey
     exact⟨σ2,_,q1,q3,sT k3 q2 (by rw[h0];exact q5),q4,by rw[h0];rfl,k6⟩
    ·cases k6
   ·cases k6
  |ret=>
   simp only at k6
   unfold vB at k6
   split at k6
   ·split at k6
    ·rename_i y ey
     obtain⟨σ2,q1,q2,q3,q4,q5⟩:=vJ k2 k4 ey
     exact⟨σ2,_,q1,q3,sT k3 q2 (by rw[h0];exact q5),q4,by rw[h0];rfl,k6⟩
    ·cases k6
   ·cases k6
  |_=>exact k6.elim
theorem aOn{a:Act}:∀(l:List Operand) {σ:Sit} {s:St},Ok base S0 σ->RelT σ s a->s.cs=[]->∃σ':Sit,σ'.w=σ.w/\Ok base S0 σ'/\Goes σ σ'/\RelT σ' (l.foldl Ga s) a/\(l.foldl Ga s).m0=s.m0/\(l.foldl Ga s).cs=[]
 | [],σ,s,ho,hr,hcs=>⟨σ,rfl,ho,Goes.refl σ,hr,rfl,hcs⟩
 |x::l,σ,s,ho,hr,hcs=>by
  obtain⟨σ1,a1,a2,a3,a4,a5,a6⟩:=uE ho hr hcs x
  obtain⟨σ2,b1,b2,b3,b4,b5,b6⟩:=aOn l a2 a4 a6
  exact⟨σ2,b1.trans a1,b2,a3.trans b3,b4,b5.trans a5,b6⟩
theorem aDR{a:Act}(f:Bool):∀(l:List Oper) {σ:Sit} {s:St},Ok base S0 σ->RelT σ s a->s.cs=[]->∃σ':Sit,σ'.w=σ.w/\Ok base S0 σ'/\Goes σ σ'/\RelT σ' (l.foldl (Ha f) s) a/\(l.foldl (Ha f) s).m0=s.m0/\(l.foldl (Ha f) s).cs=[]
 | [],σ,s,ho,hr,hcs=>⟨σ,rfl,ho,Goes.refl σ,hr,rfl,hcs⟩
 |o::l,σ,s,ho,hr,hcs=>by
  have h1:∃σ':Sit,σ'.w=σ.w/\Ok base S0 σ'/\Goes σ σ'/\RelT σ' (Ha f s o) a/\(Ha f s o).m0=s.m0/\(Ha f s o).cs=[]:=by
   unfold Ha
   split
   ·split
    ·exact aOn _ ho hr hcs
    ·exact⟨σ,rfl,ho,Goes.refl σ,hr,rfl,hcs⟩
   ·cases f
    ·exact⟨σ,rfl,ho,Goes.refl σ,hr,rfl,hcs⟩
    ·exact uE ho hr hcs _
   ·cases f
    ·exact⟨σ,rfl,ho,Goes.refl σ,hr,rfl,hcs⟩
    ·exact uE ho hr hcs _
   ·exact⟨σ,rfl,ho,Goes.refl σ,hr,rfl,hcs⟩
  obtain⟨σ1,a1,a2,a3,a4,a5,a6⟩:=h1
  obtain⟨σ2,b1,b2,b3,b4,b5,b6⟩:=aDR f l a2 a4 a6
  exact⟨σ2,b1.trans a1,b2,a3.trans b3,b4,b5.trans a5,b6⟩
theorem aNH(hP:ProgOk C){inl:FuncId->List SV->Ae->(List SV->Ae->Option R)->Option R}(hI:Xm C inl){σ0:Sit}(hG0:GlobsOk C.globs σ0.w σ0.S){id:Nat}{ops:Array Oper}{n k:Nat}
  {σ:Sit} {s:St} {a:Act} {kn:St->Option R} {ke:Nat->St->Option R} {kr:St->Option R} (ho:Ok base S0 σ) (hA:Adv σ0 σ) (hr:RelT σ s a) (hm:s.m0=σ0.mem.length) (h:tX C inl ops.toList n k s kn=some r) :
  (Code.region id ops true).wp C.P (HE base S0 σ0 r kn ke kr) a σ.w:=by
 unfold tX at h;obtain⟨hc,h⟩:=AK h;simp only[ar]at hc;obtain⟨⟨⟨_,hn⟩,hal⟩,hnd⟩:=hc;have hn:n+k<=ops.size:=by
  have:=kc hn;simpa using this
 split at h
 ·rename_i fps gs s' he;obtain⟨hd,h⟩:=AK h;simp only[ar]at hd;obtain⟨hgs,h⟩:=aDl h;split at h
  ·rename_i s2 hs2;obtain⟨σf,f1,f2,f3,f4,f5,f6⟩:=aDR false (ops.toList.take n) ho (aZB (ds:=F7 ((ops.toList.drop n).take k)) hr.clear) rfl;rw[←f1];have hlen:(ops.toList.take n).length=n:=by simp;omega
   obtain⟨S,xs,fs,h0,h1,h2,h3⟩:=aFa _ _ _ _ _ he hgs;have hR:Reg C (ops.toList.take n) _ S xs fs:=⟨⟨fps,hd.1,h0⟩,⟨h1,h3⟩,f6⟩
   rw[hlen]at h2;have hparts:=hR.parts n (by rw[hlen];exact ci _);rw[h2]at hparts;have hget:∀j,j<k->((ops.toList.drop n).take k)[j]? = ops[n+j]?:=fun j hj=>by
    rw[di hj,fe];simp
   have hfacts:=aL8 σf hs2 hal;have hAl:Allocs C ops ((ops.toList.take n).foldl (Ha false) (Yn (F7 ((ops.toList.drop n).take k)) {s with cs:=[] })) n k:=by
    refine⟨fun j hj=>?_,fun i i' o o' d hi hi' hio hio' hd hd' _=>?_⟩
    ·have hj2:ops[n+j]? = some (ops[n+j]'(by omega)):=by simp[show n+j<ops.size by omega]
     obtain⟨d,T,zv,g1,g2,g3,g4,g5,g6⟩:=hfacts j _ ((hget j hj).trans hj2);refine⟨_,d,T,zv,hj2,g1,g2,g3,g4,aOp _ ((aDm d).1 (t5 ((hget j hj).trans hj2) g3)),?_,g6⟩;rw[←hparts.1];exact g5
    ·refine aPS (l:=ops.toList.take (n+k)) hnd ?_ ?_ hd hd'
     ·rw[di hi];simpa using hio
     ·rw[di hi'];simpa using hio'
   obtain⟨k1,k2⟩:=aEv (n:=σf.w.drawn+1) f2;have hstart:=Inv.start hR k1 (show RelT _ _ a from⟨f4.size,f4.defers,f4.mem,fun t=>BB.keep k2.moves.rep (f4.tm t),fun d g p x hm=>⟨fun h=>BB.keep k2.moves.rep ((f4.cs d g p x hm).1 h),(f4.cs d g p x hm).2⟩⟩);have hAdv:Adv σ0 {σf with w:={σf.w with drawn:=σf.w.drawn+1} }:=(hA.trans f3.adv).trans k2.adv;have key:wpAny C.P .any ops (HE base S0 σ0 r (fun s''=>kn {s'' with cs:=[] }) ke kr) ops.size (kp ops.size false) a {σf.w with drawn:=σf.w.drawn+1}:=by
    refine aZ4 (S0:=S0) (base:=base) hP.sums hn hR hAl hd.2 (hG0.adv hAdv) (fun σ' a' b q q1 q2 q3 q4 q5=>?_) ops.size (kp ops.size false) {σf with w:={σf.w with drawn:=σf.w.drawn+1} } a base (fun _=>0) (by simp) ?_ (fun i _=>by simp[jm]) Sub.refl ?_ ?_
    ·rw[h2]at q4;obtain⟨σ2,m1,m2,m3,m4,m5⟩:=aPO (q:=q) ((ops.toList.drop n).take k) 0 (q1.back q2) q4.clear hs2 (fun j o ho=>by
      have hj:j<k:=by
       have:=(bp.1 ho).1;simp at this;omega
      rw[hget j hj]at ho;obtain⟨o',d,T,zv,g1,g2,g3,g4,g5,g6,g7⟩:=q5.1 j hj trivial;have:o'=o:=by rw[g1]at ho;cases ho;rfl
      subst this;obtain⟨u1,u2⟩:=g7.here q2;rw[dj];refine⟨T,d,zv,g2,g3,g4,g5,⟨g6,u1,fun hs=>?_,fun c hc=>g7.old (q2.own c _ hc).1⟩,u2⟩;rcases(q2.stab _ hs).2 with h' | h'
      ·exact g7.s0 h'
      ·exact g7.old h') (fun j j' hj hj' hq=>by
      have e:((ops.toList.drop n).take k).length=k:=by simp;omega
      rw[dj,dj]at hq;exact q5.2 j j' (by omega) (by omega) trivial trivial hq)
     rw[←m1];exact Vm hP hI ops (kn:=fun s''=>kn {s'' with cs:=[] }) (ke:=ke) (kr:=kr) hG0 _ m2 ((hAdv.trans q3).trans m3.adv) m4 ((m5.trans (hparts.2.trans f5)).trans hm) h
    ·refine gb (ou) ?_;simp
    ·have:(fun i=>i<n/\(kp ops.size false).getD i false=true)=fun _=>False:=funext fun i=>by
      simp[jm]
     rw[this];exact hstart
    ·refine⟨fun j _ hL=>?_,fun j j' _ _ hL=>?_⟩
     ·simp[jm]at hL
     ·simp[jm]at hL
   refine wp_mono (wp_region_any hP.mixed key) fun e a' w' hp=>?_;obtain⟨σ',s',k1,k2,k3,k4,k5,k6⟩:=hp;cases e with
   |normal=>exact⟨σ',{s' with cs:=[] },k1,k2,k3,k4.clear,k5,k6⟩
   |exit id=>exact⟨σ',s',k1,k2,k3,k4,k5,k6⟩
   |ret=>exact⟨σ',s',k1,k2,k3,k4,k5,k6⟩
   |_=>exact k6.elim
  ·cases h
 ·cases h
theorem U6(hP:ProgOk C)(hL:MM C){inl:FuncId->List SV->Ae->(List SV->Ae->Option R)->Option R}(hI:Xm C inl){lp:Bool}(hlp:lp=true->∃d,inl=JN C (d+2))
  {σ0:Sit} (hG0:GlobsOk C.globs σ0.w σ0.S) {fid:FuncId} {fn:Func} {whole:Code} (hf:C.P.funcs[fid]? = some fn) (hb:fn.body=some whole) :
  ∀(c:Code),(∀b∈CS c,b∈CS whole)->∀(σ:Sit) (s:St) (a:Act) (kn:St->Option R) (ke:Nat->St->Option R) (kr:St->Option R),Ok base S0 σ->Adv σ0 σ->RelT σ s a->s.m0=σ0.mem.length ->
   Dn C inl lp fid c s kn ke kr=some r->c.wp C.P (HE base S0 σ0 r kn ke kr) a σ.w
 |.skip,_,σ,s,a,kn,ke,kr,ho,hA,hr,hm,h=>wp_skip ⟨σ,s,rfl,ho,hA,hr,hm,h⟩
 |.exit id,_,σ,s,a,kn,ke,kr,ho,hA,hr,hm,h=>wp_exit ⟨σ,s,rfl,ho,hA,hr,hm,h⟩
 |.ret,_,σ,s,a,kn,ke,kr,ho,hA,hr,hm,h=>wp_ret ⟨σ,s,rfl,ho,hA,hr,hm,h⟩
 |.region id ops false,_,σ,s,a,kn,ke,kr,ho,hA,hr,hm,h=>by
  simp only[Dn]at h
  refine wp_mono (wp_region_list (Vm hP hI ops (ke:=ke) (kr:=kr) hG0 ops.toList ho hA hr.clear hm h)) fun e a' w' hp=>?_
  obtain⟨σ',s',k1,k2,k3,k4,k5,k6⟩:=hp
  cases e with
  |normal=>exact⟨σ',{s' with cs:=[] },k1,k2,k3,k4.clear,k5,k6⟩
  |exit id=>exact⟨σ',s',k1,k2,k3,k4,k5,k6⟩
  |ret=>exact⟨σ',s',k1,k2,k3,k4,k5,k6⟩
  |_=>exact k6.elim
 |.region id ops true,_,σ,s,a,kn,ke,kr,ho,hA,hr,hm,h=>by
  simp only[Dn]at h
  generalize aNG C ops.toList s=nf at h
  obtain⟨n,f⟩:=nf
  simp only at h
  split at h
  ·rename_i fps gs s' he
   cases hd:(Nat.ble n ops.toList.length&&(ZR (ops.toList.take n) fps&&PW (ops.toList.take n) n (ops.toList.drop n)))with
   |false=>
    rw[hd]at h
    exact aNH hP hI hG0 ho hA hr hm h
   |true=>
    rw[hd]at h
    simp only[aa]at h
    simp only[ar]at hd
    obtain⟨hgs,h⟩:=aDl h
    obtain⟨σf,f1,f2,f3,f4,f5,f6⟩:=aDR f (ops.toList.take n) ho hr.clear rfl
    rw[←f1]
    refine wp_mono (aZ5 hP (by have:=hd.1;simpa using this) hd.2.1 hd.2.2 he hgs f6 f2 f4 (hG0.adv (hA.trans f3.adv)) fun σ' a' k1 k2 k3 k4=>
     Vm hP hI ops (kn:=fun s''=>kn {s'' with cs:=[] }) (ke:=ke) (kr:=kr) hG0 _ k1 ((hA.trans f3.adv).trans k2) k3.clear ((k4.trans f5).trans hm) h) fun e a' w' hp=>?_
    obtain⟨σ',s',k1,k2,k3,k4,k5,k6⟩:=hp
    cases e with
    |normal=>exact⟨σ',{s' with cs:=[] },k1,k2,k3,k4.clear,k5,k6⟩
    |exit id=>exact⟨σ',s',k1,k2,k3,k4,k5,k6⟩
    |ret=>exact⟨σ',s',k1,k2,k3,k4,k5,k6⟩
    |_=>exact k6.elim
  ·exact aNH hP hI hG0 ho hA hr hm h
 |.seq c1 c2,hl,σ,s,a,kn,ke,kr,ho,hA,hr,hm,h=>by
  simp only[Dn]at h
  refine wp_seq (wp_mono (U6 hP hL hI hlp hG0 hf hb c1 (fun b hb'=>hl b (by simp[CS,hb'])) σ s a _ ke kr ho hA hr hm h) fun e a' w' hp=>?_)
  cases e with
  |normal=>
   obtain⟨σ',s',rfl,k2,k3,k4,k5,k6⟩:=hp
   exact U6 hP hL hI hlp hG0 hf hb c2 (fun b hb'=>hl b (by simp[CS,hb'])) σ' s' a' kn ke kr k2 k3 k4 k5 k6
  |exit id=>exact hp
  |ret=>exact hp
  |goto l=>exact hp
  |panic ch=>exact hp
  |outgrown=>exact hp
 |.cond c c1 c2,hl,σ,s,a,kn,ke,kr,ho,hA,hr,hm,h=>by
  simp only[Dn]at h
  split at h
  ·rename_i t et
   obtain⟨hv,_⟩:=BJ hr (fun _ _ h=>by simp at h) et
   refine wp_cond (t:=t) hv ?_
   cases t with
   |true=>exact U6 hP hL hI hlp hG0 hf hb c1 (fun b hb'=>hl b (by simp[CS,hb'])) σ s a kn ke kr ho hA hr hm h
   |false=>exact U6 hP hL hI hlp hG0 hf hb c2 (fun b hb'=>hl b (by simp[CS,hb'])) σ s a kn ke kr ho hA hr hm h
  ·cases h
 |.block id c,hl,σ,s,a,kn,ke,kr,ho,hA,hr,hm,h=>by
  simp only[Dn]at h
  refine wp_block (wp_mono (U6 hP hL hI hlp hG0 hf hb c (fun b hb'=>hl b (by simp[CS,hb'])) σ s a kn _ kr ho hA hr hm h) fun e a' w' hp=>?_)
  cases e with
  |normal=>exact hp
  |exit id' =>
   obtain⟨σ',s',k1,k2,k3,k4,k5,k6⟩:=hp
   simp only at k6
   simp only[Exit.inBlock]
   by_cases hid:id'=id
   ·subst hid
    rw[ah rfl]
    rw[fg]at k6
    exact⟨σ',s',k1,k2,k3,k4,k5,k6⟩
   ·rw[ag hid]
    have:Nat.beq id' id=false:=by
     cases hq:Nat.beq id' id with
     |false=>rfl
     |true=>exact absurd (av hq) hid
    rw[this]at k6
    exact⟨σ',s',k1,k2,k3,k4,k5,k6⟩
  |ret=>exact hp
  |goto l=>exact hp
  |panic ch=>exact hp
  |outgrown=>exact hp
 |.loop c,hl,σ,s,a,kn,ke,kr,ho,hA,hr,hm,h=>by
  simp only[Dn]at h
  split at h
  ·have key:∀(n:Nat) (σ:Sit) (s:St) (a:Act),Ok base S0 σ->Adv σ0 σ->RelT σ s a->s.m0=σ0.mem.length->C3 (fun L s'=>Dn C inl lp fid c {s' with cs:=[] } L ke kr) n s=some r->Code.rounds C.P c (HE base S0 σ0 r kn ke kr) n a σ.w:=by
    intro n
    induction n with
    |zero=>intro σ s a ho hA hr hm h;simp[C3]at h
    |succ n ih=>
     intro σ s a ho hA hr hm h
     simp only[C3]at h
     have:=U6 hP hL hI hlp hG0 hf hb c (fun b hb'=>hl b (by simp[CS,hb'])) σ {s with cs:=[] } a _ ke kr ho hA hr.clear hm h
     rw[rounds_succ]
     refine wp_mono this fun e a' w' hp=>?_
     obtain⟨σ',s',rfl,k2,k3,k4,k5,k6⟩:=hp
     cases e with
     |normal=>exact ih σ' s' a' k2 k3 k4 k5 k6
     |exit id=>exact⟨σ',s',rfl,k2,k3,k4,k5,k6⟩
     |ret=>exact⟨σ',s',rfl,k2,k3,k4,k5,k6⟩
     |_=>exact k6.elim
   exact wp_loop_rounds _ (key _ σ s a ho hA hr hm h)
  ·rename_i sp esp
   obtain⟨hlpt,h1⟩:=AK h
   clear h
   split at h1
   ·rename_i x ex
    obtain⟨d,rfl⟩:=hlp hlpt
    subst hlpt
    obtain⟨n,hn⟩:=hL fid _ sp esp fn whole hf hb c (hl c (by simp[CS])) rfl d R ke kr r x h1
    obtain⟨σ1,g1,g2,g3,g4,g5⟩:=fA sp.accs ho hr.clear rfl
    have h0:σ0.mem.length=sp.m0:=by rw[←hm];exact g5.symm.trans (bGO ex)
    obtain⟨σ2,q1,q2,q3,q4,q5⟩:=vJ g2 g4 ex
    have hA2:Adv σ0 σ2:=sT (hA.trans g3.adv) q2 (by rw[h0];exact q5)
    have:=aQL (kn:=kn) h0 (fun σ s a kn' ke' kr'=>U6 hP hL hI hlp hG0 hf hb c (fun b hb'=>hl b (by simp[CS,hb'])) σ s a kn' ke' kr') n x σ2 a q3 hA2 q4 hn
    rw[q1,g1]at this
    exact wp_loop_rounds n this
   ·cases h1
 |.goto _,_,_,_,_,_,_,_,_,_,_,_,h=>by simp[Dn]at h
 |.label _,_,_,_,_,_,_,_,_,_,_,_,h=>by simp[Dn]at h
 |.rangeFunc _ _ _ _,_,_,_,_,_,_,_,_,_,_,_,h=>by simp[Dn]at h
end Vx
namespace Vx
open Go Go.RowKit
variable {C:Cfg}{base:Base}{S0:Nat->Prop}{R:Type}{r:R}{σ:Sit}{s:St}{a:Act}
theorem aOW{P:Program}{T:TypeId}{p:Addr}{w:World}{v:Value}(h:(Instr.loadAt T (.pointer (some p))).run P w=.ok v w):(loadVar T p).run P w=.ok v w:=by
 unfold Instr.loadAt at h;simpa[Instr.sureAddr]using h
def iU(tmps:Array Value)(v:ResultVar):Sem Value:=
 match v with
 |.tmp t=>pure (tmps.getD t undef)
 |.cell c T=>do loadVar T (←asAddr (tmps.getD c undef))
theorem aEJ{P:Program}(ho:Ok base S0 σ)(hr:RelT σ s a):∀{l:List ResultVar} {rs:List SV},Vg P s l=some rs ->
  ∃zs,(l.mapM (iU a.tmps)).run P σ.w=.ok zs σ.w/\All2 (Bv σ) rs zs
 | [],rs,h=>by
  simp only[Vg]at h;cases h
  exact⟨[],by simp,.nil⟩
 |.tmp t::l,rs,h=>by
  simp only[Vg]at h
  split at h
  ·rename_i x rs' e1 e2
   cases h
   obtain⟨zs,h1,h2⟩:=aEJ ho hr e2
   have ht:=hr.tm t
   rw[e1]at ht
   exact⟨_::zs,by simp[iU,h1],.cons ht h2⟩
  ·cases h
 |.cell c T::l,rs,h=>by
  simp only[Vg]at h
  split at h
  ·rename_i z rs' e1 e2
   obtain⟨zs,h1,h2⟩:=aEJ ho hr e2
   have ht:=hr.tm c
   rw[e1]at ht
   have ptr:∀{cs off},Pl σ.mem z=some (cs,off)->∃p,a.tmps.getD c undef=.pointer (some p):=fun hc=>by
    obtain⟨r,o,vs,T',fz,ds,hy,_⟩:=fZ ho ht hc
    exact⟨_,hy⟩
   rw[←hr.mem]at h
   split at h
   ·rename_i cs off hc hT
    split at h
    ·rename_i x hx
     cases h
     obtain⟨p,hp⟩:=ptr hc
     obtain⟨v,hv,hR⟩:=aOX (fZ ho ht hc) hT hx
     rw[hp]at hv
     exact⟨v::zs,by simp[iU,hp,asAddr,aOW hv,h1],.cons hR h2⟩
    ·cases h
   ·rename_i cs off hc hT
    split at h
    ·rename_i x hx
     cases h
     obtain⟨p,hp⟩:=ptr hc
     obtain⟨v,hv,hR⟩:=aOY (fZ ho ht hc) hT (by assumption)
     rw[hp]at hv
     exact⟨v::zs,by simp[iU,hp,asAddr,aOW hv,h1],.cons hR h2⟩
    ·cases h
   ·cases h
  ·cases h
theorem bGW{P:Program}{fn:Func}(ho:Ok base S0 σ)(hr:RelT σ s a){rs:List SV}(h:Vg P s fn.results.toList=some rs):
  ∃zs,(results fn a.tmps).run P σ.w=.ok (DH zs) σ.w/\All2 (Bv σ) rs zs:=by
 obtain⟨zs,h1,h2⟩:=aEJ ho hr h;refine⟨zs,?_,h2⟩;have he:results fn a.tmps=(do
   let vs ←fn.results.mapM (iU a.tmps)
   pure (if h:vs.size=1 then vs[0]else .tuple vs)):=rfl
 rw[he,Array.mapM_eq_mapM_toList];simp only[bind_map_left,Sem.run_bind,h1,Result.andThen_ok,Sem.run_pure];congr 1;unfold DH;split
 ·rename_i hs;simp at hs;match zs,hs with
  | [y],_=>rfl
 ·rename_i hs;split
  ·simp at hs
  ·rfl
theorem aMe:∀{l:List SV} {n t:Nat},Bt (Yh n l) t=(match l[t-n]? with|some x=>if n<=t then .val x else .un|none=>.un)
 | [],n,t=>by simp[Yh,Bt]
 |x::l,n,t=>by
  simp only[Yh,Bt]
  cases hb:Nat.beq n t with
  |true=>have:=av hb;subst this;simp
  |false=>
   have hne:n≠t:=fun e=>by subst e;simp[fg]at hb
   simp only[ab]
   rw[aMe]
   rcases bc n t with hlt|hge
   ·have:t-n=(t-(n+1))+1:=by omega
    rw[this,List.getElem?_cons_succ]
    have h1:n+1<=t:=hlt
    have h2:n<=t:=by omega
    simp only[h1,h2,if_true]
   ·have h0:t-n=0:=by omega
    have h1:¬n+1<=t:=by omega
    have h2:¬n<=t:=by omega
    rw[h0,gv]
    simp only[h1,h2,if_false]
    split<;>rfl
theorem bIo{args:List SV}{ys:List Value}{n m0:Nat}(ha:All2 (Bv σ) args ys)(hn:args.length<=n):
  RelT σ {n:=n,m0:=m0,tm:=Yh 0 args,mem:=σ.mem,cs:=[] } {tmps:=ys.toArray++kp (n-ys.toArray.size) undef,defers:=[] }:=by
 have hlen:=ha.length;refine⟨by simp;omega,rfl,rfl,fun t=>?_,fun d g p x hm=>by simp at hm⟩;rw[aMe];simp only[Nat.sub_zero];cases hx:args[t]? with
 |none=>trivial
 |some x=>
  obtain⟨y,hy,hxy⟩:=ha.get hx;simp only[dv,if_true];have:(ys.toArray++kp (n-ys.toArray.size) undef).getD t undef=y:=by
   have hlt:t<ys.length:=(bp.1 hy).1;rw[fi,Array.getElem?_append_left (by simpa using hlt)];simp[hy]
  rw[this];exact hxy
theorem aCR(hP:ProgOk C)(hL:MM C){inl:FuncId->List SV->Ae->(List SV->Ae->Option R)->Option R}(hI:Xm C inl){lp:Bool}(hlp:lp=true->∃d,inl=JN C (d+2))
  {f:FuncId} {fn:Func} (hf:C.P.funcs[f]? = some fn) {m0:Nat} {args:List SV} {mem:Ae} {k:List SV->Ae->Option R} (h:fM C inl lp f fn m0 args mem k=some r) {ys:List Value}
  {σ0:Sit} (h0:m0=σ0.mem.length) (hA:Adv σ0 σ) (ho:Ok base S0 σ) (hm:σ.mem=mem) (hG:GlobsOk C.globs σ0.w σ0.S) (ha:All2 (Bv σ) args ys) :
  (∃ fn, C.P.funcs[f]? = some fn /\ fn.body.isNone = false /\ (fn.name == "runtime.NumGoroutine") = false) /\
  Calls C.P f ys.toArray σ.w fun e w'=>∃(σ':Sit) (rs:List SV) (zs:List Value),e=.returned (DH zs)/\σ'.w=w'/\Ok base S0 σ'/\Adv σ0 σ'/\All2 (Bv σ') rs zs/\k rs σ'.mem=some r:=by
 unfold fM at h;split at h
 ·rename_i c hc;obtain⟨hb,h⟩:=AK h;simp only[ar,ff]at hb;subst hm;refine⟨⟨fn,hf,by simp[hc],hb.2⟩,?_⟩;refine calls_of_wp hf hc (wp_mono (U6 hP hL hI hlp hG hf hc c (fun _ h=>h) σ _ _ _ _ _ ho hA (bIo ha (by simpa using hb.1)) h0 h) fun e a' w' hp=>?_);obtain⟨σ',s',rfl,k2,k3,k4,k5,k6⟩:=hp;have hfin:CR C.P fn k s'=some r->a'.defers=[]/\∃v,(results fn a'.tmps).run C.P σ'.w=.ok v σ'.w /\
    ∃(σ'':Sit) (rs:List SV) (zs:List Value),Ending.returned v=.returned (DH zs)/\σ''.w=σ'.w/\Ok base S0 σ''/\Adv σ0 σ''/\All2 (Bv σ'') rs zs/\k rs σ''.mem=some r:=fun h=>by
   unfold CR at h;split at h
   ·rename_i rs ers;obtain⟨zs,h1,h2⟩:=bGW k2 k4 ers;exact⟨k4.defers,_,h1,σ',rs,zs,rfl,rfl,k2,k3,h2,by rw[k4.mem];exact h⟩
   ·cases h
  cases e with
  |normal=>exact hfin k6
  |ret=>exact hfin k6
  |exit id=>cases k6
  |_=>exact k6.elim
 ·cases h
theorem aD4(hP:ProgOk C)(hL:MM C):∀d,Xm C (JN (R:=R) C d)
 |0,f,args,mem,k,r,h=>by simp[JN]at h
 |d+1,f,args,mem,k,r,h=>by
  intro base S0 σ ys ho hm hG ha
  simp only[JN]at h
  split at h
  ·rename_i fn hf
   obtain⟨_,h⟩:=AK h
   subst hm
   refine aCR hP hL (aD4 hP hL d) (fun hl=>?_) hf h rfl (Adv.refl σ) ho rfl hG ha
   have:2<=d:=by simpa using hl
   exact⟨d-2,by rw[show d-2+2=d by omega]⟩
  ·cases h
theorem bIn{w:World}{St:Nat->Prop}(M:Nat->Prop)(h:∀q,St q->q<w.heap.size):Ok ⟨w,M⟩ St {E:=⟨fun _=>none,fun _=>0⟩,mem:=[],w:=w,S:=St}:=
 ⟨⟨rfl,rfl,rfl,ci _,fun _ _ _=>rfl⟩,fun _ h=>h,fun r hr=>⟨h r hr,.inl hr⟩,fun b=>by unfold AE;simp[Ac],fun b r hb=>by obtain⟨h1,_⟩:=hb;simp[Ac,LW]at h1,fun b b' r hb=>by obtain⟨h1,_⟩:=hb;simp[Ac,LW]at h1⟩
theorem bG7(hP:ProgOk C)(hL:MM C){d:Nat}{f:FuncId}{fn:Func}(hf:C.P.funcs[f]? = some fn){I O:Aa}{x:DenS I}{y:DenS O}(h:run C d f fn I O x=some y)
  {w:World} {St:Nat->Prop} {ys:List Value} {rs:List Nat} (hSt:∀q,St q->q<w.heap.size) (hG:GlobsOk C.globs w St) (hx:B4 w St I x ys rs) (hn:rs.Nodup) (hr:∀r∈rs,¬St r/\r<w.heap.size) :
  Calls C.P f ys.toArray w fun e w'=>∃zs rs',e=.returned (DH zs)/\Low ⟨w,fun r=>r∈rs⟩ w'/\(∀r∈rs',Base.new ⟨w,fun r=>r∈rs⟩ r/\r<w'.heap.size)/\rs'.Nodup /\
   B4 w' (fun q=>(St q∨(Base.new ⟨w,fun r=>r∈rs⟩ q/\q<w'.heap.size))/\q∉rs') O y zs rs':=by
 unfold run at h
 split at h
 ·rename_i args m0 ea
  have hok:=bIn (w:=w) (fun r=>r∈rs) hSt
  obtain⟨σ1,c1,c2,c3,c4,c5,c6⟩:=Yx (σ:={E:=⟨fun _=>none,fun _=>0⟩,mem:=[],w:=w,S:=St}) hok hx hn (fun r h=>⟨.inr h,(hr r h).2,(hr r h).1,fun b hb=>by obtain⟨h1,_⟩:=hb;simp[Ac,LW]at h1⟩) ea
  obtain⟨_,hc⟩:=aCR hP hL (aD4 hP hL d) (lp:=Nat.ble 2 d) (fun hl=>by
   have:2<=d:=by simpa using hl
   exact⟨d-2,by rw[show d-2+2=d by omega]⟩) hf h (σ0:={E:=⟨fun _=>none,fun _=>0⟩,mem:=[],w:=w,S:=St}) rfl c5.adv c4 c1 hG c6
  rw[c2]at hc
  refine hc.mono fun e w' he=>?_
  obtain⟨σ',rs0,zs,rfl,rfl,k1,k2,k3,k4⟩:=he
  cases hz:BK σ'.mem O rs0 with
  |mk rs1 m1=>
   rw[hz]at k4
   simp only at k4
   obtain⟨σ2,a1,a2,a3,a4,a5,a6⟩:=Ww k1 hz
   split at k4
   ·rename_i y' m2 ey
    cases k4
    rw[←a1]at ey
    obtain⟨σ3,rs',b1,b2,b3,b4,b5,b6,b7,b8,b9,b10⟩:=jA a4 (a6 _ k3) ey
    have hown:∀r∈rs',Base.new ⟨w,fun r=>r∈rs⟩ r/\r<σ'.w.heap.size/\¬σ2.S r:=fun r hr=>by
     obtain⟨⟨b,hb⟩,_⟩:=b9 r hr
     have:=a4.own b r hb
     rw[a2]at this
     exact this
    refine⟨zs,rs',rfl,k1.below,fun r hr=>⟨(hown r hr).1,(hown r hr).2.1⟩,b8,?_⟩
    rw[a2]at b7
    refine b7.mono (fun q hq=>?_) (fun _ _=>rfl) (fun _ _=>rfl)
    have hq':=a4.stab q hq
    rw[a2]at hq'
    refine⟨?_,fun h=>(hown q h).2.2 hq⟩
    rcases hq'.2 with h|h
    ·exact .inl h
    ·exact .inr ⟨h,hq'.1⟩
   ·cases k4
 ·cases h
theorem bCD{w w':World}{S S':Nat->Prop}{e e':Shape}{xs:List (Ab e)}{xs':List (Ab e')}{y:Value}{rs rs':List Nat}(h:Ft w S e xs y rs)(h':Ft w' S' e' xs' y rs'):rs=rs':=by
 obtain⟨k,_,_,h3⟩:=h;obtain⟨k',_,_,h3'⟩:=h';rcases h3 with⟨h4,_,rfl⟩|⟨r,_,_,h4,rfl,_⟩<;>rcases h3' with⟨h5,_,rfl⟩|⟨r',_,_,h5,rfl,_⟩
 ·rfl
 ·rw[h4]at h5;simp at h5
 ·rw[h4]at h5;simp at h5
 ·rw[h4]at h5;simp at h5;rw[h5.1]
theorem bIm{w:World}{St:Nat->Prop}{k:LK}{x:k.D}{y y0:Value}{rl:List Nat}(M:Nat->Prop)(h:∀q,St q->q<w.heap.size)(hx:Vt w St k x y y0 rl)(hr:∀r∈rl,¬St r/\r<w.heap.size/\M r):
  ∃σ1:Sit,σ1.mem=(gR k x).2/\σ1.w=w/\σ1.S=St/\Ok ⟨w,M⟩ St σ1/\Bv σ1 (gR k x).1 y/\(∀b r,σ1.owned b r->r∈rl)/\(gR k x).2.length=1 /\
   Aw σ1 (match k with|.win _=>.own 0|.ref _=>.ptr 0 0) y0/\¬HQ (Ac σ1.mem 0):=by
 have hblk:∀b,Ac [Blk.gone] b=.gone:=fun b=>by cases b<;>simp[Ac]
 have hok:Ok ⟨w,M⟩ St {E:=⟨fun _=>none,fun _=>0⟩,mem:=[.gone],w:=w,S:=St}:=
  ⟨⟨rfl,rfl,rfl,ci _,fun _ _ _=>rfl⟩,fun _ h=>h,fun r hr=>⟨h r hr,.inl hr⟩,fun b=>by unfold AE;simp only[hblk],fun b r hb=>by obtain⟨h1,_⟩:=hb;simp only[hblk]at h1;exact h1.elim,fun b b' r hb=>by obtain⟨h1,_⟩:=hb;simp only[hblk]at h1;exact h1.elim⟩
 have hnone:∀b r,¬Sit.owned {E:=⟨fun _=>none,fun _=>0⟩,mem:=[.gone],w:=w,S:=St} b r:=fun b r hb=>by obtain⟨h1,_⟩:=hb;simp only[hblk]at h1;exact h1
 have hl:∀r∈rl,Eo ⟨w,M⟩ {E:=⟨fun _=>none,fun _=>0⟩,mem:=[.gone],w:=w,S:=St} r:=fun r h=>⟨.inr (hr r h).2.2,(hr r h).2.1,(hr r h).1,fun b=>hnone b r⟩
 cases k with
 |win e=>
  obtain⟨⟨k0,h1,h2,h3⟩,q1,A0,c,hy,q2,q3,q4⟩:=hx;obtain⟨A,hy0,hA,hc⟩:∃A:Option Nat,y0=.slice (A.map fun r=>⟨r,0,none⟩) x.1.length k0/\(∀r,A=some r->r∈rl)/\((A=none/\k0=0)∨∃r vs T,A=some r/\w.heap[r]? = some (.cells vs T (0,0))/\vs.size=k0*e.width/\Rows w St e vs 0 x.1):=by
   rcases h3 with⟨g1,g2,g3⟩|⟨r,vs,T,g1,g2,g3,g4,g5⟩
   ·exact⟨none,g1,(fun r h=>by cases h),.inl ⟨rfl,g2⟩⟩
   ·subst g2;exact⟨some r,g1,(fun r' h=>by cases h;simp),.inr ⟨r,vs,T,rfl,g3,g4,g5⟩⟩
  obtain⟨σ1,c1,c2,c3,c4,c5,c6,c7,c8,c9⟩:=aQr hok (b:=0) (by simp) (hblk 0) (by rfl) (.arr e x.1) A k0 (fun r hr=>hl r (hA r hr)) (fun σ' m1 m2 m3 m4 m5 m6=>by
   unfold AE;rw[m4,m5,m6,m2,m3];exact⟨h1,h2,hc⟩)
  refine⟨σ1,c1,c2,c3,c4,⟨by rw[c1];simp,by rw[hy];trivial,?_⟩,fun b r h=>?_,rfl,⟨by rw[c1];simp,by rw[hy0];trivial,?_⟩,by rw[c5];exact fun h=>h⟩
  ·rw[c5];refine⟨q1,A0,c,hy,q2,q3,fun hn=>?_⟩;obtain⟨r,k1,g1,g2⟩:=q4 hn;rw[hy0]at g1;refine⟨r,?_,g2⟩;rw[c6];cases A with
   |none=>simp at g1
   |some r'=>simp at g1;rw[g1.1]
  ·rcases c9 b r h with g|g
   ·exact(hnone b r g).elim
   ·exact hA r g
  ·rw[c5,c6,c7];exact hy0
 |ref τ=>
  obtain⟨rfl,r,vs,T,h1,rfl,h2,h3⟩:=hx;obtain⟨σ1,c1,c2,c3,c4,c5,c6,c7,c8,c9⟩:=aQr hok (b:=0) (by simp) (hblk 0) (by rfl) (.raw (cellsOf τ x)) (some r) 0 (fun r' hr=>by cases hr;exact hl r (by simp)) (fun σ' m1 m2 m3 m4 m5 m6=>by
   unfold AE;rw[m4];exact⟨r,vs,T,m5,by rw[m2];exact h2,LG (by rw[m2,m3];exact h3)⟩)
  have hrep:Aw σ1 (.ptr 0 0) y0:=⟨by rw[c1];simp,by rw[h1];exact⟨_,rfl⟩,by rw[c5];exact⟨r,c6,h1⟩⟩
  exact⟨σ1,c1,c2,c3,c4,hrep,fun b r' h=>by
   rcases c9 b r' h with g|g
   ·exact(hnone b r' g).elim
   ·cases g;simp,rfl,hrep,by rw[c5];exact fun h=>h⟩
theorem bG6(hP:ProgOk C)(hL:MM C){d:Nat}{f:FuncId}{fn:Func}(hf:C.P.funcs[f]? = some fn){k:LK}{I O:Aa}{x:k.D×DenS I}{y:k.B×DenS O}(h:DI C d f fn k I O x=some y)
  {w:World} {St:Nat->Prop} {y1 y0:Value} {ys:List Value} {rl rs:List Nat} (hSt:∀q,St q->q<w.heap.size) (hG:GlobsOk C.globs w St) (hx0:Vt w St k x.1 y1 y0 rl) (hx:B4 w St I x.2 ys rs) (hn:(rl++rs).Nodup) (hr:∀r∈rl++rs,¬St r/\r<w.heap.size) :
  Calls C.P f (y1::ys).toArray w fun e w'=>∃zs rs',e=.returned (DH zs)/\Low ⟨w,fun r=>r∈rl++rs⟩ w'/\(∀r∈rs',Base.new ⟨w,fun r=>r∈rl++rs⟩ r/\r<w'.heap.size)/\(rl++rs').Nodup /\
   B4 w' (fun q=>(St q∨(Base.new ⟨w,fun r=>r∈rl++rs⟩ q/\q<w'.heap.size))/\q∉rl++rs') O y.2 zs rs' /\
   L8 w' (fun q=>(St q∨(Base.new ⟨w,fun r=>r∈rl++rs⟩ q/\q<w'.heap.size))/\q∉rl++rs') k y.1 y0 rl:=by
 obtain⟨n1,n2,n3⟩:=ko.1 hn
 obtain⟨σ1,s1,s2,s3,s4,s5,s6,s7,s8,s9⟩:=bIm (fun r=>r∈rl++rs) hSt hx0 (fun r h=>⟨(hr r (dt.2 (.inl h))).1,(hr r (dt.2 (.inl h))).2,dt.2 (.inl h)⟩)
 unfold DI at h
 cases hgl:gR k x.1 with
 |mk z m=>
  rw[hgl]at h s1 s5 s7
  simp only at h s1 s5 s7
  split at h
  ·rename_i args m0 ea
   rw[←s1]at ea
   have hx1:B4 σ1.w σ1.S I x.2 ys rs:=by rw[s2,s3];exact hx
   obtain⟨σ2,c1,c2,c3,c4,c5,c6⟩:=Yx s4 hx1 n2 (fun r h=>⟨.inr (dt.2 (.inr h)),by rw[s2];exact(hr r (dt.2 (.inr h))).2,by rw[s3];exact(hr r (dt.2 (.inr h))).1,fun b hb=>n3 r (s6 b r hb) r h rfl⟩) ea
   obtain⟨_,hc⟩:=aCR hP hL (aD4 hP hL d) (lp:=Nat.ble 2 d) (fun hl=>by
    have:2<=d:=by simpa using hl
    exact⟨d-2,by rw[show d-2+2=d by omega]⟩) hf h (σ0:=σ1) (by rw[s1,s7]) c5.adv c4 c1 (by rw[s2,s3];exact hG) (.cons (c5.repV s5) c6)
   rw[c2,s2]at hc
   refine hc.mono fun e w' he=>?_
   obtain⟨σ',rs0,zs,rfl,rfl,k1,k2,k3,k4⟩:=he
   obtain⟨σp,p1,p2,p3,p4,p5⟩:=aQo k1 k (.one (.ptr 0 0))
   cases hz:BK (LY σ'.mem k (.one (.ptr 0 0))) O rs0 with
   |mk rs1 m1=>
    rw[hz]at k4
    simp only at k4
    rw[←p1]at hz
    obtain⟨σ2',a1,a2,a3,a4,a5,a6⟩:=Ww p4 hz
    split at k4
    ·rename_i y' m2 ey
     rw[←a1]at ey
     obtain⟨σ3,rs',b1,b2,b3,b4,b5,b6,b7,b8,b9,b10⟩:=jA a4 (a6 _ (k3.mono fun _ _=>p5.repV)) ey
     split at k4
     ·rename_i bk ed
      cases k4
      have hw3:σ3.w=σ'.w:=b2.trans (a2.trans p2)
      have hgo:Goes σ' σ3:=p5.trans (a5.trans b6)
      have hown:∀r∈rs',Base.new ⟨w,fun r=>r∈rl++rs⟩ r/\r<σ'.w.heap.size/\¬σ2'.S r:=fun r hr=>by
       obtain⟨⟨b,hb⟩,_⟩:=b9 r hr
       have:=a4.own b r hb
       rw[a2,p2]at this
       exact this
      have hrep:Aw σ3 (match k with|.win _=>.own 0|.ref _=>.ptr 0 0) y0:=by
       have h1:=k2.rep _ _ s8
       cases k with
       |win e=>
        simp only at h1⊢
        rcases Wn (mem:=σ1.mem) (b:=0)with⟨_,ha⟩|⟨e,_⟩
        ·exact absurd ha s9
        ·rw[e]at h1;exact hgo.repC h1
       |ref τ=>exact hgo.repC h1
      have key:∀(SB:Prop),((∀r∈rl,∃b,σ3.owned b r)->L8 σ3.w σ3.S k bk y0 rl->SB)->SB:=fun SB hSB=>by
       rw[←b1]at ed
       cases k with
       |win e=>
        simp only[aDx]at ed
        split at ed
        ·rename_i τ xs eb
         obtain⟨hττ,hxs⟩:=G3 ed
         subst hττ
         simp only at hxs
         subst hxs
         obtain⟨σ4,rl',l1,l2,l3,l4,l5,l6,l7,l8,l9,l10⟩:=WE b5 (.inl eb) hrep
         have:rl=rl':=bCD hx0.1 l7
         subst this
         exact hSB (fun r hr=>(l9 r hr).1) l7
        ·cases ed
       |ref τ=>
        obtain⟨rfl,r,vs0,T0,h1,rfl,_,_⟩:=hx0
        simp only[aDx]at ed
        split at ed
        ·rename_i cs eb
         split at ed
         ·rename_i x' ep
          cases ed
          obtain⟨_,_,hm⟩:=hrep
          rw[eb]at hm
          obtain⟨r',hβ,hy⟩:=hm
          rw[h1]at hy
          have:r=r':=by simpa using hy
          subst this
          have he:=b5.ent 0
          unfold AE at he
          rw[eb]at he
          obtain⟨r2,vs,T,g1,g2,g3⟩:=he
          rw[hβ]at g1;cases g1
          obtain⟨y1',y2',hyy,q1,q2⟩:=H2 g3 ep
          cases q2
          rw[du]at hyy
          exact hSB (fun r' hr'=>by simp at hr';subst hr';exact⟨0,by rw[eb];trivial,hβ⟩) ⟨r,vs,T,h1,rfl,g2,by rw[hyy];exact q1⟩
         ·cases ed
        ·cases ed
      refine key _ fun hro hbk=>?_
      have hdis:∀r∈rl,∀r'∈rs',r≠r':=fun r h1 r' h2 e=>by
       subst e
       obtain⟨b,hb⟩:=hro r h1
       exact(b9 r h2).2 b hb
      have hstab:∀q,σ2'.S q->(St q∨(Base.new ⟨w,fun r=>r∈rl++rs⟩ q/\q<σ'.w.heap.size))/\q∉rl++rs':=fun q hq=>by
       have hq':=a4.stab q hq
       rw[a2,p2]at hq'
       refine⟨?_,fun h=>?_⟩
       ·rcases hq'.2 with h|h
        ·exact .inl h
        ·exact .inr ⟨h,hq'.1⟩
       ·rcases dt.1 h with h|h
        ·obtain⟨b,hb⟩:=hro q h
         exact(b5.own b q hb).2.2 (by rw[b4];exact hq)
        ·exact(hown q h).2.2 hq
      refine⟨zs,rs',rfl,k1.below,fun r hr=>⟨(hown r hr).1,(hown r hr).2.1⟩,ko.2 ⟨n1,b8,hdis⟩,?_,?_⟩
      ·rw[a2,p2]at b7
       exact b7.mono hstab (fun _ _=>rfl) (fun _ _=>rfl)
      ·rw[hw3]at hbk
       exact L8.mono (fun q hq=>hstab q (by rw[←b4];exact hq)) hbk
     ·cases k4
    ·cases k4
  ·cases h
theorem bIf (hP : ProgOk C) (hL : MM C) (d : Nat) (f : FuncId) (fn : Func) (hf : C.P.funcs[f]? = some fn) (hb : fn.body.isNone = false) (hn : (fn.name == "runtime.NumGoroutine") = false) (L : SumL)
  (h:∀x,L.pre x=true->DI C d f fn L.lend L.ins L.outs x=some (L.F x)):SoundL C.P C.globs f L:=
 ⟨fun x hx0 _ _ _ _ _ _ _ hSt hG hl hx hnd hr=>.inl ⟨⟨fn,hf,hb,hn⟩,bG6 hP hL hf (h x hx0) hSt hG hl hx hnd hr⟩⟩
theorem bIg (hP : ProgOk C) (hL : MM C) (d : Nat) (f : FuncId) (fn : Func) (hf : C.P.funcs[f]? = some fn) (hb : fn.body.isNone = false) (hn : (fn.name == "runtime.NumGoroutine") = false) (S : Sum)
  (h:∀x,S.pre x=true->run C d f fn S.ins S.outs x=some (S.F x)):Sound C.P C.globs f S:=
 ⟨fun x hx0 _ _ _ _ hSt hG hx hnd hr=>.inl ⟨⟨fn,hf,hb,hn⟩,bG7 hP hL hf (h x hx0) hSt hG hx hnd hr⟩⟩
end Vx
namespace Vx
open Go Go.RowKit
@[reducible] def Ad:List (Nat×Pat)->Option Pat->Type
 | [],none=>Empty
 | [],some p=>p.D
 |(_,p)::r,o=>p.D ⊕ Ad r o
@[reducible] def AQ{A R:Type}(o:Option A)(f:A->Option R):Option R:=match o with
 |some y=>f y
 |none=>none
@[reducible] def AP{A A' R:Type}(o:A ⊕ A')(f:A->Option R)(g:A'->Option R):Option R:=match o with
 |.inl y=>f y
 |.inr y=>g y
def JV{R:Type}(m:Nat):(l:List (Nat×Pat))->(o:Option Pat)->(Nat->St->Option R)->(St->Option R)->Ad l o->Option R
 | [],none,_,_=>fun _=>none
 | [],some p,_,kr=>fun y=>kr (Pj p y m)
 |(i,p)::r,o,ke,kr=>fun z=>AP z (fun y=>ke i (Pj p y m)) (fun z=>JV m r o ke kr z)
def iD{R:Type}(m:Nat):(l:List (Nat×Pat))->(o:Option Pat)->(Ad l o->Option R)->Nat->St->Option R
 | [],_,_,_,_=>none
 |(i,p)::r,o,e,id,s=>bif Nat.beq i id then(match H5 p s m with|some y=>e (.inl y)|none=>none)else iD m r o (fun z=>e (.inr z)) id s
def iE{R:Type}(m:Nat):(l:List (Nat×Pat))->(o:Option Pat)->(Ad l o->Option R)->St->Option R
 | [],none,_,_=>none
 | [],some p,e,s=>match H5 p s m with|some y=>e y|none=>none
 |_::r,o,e,s=>iE m r o (fun z=>e (.inr z)) s
def Bq(C:Cfg)(d:Nat)(fid:FuncId)(body:Code)(pat:Pat)(accs:List (Nat×Shape))(exits:List (Nat×Pat))(ret:Option Pat){R:Type}(L:pat.D->Option R)(e:Ad exits ret->Option R)(x:pat.D)(m:Nat:=0):Option R:=
 Dn C (JN C d) true fid body (Pj pat x m) (fun s'=>match H5 pat (Lz accs {s' with cs:=[] }) m with
  |some y=>L y
  |none=>none) (iD m exits ret e) (iE m exits ret e)
theorem aP8{R:Type}(m:Nat)(ke:Nat->St->Option R)(kr:St->Option R):∀(l:List (Nat×Pat)) (o:Option Pat) (id:Nat) (s:St),ZT l ke id s m=iD m l o (JV m l o ke kr) id s
 | [],_,_,_=>rfl
 |(i,p)::r,o,id,s=>by
  unfold ZT
  simp only[aDF,iD]
  cases hb:Nat.beq i id with
  |true=>
   have:=av hb
   subst this
   rfl
  |false=>
   simp only[ab]
   have ih:=aP8 m ke kr r o id s
   unfold ZT at ih
   rw[ih]
   rfl
theorem aP9{R:Type}(m:Nat)(ke:Nat->St->Option R)(kr:St->Option R):∀(l:List (Nat×Pat)) (o:Option Pat) (s:St),vB o kr s m=iE m l o (JV m l o ke kr) s
 | [],none,_=>rfl
 | [],some p,s=>rfl
 |(i,p)::r,o,s=>by
  simp only[iE]
  rw[aP9 m ke kr r o s]
  rfl
def Bi{D Y:Type}(φ:(D->Option Y)->D->Option Y)(x:D):Option Y:=open Classical in if h:∃y,∃n,C3 φ n x=some y then some (Classical.choose h)else none
theorem bBf{D Y:Type}{φ:(D->Option Y)->D->Option Y}{x:D}{y:Y}(h:Bi φ x=some y):∃n,C3 φ n x=some y:=by
 unfold Bi at h;split at h
 ·rename_i hex;cases h;exact ov hex
 ·cases h
def Bn{D Y:Type}(Φ:{R:Type}->(D->Option R)->(Y->Option R)->D->Option R):Prop:=∀(A B:Type) (rel:Option A->Option B->Prop) (L:D->Option A) (L':D->Option B) (e:Y->Option A) (e':Y->Option B),rel none none->(∀x,rel (L x) (L' x))->(∀y,rel (e y) (e' y))->∀x,rel (Φ L e x) (Φ L' e' x)
theorem By{A B:Type}{rel:Option A->Option B->Prop}{c:Bool}{a a':Option A}{b b':Option B}(h:rel a b)(h':rel a' b'):rel (bif c then a else a') (bif c then b else b'):=by
 cases c
 ·exact h'
 ·exact h
theorem Bz{A B T:Type}{rel:Option A->Option B->Prop}(h0:rel none none){o:Option T}{f:T->Option A}{g:T->Option B}(h:∀y,rel (f y) (g y)):rel (AQ o f) (AQ o g):=by
 cases o with
 |none=>exact h0
 |some y=>exact h y
theorem BA{A B T T':Type}{rel:Option A->Option B->Prop}{o:T ⊕ T'}{f:T->Option A}{g:T->Option B}{f':T'->Option A}{g':T'->Option B}(h:∀y,rel (f y) (g y))(h':∀y,rel (f' y) (g' y)):
  rel (AP o f f') (AP o g g'):=by
 cases o with
 |inl y=>exact h y
 |inr y=>exact h' y
section
variable {D Y:Type}{Φ:{R:Type}->(D->Option R)->(Y->Option R)->D->Option R}
theorem aD9(hp:Bn Φ):∀(n m:Nat) (x:D) (y:Y),C3 (fun L=>Φ L some) n x=some y->n<=m->C3 (fun L=>Φ L some) m x=some y
 |0,_,_,_,h,_=>by simp[C3]at h
 |n+1,0,_,_,_,h=>by omega
 |n+1,m+1,x,y,h,hm=>by
  simp only[C3]at h⊢
  exact hp Y Y (fun a b=>∀y,a=some y->b=some y) _ _ _ _ (fun _ h=>h) (fun x y h=>aD9 hp n m x y h (by omega)) (fun _ _ h=>h) x y h
theorem aOU(hp:Bn Φ){n:Nat}{x:D}{y:Y}(h:C3 (fun L=>Φ L some) n x=some y):Bi (fun L=>Φ L some) x=some y:=by
 have hex:∃y,∃n,C3 (fun L=>Φ L some) n x=some y:=⟨y,n,h⟩
 unfold Bi;rw[dif_pos hex];obtain⟨m,hm⟩:=ov hex;have h1:=aD9 hp n (max n m) x y h (by omega);have h2:=aD9 hp m (max n m) x _ hm (by omega);rw[h1]at h2;rw[←h2]
theorem Cx(hp:Bn Φ)(μ:D->Nat)(I:D->Prop)(post:D->Y)(h:∀(L:D->Option Y) x,I x->(∀x',I x'->μ x'<μ x->L x'=some (post x'))->Φ L some x=some (post x)):∀x,I x->Bi (fun L=>Φ L some) x=some (post x):=by
 have key:∀m x,I x->μ x<m->C3 (fun L=>Φ L some) m x=some (post x):=by
  intro m;induction m with
  |zero=>intro x _ h;omega
  |succ m ih=>
   intro x hx hm;simp only[C3];exact h _ x hx fun x' hx' hlt=>ih x' hx' (by omega)
 intro x hx;exact aOU hp (key (μ x+1) x hx (by omega))
end
@[reducible] def LoopSpec.of(pat:Pat)(accs:List (Nat×Shape))(exits:List (Nat×Pat))(ret:Option Pat)(WY:pat.D->Option (Ad exits ret))(m:Nat:=0):LoopSpec:=
 {pat,accs,exits,ret,m0:=m,run:=fun x ke kr=>match WY x with
   |some z=>JV m exits ret ke kr z
   |none=>none}
theorem bA3{C:Cfg}{d:Nat}{fid:FuncId}{body:Code}(sp:LoopSpec){R:Type}(ke:Nat->St->Option R)(kr:St->Option R)(L:sp.pat.D->Option R)(x:sp.pat.D):
  WB C d fid body sp ke kr L x=Bq C d fid body sp.pat sp.accs sp.exits sp.ret L (JV sp.m0 sp.exits sp.ret ke kr) x sp.m0:=by
 have h1:(fun id s=>ZT sp.exits ke id s sp.m0)=iD sp.m0 sp.exits sp.ret (JV sp.m0 sp.exits sp.ret ke kr):=funext fun id=>funext fun s=>aP8 sp.m0 ke kr sp.exits sp.ret id s;have h2:(fun s=>vB sp.ret kr s sp.m0)=iE sp.m0 sp.exits sp.ret (JV sp.m0 sp.exits sp.ret ke kr):=funext fun s=>aP9 sp.m0 ke kr sp.exits sp.ret s;unfold WB Bq;rw[←h1,←h2];congr 1;funext s';cases H5 sp.pat (Lz sp.accs {s' with cs:=[] }) sp.m0<;>rfl
theorem Bw{C:Cfg}{d:Nat}{fid:FuncId}{body:Code}{pat:Pat}{accs:List (Nat×Shape)}{exits:List (Nat×Pat)}{ret:Option Pat}{m:Nat}(Φ:{R:Type}->(pat.D->Option R)->(Ad exits ret->Option R)->pat.D->Option R)(hp:Bn Φ)
  (hs:∀(R:Type) (L:pat.D->Option R) (e:Ad exits ret->Option R) x,Bq C d fid body pat accs exits ret L e x m=Φ L e x) :
  kU C d fid body (LoopSpec.of pat accs exits ret (Bi fun L=>Φ L some) m):=by
 intro R ke kr r x h;have hbody:∀(L:pat.D->Option R) (x:pat.D),WB C d fid body (LoopSpec.of pat accs exits ret (Bi fun L=>Φ L some) m) ke kr L x=Φ L (JV m exits ret ke kr) x:=fun L x=>
  (bA3 (LoopSpec.of pat accs exits ret (Bi fun L=>Φ L some) m) ke kr L x).trans (hs R L (JV m exits ret ke kr) x)
 simp only[LoopSpec.of]at h;split at h
 ·rename_i z hz;obtain⟨n,hn⟩:=bBf hz;refine⟨n,?_⟩;have key:∀n (x:pat.D) z,C3 (fun L=>Φ L some) n x=some z->C3 (WB C d fid body (LoopSpec.of pat accs exits ret (Bi fun L=>Φ L some) m) ke kr) n x=JV m exits ret ke kr z:=by
   intro n;induction n with
   |zero=>intro x z h;simp[C3]at h
   |succ n ih=>
    intro x z h;simp only[C3]at h;exact(hbody _ x).trans <| hp _ R (fun a b=>∀z,a=some z->b=JV m exits ret ke kr z) _ _ _ _ (fun _ h=>by cases h) (fun x z h=>ih x z h) (fun y z h=>by cases h;rfl) x z h
  exact(key n x z hn).trans h
 ·cases h
def Aj(I O:Aa)(t:DenS I->Option (DenS O))(dflt:DenS O):Sum:={ins:=I,outs:=O,pre:=fun x=>(t x).isSome,F:=fun x=>(t x).getD dflt}
theorem bIy {C : Cfg} (hP : ProgOk C) (hL : MM C) (d : Nat) (f : FuncId) (fn : Func) (hf : C.P.funcs[f]? = some fn) (hb : fn.body.isNone = false) (hn : (fn.name == "runtime.NumGoroutine") = false) (I O : Aa) (t : DenS I -> Option (DenS O)) (dflt : DenS O)
  (h:∀x,run C d f fn I O x=t x):Sound C.P C.globs f (Aj I O t dflt):=
 bIg hP hL d f fn hf hb hn _ fun x hx=>by
  refine(h x).trans ?_
  simp only[Aj]at hx⊢
  cases ht:t x with
  |none=>rw[ht]at hx;cases hx
  |some y=>rfl
def DenS.dflt:(S:Aa)->DenS S
 | []=>()
 |(_,τ)::r=>(τ.dflt,DenS.dflt r)
def Bp(fn:Func)(k:Nat):Code:=match fn.body with
 |some c=>((CS c).find? fun b=>Nat.beq (Dq b) k).getD .skip
 |none=>.skip
def JT:List Nat->Bool
 | []=>true
 |n::r=>!(H0 n r)&&JT r
theorem aN6:∀{l:List Code},JT (l.map Dq)=true->∀{b:Code} {k:Nat},b∈l->Dq b=k->l.find? (fun b=>Nat.beq (Dq b) k)=some b
 | [],_,b,k,h,_=>by simp at h
 |c::l,hn,b,k,hb,hk=>by
  simp only[gg,JT,ar,ff]at hn
  rw[List.find?_cons]
  rcases dq.1 hb with rfl|hb
  ·subst hk;simp[fg]
  ·have:Nat.beq (Dq c) k=false:=by
    cases hq:Nat.beq (Dq c) k with
    |false=>rfl
    |true=>
     have e:=av hq
     have:H0 (Dq c) (l.map Dq)=true:=PM.2 (by rw[e,←hk];exact List.mem_map_of_mem hb)
     rw[this]at hn;cases hn.1
   rw[this]
   exact aN6 hn.2 hb hk
theorem aYH{fn:Func}{whole:Code}(hw:fn.body=some whole)(hn:JT ((CS whole).map Dq)=true){b:Code}{k:Nat}(hb:b∈CS whole)(hk:Dq b=k):b=Bp fn k:=by
 unfold Bp;rw[hw];simp only[aN6 hn hb hk,ms]
def Xf(P:Program)(G:List (Nat×Sigma fun τ=>List (Ab τ))):List (FuncId×Sum)->Prop
 | []=>True
 |(f,S)::r=>Sound P G f S/\Xf P G r
theorem aE3{P:Program}{G:List (Nat×Sigma fun τ=>List (Ab τ))}:∀{l:List (FuncId×Sum)},Xf P G l->∀f mem args S,JM l f mem args=some S->Sound P G f S
 | [],_,f,mem,args,S,h=>by simp[JM]at h
 |(g,T)::r,ha,f,mem,args,S,h=>by
  simp only[JM]at h
  cases hb:Nat.beq g f&&Pw mem T.ins args with
  |true=>
   rw[hb]at h
   simp only[aa,ap]at h
   subst h
   simp only[ar]at hb
   have:=av hb.1
   subst this
   exact ha.1
  |false=>rw[hb]at h;exact aE3 ha.2 f mem args S h
def Xg(P:Program)(G:List (Nat×Sigma fun τ=>List (Ab τ))):List (FuncId×SumL)->Prop
 | []=>True
 |(f,S)::r=>SoundL P G f S/\Xg P G r
def Xd(P:Program)(G:List (Nat×Sigma fun τ=>List (Ab τ))):List (TypeId×SumF)->Prop
 | []=>True
 |(_,S)::r=>Ma P G S/\Xd P G r
theorem aDN{P:Program}{G:List (Nat×Sigma fun τ=>List (Ab τ))}:∀{l:List (TypeId×SumF)},Xd P G l->∀T S,(T,S)∈l->Ma P G S
 | [],_,T,S,h=>by simp at h
 |(T',S')::r,ha,T,S,h=>by
  rcases dq.1 h with h|h
  ·cases h;exact ha.1
  ·exact aDN ha.2 T S h
def Xe(P:Program)(G:List (Nat×Sigma fun τ=>List (Ab τ))):List (String×SumM)->Prop
 | []=>True
 |(m,S)::r=>aAu P G m S/\Xe P G r
theorem aEi{P:Program}{G:List (Nat×Sigma fun τ=>List (Ab τ))}:∀{l:List (String×SumM)},Xe P G l->∀m S,(m,S)∈l->aAu P G m S
 | [],_,m,S,h=>by simp at h
 |(m',S')::r,ha,m,S,h=>by
  rcases dq.1 h with h|h
  ·cases h;exact ha.1
  ·exact aEi ha.2 m S h
theorem aEe{P:Program}{G:List (Nat×Sigma fun τ=>List (Ab τ))}:∀{l:List (FuncId×SumL)},Xg P G l->∀f mem args S,G9 l f mem args=some S->SoundL P G f S
 | [],_,f,mem,args,S,h=>by simp[G9]at h
 |(g,T)::r,ha,f,mem,args,S,h=>by
  simp only[G9]at h
  cases hb:Nat.beq g f&&LM mem T.lend args with
  |true=>
   rw[hb]at h
   simp only[aa,ap]at h
   subst h
   simp only[ar]at hb
   have:=av hb.1
   subst this
   exact ha.1
  |false=>rw[hb]at h;exact aEe ha.2 f mem args S h
def Vr(C:Cfg)(fid:FuncId)(fn:Func):List (FuncId×Nat×LoopSpec)->Prop
 | []=>True
 |(f,k,sp)::r=>f=fid/\(∀d,kU C (d+2) fid (Bp fn k) sp)/\Vr C fid fn r
theorem aN2{C:Cfg}{fid:FuncId}{fn:Func}:∀{l:List (FuncId×Nat×LoopSpec)},Vr C fid fn l->∀{f k sp},gH l f k=some sp->f=fid/\∀d,kU C (d+2) fid (Bp fn k) sp
 | [],_,f,k,sp,h=>by simp[gH]at h
 |(g,j,T)::r,ha,f,k,sp,h=>by
  simp only[gH]at h
  cases hb:(Nat.beq g f&&Nat.beq j k)with
  |true=>
   rw[hb]at h
   simp only[aa,ap]at h
   subst h
   simp only[ar]at hb
   have e1:=av hb.1
   have e2:=av hb.2
   subst e1 e2
   exact⟨ha.1,ha.2.1⟩
  |false=>rw[hb]at h;exact aN2 ha.2.2 h
theorem aO0{C:Cfg}{fid:FuncId}{fn:Func}(hf:C.P.funcs[fid]? = some fn)(hn:∀whole,fn.body=some whole->JT ((CS whole).map Dq)=true)(ha:Vr C fid fn C.loops):MM C:=by
 intro f k sp h fn' whole hf' hw body hb hk d;obtain⟨rfl,hl⟩:=aN2 ha h;rw[hf]at hf';cases hf';rw[aYH hw (hn whole hw) hb hk];exact hl d
theorem bAn (C : Cfg) (d : Nat) (f : FuncId) (fn : Func) (hm : C.P.follows .mixedOrders = true) (hf : C.P.funcs[f]? = some fn) (hb : (match fn.body with | some c => JT ((CS c).map Dq) | none => false) = true) (hn : (fn.name == "runtime.NumGoroutine") = false)
  (hs:Xf C.P C.globs C.sums) (hl:Vr C f fn C.loops) (I O:Aa) (t:DenS I->Option (DenS O)) (dflt:DenS O) (h:∀x,run C d f fn I O x=t x) (hls:Xg C.P C.globs C.lsums:=by exact trivial) (hfs:Xd C.P C.globs C.fns:=by exact trivial) (hms:Xe C.P C.globs C.meths:=by exact trivial):Sound C.P C.globs f (Aj I O t dflt):=by
 have hb':∃c,fn.body=some c/\JT ((CS c).map Dq)=true:=by
  cases e:fn.body with
  |none=>rw[e]at hb;cases hb
  |some c=>rw[e]at hb;exact⟨c,rfl,hb⟩
 obtain⟨c,e,hc⟩:=hb'
 exact bIy ⟨⟨fun g mem args S=>aE3 hs g mem args S,fun g mem args S=>aEe hls g mem args S,fun T S=>aDN hfs T S,fun m S=>aEi hms m S⟩,hm⟩ (aO0 hf (fun w hw=>by rw[e]at hw;cases hw;exact hc) hl) d f fn hf (by rw[e];rfl) hn I O t dflt h
def LK.dflt:(k:LK)->k.B
 |.win _=>[]
 |.ref τ=>τ.dflt
def DK(k:LK)(I O:Aa)(t:k.D×DenS I->Option (k.B×DenS O))(dflt:k.B×DenS O):SumL:={lend:=k,ins:=I,outs:=O,pre:=fun x=>(t x).isSome,F:=fun x=>(t x).getD dflt}
theorem bAo (C : Cfg) (d : Nat) (f : FuncId) (fn : Func) (hm : C.P.follows .mixedOrders = true) (hf : C.P.funcs[f]? = some fn) (hb : (match fn.body with | some c => JT ((CS c).map Dq) | none => false) = true) (hn : (fn.name == "runtime.NumGoroutine") = false)
  (hs:Xf C.P C.globs C.sums) (hl:Vr C f fn C.loops) (k:LK) (I O:Aa) (t:k.D×DenS I->Option (k.B×DenS O)) (dflt:k.B×DenS O) (h:∀x,DI C d f fn k I O x=t x) (hls:Xg C.P C.globs C.lsums:=by exact trivial) (hfs:Xd C.P C.globs C.fns:=by exact trivial) (hms:Xe C.P C.globs C.meths:=by exact trivial):SoundL C.P C.globs f (DK k I O t dflt):=by
 have hb':∃c,fn.body=some c/\JT ((CS c).map Dq)=true:=by
  cases e:fn.body with
  |none=>rw[e]at hb;cases hb
  |some c=>rw[e]at hb;exact⟨c,rfl,hb⟩
 obtain⟨c,e,hc⟩:=hb'
 refine bIf ⟨⟨fun g mem args S=>aE3 hs g mem args S,fun g mem args S=>aEe hls g mem args S,fun T S=>aDN hfs T S,fun m S=>aEi hms m S⟩,hm⟩ (aO0 hf (fun w hw=>by rw[e]at hw;cases hw;exact hc) hl) d f fn hf (by rw[e];rfl) hn _ fun x hx=>?_
 refine(h x).trans ?_
 simp only[DK]at hx⊢
 cases ht:t x with
 |none=>rw[ht]at hx;cases hx
 |some y=>rfl
theorem SoundL.more{P:Program}{G G':List (Nat×Sigma fun τ=>List (Ab τ))}{f:FuncId}{S:SumL}(hs:SoundL P G f S)(h:∀g x,Pv G g=some x->Pv G' g=some x):SoundL P G' f S:=
 ⟨fun x hp w St y y0 ys rl rs a hG b c d e=>hs.calls x hp w St y y0 ys rl rs a (fun g τ xs e=>hG g τ xs (h g _ e)) b c d e⟩
theorem Sound.more{P:Program}{G G':List (Nat×Sigma fun τ=>List (Ab τ))}{f:FuncId}{S:Sum}(hs:Sound P G f S)(h:∀g x,Pv G g=some x->Pv G' g=some x):Sound P G' f S:=
 ⟨fun x hp w St ys rs a hG b c d=>hs.calls x hp w St ys rs a (fun g τ xs e=>hG g τ xs (h g _ e)) b c d⟩
def Z6{τ:Shape}:(I:Aa)->DenS I->Ab τ->DenS (I++[(false,τ)])
 | [],_,d=>(d,())
 |_::r,x,d=>(x.1,Z6 r x.2 d)
theorem aEX{w:World}{S:Nat->Prop}{τ:Shape}{d:Ab τ}{p:Value}(hd:EO w S false τ d p []):∀{I:Aa} {x:DenS I} {ys:List Value} {rs:List Nat},B4 w S I x ys rs->B4 w S (I++[(false,τ)]) (Z6 I x d) (ys++[p]) rs
 | [],_,ys,rs,⟨h1,h2⟩=>by
  subst h1;subst h2
  exact⟨p,[],[],[],rfl,rfl,hd,rfl,rfl⟩
 |(a,σ)::I,x,_,_,⟨y,ys',r1,r2,h1,h2,h3,h4⟩=>by
  subst h1;subst h2
  exact⟨y,ys'++[p],r1,r2,rfl,rfl,h3,aEX hd h4⟩
def J5(I O:Aa)(pre:DenS (I++[(false,.box .pfn)])->Bool)(F:DenS (I++[(false,.box .pfn)])->DenS O)(g:Nat):Sum:=
 ⟨I,O,fun x=>pre (Z6 (τ:=.box .pfn) I x g),fun x=>F (Z6 (τ:=.box .pfn) I x g)⟩
def aFe(I O:Aa)(pre:DenS (I++[(false,.box .bool)])->Bool)(F:DenS (I++[(false,.box .bool)])->DenS O)(b:Bool):Sum:=
 ⟨I,O,fun x=>pre (Z6 (τ:=.box .bool) I x b),fun x=>F (Z6 (τ:=.box .bool) I x b)⟩
theorem D8{P:Program}{G:List (Nat×Sigma fun τ=>List (Ab τ))}{f:FuncId}{S:Sum}(h:Sound P G f S):FnSound P G f [] S:=
 ⟨fun x hp w St ys rs ps h1 h2 h3 h4 h5 h6=>by
  have:ps=[]:=co h6.1
  subst this
  rw[du]
  exact h.calls x hp w St ys rs h1 h2 h3 h4 h5⟩
theorem aNf{w:World}{S:Nat->Prop}{n:Nat}{ps:List Value}(h:Xh w S [n] ps):∃r vs T fz,ps=[.pointer (some ⟨r,0,none⟩)]/\S r/\w.heap[r]? = some (.cells vs T fz)/\vs[0]? = some (Pk n):=by
 obtain⟨h1,h2⟩:=h;obtain⟨r,vs,T,fz,e1,e2,e3,e4⟩:=h2 0 n rfl;cases ps with
 |nil=>simp at e1
 |cons p ps=>
  have:ps=[]:=co (by simpa using h1);subst this;simp at e1;subst e1;exact⟨r,vs,T,fz,rfl,e2,e3,e4⟩
theorem aM3{w:World}{S:Nat->Prop}{τ:Shape}{d:Ab τ}{v:Value}(hd:AJ w S τ d [v]){r:Nat}{vs:Array Value}{T:TypeId}{fz:Nat×Nat}(h1:S r)(h2:w.heap[r]? = some (.cells vs T fz))(h3:vs[0]? = some v):EO w S false (.box τ) d (.pointer (some ⟨r,0,none⟩)) []:=
 ⟨rfl,r,0,vs,T,fz,[v],rfl,h1,h2,hd,fun j d hj=>by
  cases j with
  |zero=>simp at hj;subst hj;exact h3
  |succ j=>simp at hj⟩
theorem LN{P:Program}{G:List (Nat×Sigma fun τ=>List (Ab τ))}{f:FuncId}{I O:Aa}{pre:DenS (I++[(false,.box .pfn)])->Bool}{F:DenS (I++[(false,.box .pfn)])->DenS O}(h:Sound P G f ⟨I++[(false,.box .pfn)],O,pre,F⟩)(g:Nat):FnSound P G f [g+2] (J5 I O pre F g):=
 ⟨fun x hp w St ys rs ps h1 h2 h3 h4 h5 h6=>by
  obtain⟨r,vs,T,fz,rfl,e2,e3,e4⟩:=aNf h6
  have hb:EO w St false (.box .pfn) g (.pointer (some ⟨r,0,none⟩)) []:=aM3 (τ:=.pfn) (d:=g) (v:=.func (.func g) #[] #[]) rfl e2 e3 e4
  exact h.calls _ hp w St _ rs h1 h2 (aEX (τ:=.box .pfn) hb h3) h4 h5⟩
theorem aOe{P:Program}{G:List (Nat×Sigma fun τ=>List (Ab τ))}{f:FuncId}{I O:Aa}{pre:DenS (I++[(false,.box .bool)])->Bool}{F:DenS (I++[(false,.box .bool)])->DenS O}(h:Sound P G f ⟨I++[(false,.box .bool)],O,pre,F⟩)(b:Bool):FnSound P G f [bif b then 1 else 0] (aFe I O pre F b):=
 ⟨fun x hp w St ys rs ps h1 h2 h3 h4 h5 h6=>by
  obtain⟨r,vs,T,fz,rfl,e2,e3,e4⟩:=aNf h6
  have hb:EO w St false (.box .bool) b (.pointer (some ⟨r,0,none⟩)) []:=aM3 (τ:=.bool) (d:=b) (v:=.bool b) rfl e2 e3 (by rw[e4];cases b<;>rfl)
  exact h.calls _ hp w St _ rs h1 h2 (aEX (τ:=.box .bool) hb h3) h4 h5⟩
end Vx
namespace Vx
open Go
abbrev W0:Aa:=[(false,.int .u64),(false,.int .u64),(false,.int .u64)]
abbrev Z5:Aa:=[(false,.int .u64),(false,.int .u64)]
def aL1:Sum:={ins:=W0,outs:=Z5,pre:=fun x=>decide (0<=x.2.2.1)&&decide (x.2.2.1<=1),F:=fun x=>((x.1+x.2.1+x.2.2.1)%18446744073709551616,(x.1+x.2.1+x.2.2.1)/18446744073709551616,())}
def aE0:Array Value->Sem Value:=fun args=>do
 let (x, y, b) ← Extern.MathBitsCarry.three "Sub64" args
 pure (Extern.MathBitsCarry.pair ((x+Extern.MathBitsCarry.m64-y-b)%Extern.MathBitsCarry.m64) (if x<y+b then 1 else 0))
theorem bHe{P:Program}(x y c:Int)(hx:0<=x)(hy:0<=y)(hyl:y<=18446744073709551615)(hc0:0<=c)(hc:c<=1)(w:World):
  (aE0 #[.int .u64 x,.int .u64 y,.int .u64 c]).run P w =
   .ok (.tuple #[.int .u64 ((x-y-c)%18446744073709551616),.int .u64 (if x<y+c then 1 else 0)]) w:=by
 have key:∀k:Nat,k<=1->(aE0 #[.int .u64 x,.int .u64 y,.int .u64 (k:Int)]).run P w =
   .ok (Extern.MathBitsCarry.pair ((x.toNat+Extern.MathBitsCarry.m64-y.toNat-k)%Extern.MathBitsCarry.m64) (if x.toNat<y.toNat+k then 1 else 0)) w:=by
  intro k hk;have:k=0∨k=1:=by omega
  rcases this with rfl|rfl<;>rfl
 obtain⟨k,rfl⟩:=cv hc0;rw[key k (by omega)];obtain⟨X,rfl⟩:=cv hx;obtain⟨Y,rfl⟩:=cv hy;simp only[Extern.MathBitsCarry.pair,Extern.MathBitsCarry.m64,Int.toNat_natCast];have e1:(((X+18446744073709551616-Y-k)%18446744073709551616:Nat):Int)=((X:Int)-Y-k)%18446744073709551616:=by omega
 have e2:(((if X<Y+k then 1 else 0:Nat)):Int)=if(X:Int)<Y+k then 1 else 0:=by
  by_cases h:X<Y+k
  ·rw[ah h,ah (by omega)];rfl
  ·rw[ag h,ag (by omega)];rfl
 show Result.ok (Value.tuple #[.int .u64 (((X+18446744073709551616-Y-k)%18446744073709551616:Nat):Int),.int .u64 (((if X<Y+k then 1 else 0:Nat)):Int)]) w=_;rw[e1,e2]
def aQ5:Sum:={ins:=W0,outs:=Z5,pre:=fun x=>decide (0<=x.2.2.1)&&decide (x.2.2.1<=1),F:=fun x=>((x.1-x.2.1-x.2.2.1)%18446744073709551616,(if x.1<x.2.1+x.2.2.1 then 1 else 0),())}
theorem aNX {P : Program} {G : List (Nat × Sigma fun τ => List (Ab τ))} {f : FuncId} {fn : Func} {e : Array Value -> Sem Value} (hf : P.funcs[f]? = some fn) (hname : (fn.name == "runtime.NumGoroutine") = false)
  (hb:fn.body.isNone=true) (hn:Extern.findNext fn=none) (he:Extern.find fn=some e) {pre:DenS W0->Bool} {F:DenS W0->DenS Z5}
  (h:∀x y c:Int,pre (x,y,c,())=true->0<=x->x<=18446744073709551615->0<=y->y<=18446744073709551615->∀w,(e #[.int .u64 x,.int .u64 y,.int .u64 c]).run P w=.ok (.tuple #[.int .u64 (F (x,y,c,())).1,.int .u64 (F (x,y,c,())).2.1]) w /\
   (0<=(F (x,y,c,())).1/\(F (x,y,c,())).1<=18446744073709551615)/\0<=(F (x,y,c,())).2.1/\(F (x,y,c,())).2.1<=18446744073709551615):Sound P G f {ins:=W0,outs:=Z5,pre,F}:=by
 refine⟨fun z hz w St ys rs hSt _ hr hnd hrs=>.inr ?_⟩
 obtain⟨y1,l1,r1,q1,rfl,rfl,⟨rfl,h1⟩,y2,l2,r2,q2,rfl,rfl,⟨rfl,h2⟩,y3,l3,r3,q3,rfl,rfl,⟨rfl,h3⟩,rfl,rfl⟩:=hr
 obtain⟨x,y,c,⟨⟩⟩:=z
 obtain⟨e1,b1⟩:=h1
 obtain⟨e2,b2⟩:=h2
 obtain⟨e3,b3⟩:=h3
 cases e1;cases e2;cases e3
 obtain⟨g1,g2,g3⟩:=h x y c hz b1.1 b1.2 b2.1 b2.2 w
 refine⟨_,by rw[run_callFunc_extern hf hname hb hn he];show((e #[_,_,_]).run P w).andThen _=_;rw[g1];rfl,[.int .u64 (F (x,y,c,())).1,.int .u64 (F (x,y,c,())).2.1],[],rfl,⟨rfl,rfl,rfl,ci _,fun _ _ _=>rfl⟩,fun r hr=>by simp at hr,jt,?_⟩
 exact⟨_,_,[],[],rfl,rfl,⟨rfl,rfl,g2⟩,_,_,[],[],rfl,rfl,⟨rfl,rfl,g3⟩,rfl,rfl⟩
theorem aYj {P : Program} {G : List (Nat × Sigma fun τ => List (Ab τ))} {f : FuncId} {fn : Func} (hf : P.funcs[f]? = some fn) (hname : (fn.name == "runtime.NumGoroutine") = false)
  (hb:fn.body.isNone=true) (hn:Extern.findNext fn=none) (he:Extern.find fn=some add64Entry):Sound P G f aL1:=
 aNX hf hname hb hn he fun x y c hp hx hx' hy hy' w=>by
  have hp:(decide (0<=c)&&decide (c<=1))=true:=hp
  simp only[ar,ai]at hp
  refine⟨run_add64 x y c hx hy hp.1 hp.2 w,?_,?_⟩
  ·show 0<=(x+y+c)%18446744073709551616/\(x+y+c)%18446744073709551616<=18446744073709551615
   omega
  ·show 0<=(x+y+c)/18446744073709551616/\(x+y+c)/18446744073709551616<=18446744073709551615
   omega
theorem bIw {P : Program} {G : List (Nat × Sigma fun τ => List (Ab τ))} {f : FuncId} {fn : Func} (hf : P.funcs[f]? = some fn) (hname : (fn.name == "runtime.NumGoroutine") = false)
  (hb:fn.body.isNone=true) (hn:Extern.findNext fn=none) (he:Extern.find fn=some aE0):Sound P G f aQ5:=
 aNX hf hname hb hn he fun x y c hp hx hx' hy hy' w=>by
  have hp:(decide (0<=c)&&decide (c<=1))=true:=hp
  simp only[ar,ai]at hp
  refine⟨bHe x y c hx hy hy' hp.1 hp.2 w,?_,?_⟩
  ·show 0<=(x-y-c)%18446744073709551616/\(x-y-c)%18446744073709551616<=18446744073709551615
   omega
  ·show 0<=(if x<y+c then(1:Int)else 0)/\(if x<y+c then(1:Int)else 0)<=18446744073709551615
   split<;>omega
def FloatKind.ik:FloatKind->IntKind
 |.f32=>.u32
 |.f64=>.u64
theorem bAX(k:FloatKind)(b:Nat)(h:b<2^G8 k):(FloatKind.ik k).min<=(b:Int)/\(b:Int)<=(FloatKind.ik k).max:=by
 cases k
 ·have h:b<4294967296:=h;show(0:Int)<=(b:Int)/\(b:Int)<=4294967295;omega
 ·have h:b<18446744073709551616:=h;show(0:Int)<=(b:Int)/\(b:Int)<=18446744073709551615;omega
theorem bAW(k:FloatKind)(n:Int)(h1:(FloatKind.ik k).min<=n)(h2:n<=(FloatKind.ik k).max):0<=n/\n.toNat<2^G8 k:=by
 cases k
 ·have h1:(0:Int)<=n:=h1;have h2:n<=4294967295:=h2;refine⟨h1,?_⟩;show n.toNat<4294967296;omega
 ·have h1:(0:Int)<=n:=h1;have h2:n<=18446744073709551615:=h2;refine⟨h1,?_⟩;show n.toNat<18446744073709551616;omega
def aOm(k:FloatKind):Sum:={ins:=[(false,.int (FloatKind.ik k))],outs:=[(false,.flt k)],pre:=fun _=>true,F:=fun x=>(some x.1.toNat,())}
def aMk(k:FloatKind):Sum:={ins:=[(false,.flt k)],outs:=[(false,.int (FloatKind.ik k))],pre:=fun x=>x.1.isSome,F:=fun x=>(((x.1.getD 0:Nat):Int),())}
theorem bAv {P : Program} {G : List (Nat × Sigma fun τ => List (Ab τ))} {f : FuncId} {fn : Func} {e : Array Value -> Sem Value} (k : FloatKind) (hf : P.funcs[f]? = some fn) (hname : (fn.name == "runtime.NumGoroutine") = false)
  (hb:fn.body.isNone=true) (hn:Extern.findNext fn=none) (he:Extern.find fn=some e) (hrun:∀n,e #[.int (FloatKind.ik k) n]=pure (.float k n.toNat)):Sound P G f (aOm k):=by
 refine⟨fun z hz w St ys rs hSt _ hr hnd hrs=>.inr ?_⟩
 obtain⟨y1,l1,r1,q1,rfl,rfl,⟨rfl,h1⟩,rfl,rfl⟩:=hr
 obtain⟨x,⟨⟩⟩:=z
 obtain⟨e1,b1⟩:=h1
 cases e1
 obtain⟨_,g2⟩:=bAW k x b1.1 b1.2
 refine⟨_,by rw[run_callFunc_extern hf hname hb hn he];show((e #[_]).run P w).andThen _=_;rw[hrun];rfl,[.float k x.toNat],[],rfl,⟨rfl,rfl,rfl,ci _,fun _ _ _=>rfl⟩,fun r hr=>by simp at hr,jt,?_⟩
 exact⟨_,_,[],[],rfl,rfl,⟨rfl,⟨_,rfl,_,rfl,g2,rfl⟩⟩,rfl,rfl⟩
theorem aYC {P : Program} {G : List (Nat × Sigma fun τ => List (Ab τ))} {f : FuncId} {fn : Func} {e : Array Value -> Sem Value} (k : FloatKind) (hf : P.funcs[f]? = some fn) (hname : (fn.name == "runtime.NumGoroutine") = false)
  (hb:fn.body.isNone=true) (hn:Extern.findNext fn=none) (he:Extern.find fn=some e) (hrun:∀b,e #[.float k b]=pure (.int (FloatKind.ik k) b)):Sound P G f (aMk k):=by
 refine⟨fun z hz w St ys rs hSt _ hr hnd hrs=>.inr ?_⟩
 obtain⟨y1,l1,r1,q1,rfl,rfl,⟨rfl,h1⟩,rfl,rfl⟩:=hr
 obtain⟨x,⟨⟩⟩:=z
 obtain⟨y,e1,b,rfl,b1,b2⟩:=h1
 cases e1
 cases x with
 |none=>cases hz
 |some x=>
  simp only at b2
  subst b2
  refine⟨_,by rw[run_callFunc_extern hf hname hb hn he];show((e #[_]).run P w).andThen _=_;rw[hrun];rfl,[.int (FloatKind.ik k) (b:Int)],[],rfl,⟨rfl,rfl,rfl,ci _,fun _ _ _=>rfl⟩,fun r hr=>by simp at hr,jt,?_⟩
  exact⟨_,_,[],[],rfl,rfl,⟨rfl,⟨rfl,bAX k b b1⟩⟩,rfl,rfl⟩
end Vx
end
