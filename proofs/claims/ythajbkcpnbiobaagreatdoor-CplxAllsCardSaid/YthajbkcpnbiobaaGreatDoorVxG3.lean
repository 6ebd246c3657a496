/- Part 3 of the proof. What is proved: symbolic execution of the functions, proved sound; what each function of the program computes, and that every run ends with it; what these functions compute, in plain numbers. Conditions: each theorem bears its own. -/
import Derived.Test.YthajbkcpnbiobaaGreatDoorVxG2
import Derived.Laws.Sem
import Derived.Laws.Externs
set_option linter.all false
set_option exponentiation.threshold 1000000
noncomputable section
open Array renaming getD->iw,getD_eq_getD_getElem?->du,getElem?_eq_some_iff->dc,getElem?_setIfInBounds_ne->gl,replicate->jv
open Bool renaming and_eq_true->ag,not_eq_false'->oe,not_eq_true'->dx,or_eq_true->dv
open Classical renaming choose_spec->nl,not_forall->jb,not_imp->jr
open Go.Region renaming ready->ll,wanted->gh
open Go.World renaming size_alloc->gk
open Int renaming eq_ofNat_of_zero_le->cd
open List renaming any_eq_true->pe,append_assoc->fe,append_nil->dk,countP_append->oc,countP_congr->oo,countP_cons->jz,countP_eq_zero->nt,countP_le_length->nk,countP_nil->pn,eq_nil_of_length_eq_zero->cq,flatMap_cons->om,getElem?_append_left->cn,getElem?_append_right->cg,getElem?_cons_zero->gd,getElem?_drop->dt,getElem?_eq_getElem->bo,getElem?_eq_none->df,getElem?_eq_some_iff->bf,getElem?_take_of_lt->cr,getElem?_toArray->gb,length_append->ej,length_cons->dh,length_nil->ee,map_cons->fu,mem_append->cw,mem_cons->cy,mem_cons_of_mem->ic,mem_filter->pk,mem_flatMap->nc,mem_map->lk,mem_range->ku,nodup_append->ju,range->ig,range_succ->pm,set_set->nj
open Nat renaming beq_refl->dr,eq_of_beq_eq_true->ah,eq_or_lt_of_le->lf,le_of_ble_eq_true->jl,le_refl->bu,le_trans->fy,lt_irrefl->mw,lt_of_lt_of_le->al,lt_or_ge->ax,lt_trichotomy->fh,sub_self->gr,zero_add->de,zero_le->dq
open Option renaming getD_some->lw
open Option.some renaming injEq->ae
open Prod.mk renaming injEq->cv
namespace Vx
open Go Go.RowKit
theorem rT{mem:Ag}{c:SC}(h:FV c=true):C8 mem c=(c,mem):=by
 cases c with
 |fn f caps=>cases caps with
  |nil=>rfl
  |cons p r=>simp[FV]at h
 |_=>first|rfl|(simp[FV]at h)
theorem XK{mem:Ag}:∀{l:List SC},AK l=true->E5 mem l=(l,mem)
 | [],_=>rfl
 |c::r,h=>by
  simp only[AK,ag]at h
  simp only[E5,rT h.1,XK h.2]
theorem aCs{mem:Ag}{x:SV}(h:AK x.cells=true):FQ mem x=(x,mem):=by
 cases x with
 |one c=>simp only[SV.cells,AK,Bool.and_true]at h;simp only[FQ,rT h]
 |agg cs=>simp only[SV.cells]at h;simp only[FQ,XK h]
theorem XL{mem:Ag}:∀{sg:Aa} {l:List SV},(∀x∈l,AK x.cells=true)->(Bz mem sg l).2=mem/\(l.length=sg.length->(Bz mem sg l).1=l)
 | [],_,_=>⟨rfl,fun _=>rfl⟩
 |_::_,[],_=>⟨rfl,fun _=>rfl⟩
 |(a,τ)::sg,x::r,h=>by
  obtain⟨h1,h2⟩:=XL (mem:=mem) (sg:=sg) (l:=r) fun y hy=>h y (by simp[hy])
  simp only[Bz]
  cases Lp a τ with
  |true=>exact⟨h1,fun hl=>by simp only[cond_true];rw[h2 (by simpa using hl)]⟩
  |false=>
   simp only[cond_false,aCs (h x (by simp))]
   exact⟨h1,fun hl=>by rw[h2 (by simpa using hl)]⟩
theorem OM{mem m2:Ag}:∀{sg:Aa} {l:List SV},(∀x∈l,AK x.cells=true)->(Bz m2 sg l).1=(Bz mem sg l).1/\∀x∈(Bz mem sg l).1,AK x.cells=true
 | [],_,h=>⟨rfl,h⟩
 |_::_,[],h=>⟨rfl,h⟩
 |(a,τ)::sg,x::r,h=>by
  obtain⟨h1,h2⟩:=OM (mem:=mem) (m2:=m2) (sg:=sg) (l:=r) fun y hy=>h y (by simp[hy])
  simp only[Bz]
  cases Lp a τ with
  |true=>
   simp only[cond_true]
   refine⟨by rw[h1],fun y hy=>?_⟩
   rcases cy.1 hy with rfl|hy
   ·exact h _ (by simp)
   ·exact h2 y hy
  |false=>
   simp only[cond_false,aCs (h x (by simp))]
   refine⟨by rw[h1],fun y hy=>?_⟩
   rcases cy.1 hy with rfl|hy
   ·exact h _ (by simp)
   ·exact h2 y hy
theorem bG9{mem m1:Ag}{a:Bool}{τ:Shape}{z:SV}{x:Ab τ}(hz:AK z.cells=true)(h:Je mem a τ z=some (x,m1)):m1=mem/\∀m2,Je m2 a τ z=some (x,m2):=by
 have plain:∀{a:Bool} {τ:Shape} {x:Ab τ},D7 mem a τ z=some (x,m1)->m1=mem/\∀m2,D7 m2 a τ z=some (x,m2):=fun {a τ x} h=>by
  unfold D7 at h⊢;cases z<;>cases a<;>simp only[cond_true,cond_false]at h⊢<;>first|(cases h;done)|skip
  ·split at h
   ·cases h;exact⟨rfl,fun m2=>rfl⟩
   ·cases h
  ·split at h
   ·cases h;exact⟨rfl,fun m2=>rfl⟩
   ·cases h
 cases τ with
 |slice e=>
  cases a with
  |false=>exact plain h
  |true=>
   simp only[Je,cond_true]at h⊢;split at h
   ·simp[SV.cells,AK,FV]at hz
   ·cases h;exact⟨rfl,fun _=>rfl⟩
   ·cases h
 |_=>exact plain h
theorem Y3:∀{sg:Aa} {mem m1:Ag} {l:List SV} {x:DenS sg},(∀z∈l,AK z.cells=true)->CB mem sg l=some (x,m1)->m1=mem/\∀m2,CB m2 sg l=some (x,m2)
 | [],mem,m1,[],x,_,h=>by simp only[CB]at h;cases h;exact⟨rfl,fun _=>rfl⟩
 | [],mem,m1,_::_,x,_,h=>by simp[CB]at h
 |_::_,mem,m1,[],x,_,h=>by simp[CB]at h
 |(a,τ)::sg,mem,m1,z::l,x,hz,h=>by
  simp only[CB]at h⊢
  split at h
  ·rename_i u m3 e1
   split at h
   ·rename_i v m4 e2
    cases h
    obtain⟨h1,h2⟩:=bG9 (hz z (by simp)) e1
    subst h1
    obtain⟨h3,h4⟩:=Y3 (fun y hy=>hz y (by simp[hy])) e2
    exact⟨h3,fun m2=>by rw[h2 m2];simp only;rw[h4 m2]⟩
   ·cases h
  ·cases h
theorem iD:∀{sg:Aa} {mem m1:Ag} {x:DenS sg} {vs:List SV},Cy mem sg x=some (vs,m1)->m1.length=mem.length->∀m2,Cy m2 sg x=some (vs,m2)
 | [],mem,m1,x,vs,h,_=>by simp only[Cy]at h⊢;cases h;intro m2;rfl
 |(a,τ)::sg,mem,m1,x,vs,h,hl=>by
  simp only[Cy]at h⊢
  split at h
  ·rename_i v m3 e1
   split at h
   ·rename_i r m4 e2
    cases h
    obtain⟨l2,g2⟩:=aCM e2
    have plain:∀{τ:Shape} {y:Ab τ},DJ.giveP mem a τ y=some (v,m3)->m3=mem/\∀m2,DJ.giveP m2 a τ y=some (v,m2):=fun {τ y} h=>by
     unfold DJ.giveP at h⊢
     cases a with
     |true=>simp only[cond_true]at h⊢;cases h;exact⟨rfl,fun _=>rfl⟩
     |false=>
      simp only[cond_false]at h⊢
      split at h
      ·cases h;exact⟨rfl,fun _=>rfl⟩
      ·cases h
    have key:m3=mem/\∀m2,DJ m2 a τ x.1=some (v,m2):=by
     cases τ with
     |slice e=>
      simp only[DJ]at e1⊢
      cases a with
      |true=>
       simp only[cond_true]at e1
       cases e1
       rw[g2]at hl
       simp only[ej,dh,ee]at hl
       omega
      |false=>
       simp only[cond_false]at e1⊢
       split at e1
       ·cases e1;exact⟨rfl,fun _=>rfl⟩
       ·cases e1
     |_=>exact plain e1
    obtain⟨rfl,k2⟩:=key
    have ih:=iD e2 hl
    exact fun m2=>by rw[k2 m2];simp only;rw[ih m2]
   ·cases h
  ·cases h
theorem aNc:∀{sg:Aa} {mem m1:Ag} {x:DenS sg} {vs:List SV},Cy mem sg x=some (vs,m1)->∃l,m1=mem++l/\∀m2,m2.length=mem.length->Cy m2 sg x=some (vs,m2++l)
 | [],mem,m1,x,vs,h=>by simp only[Cy]at h⊢;cases h;exact⟨[],by simp,fun m2 _=>by simp⟩
 |(a,τ)::sg,mem,m1,x,vs,h=>by
  simp only[Cy]at h⊢
  split at h
  ·rename_i v m3 e1
   split at h
   ·rename_i r m4 e2
    cases h
    have plain:∀{τ:Shape} {y:Ab τ},DJ.giveP mem a τ y=some (v,m3)->m3=mem/\∀m2,DJ.giveP m2 a τ y=some (v,m2):=fun {τ y} h=>by
     unfold DJ.giveP at h⊢
     cases a with
     |true=>simp only[cond_true]at h⊢;cases h;exact⟨rfl,fun _=>rfl⟩
     |false=>
      simp only[cond_false]at h⊢
      split at h
      ·cases h;exact⟨rfl,fun _=>rfl⟩
      ·cases h
    have plain':(m3=mem/\∀m2,DJ m2 a τ x.1=some (v,m2))->∃l,m3=mem++l/\∀m2,m2.length=mem.length->DJ m2 a τ x.1=some (v,m2++l):=fun⟨h1,h2⟩=>⟨[],by simp[h1],fun m2 _=>by rw[h2 m2];simp⟩
    have key:∃l,m3=mem++l/\∀m2,m2.length=mem.length->DJ m2 a τ x.1=some (v,m2++l):=by
     cases τ with
     |slice e=>
      simp only[DJ]at e1 plain' ⊢
      cases a with
      |true=>
       simp only[cond_true]at e1⊢
       cases e1
       exact⟨[.arr e x.1],rfl,fun m2 hm=>by rw[hm]⟩
      |false=>
       simp only[cond_false]at e1 plain' ⊢
       split at e1
       ·rename_i c ec
        cases e1
        exact⟨[],by simp,fun m2 _=>by simp⟩
       ·cases e1
     |_=>exact plain' (plain e1)
    obtain⟨l1,rfl,k2⟩:=key
    obtain⟨l2,h3,k4⟩:=aNc e2
    exact⟨l1++l2,by rw[h3,fe],fun m2 hm=>by
     rw[k2 m2 hm]
     simp only
     rw[k4 (m2++l1) (by simp[hm]),fe]⟩
   ·cases h
  ·cases h
theorem aCn{m1 m2:Ag}:∀{sg:Aa} {l:List SV},(∀z∈l,AK z.cells=true)->OJ m1 sg l=OJ m2 sg l
 | [],[],_=>rfl
 | [],_::_,_=>rfl
 |_::_,[],_=>rfl
 |(a,τ)::sg,z::l,h=>by
  simp only[OJ]
  rw[aCn (m1:=m1) (m2:=m2) fun y hy=>h y (by simp[hy])]
  congr 1
  cases Lp a τ with
  |false=>rfl
  |true=>
   simp only[cond_true]
   have hz:=h z (by simp)
   split
   ·simp[SV.cells,AK,FV]at hz
   ·rfl
   ·rfl
theorem aCm{m1 m2:Ag}{f:FuncId}{args:List SV}(h:∀z∈args,AK z.cells=true):∀{l:List (FuncId×Sum)},IY l f m1 args=IY l f m2 args
 | []=>rfl
 |(g,S)::r=>by simp only[IY];rw[aCn (m1:=m1) (m2:=m2) h,aCm h]
variable {C:Cfg}{s:St}{o:Oper}{ctx:List (Nat×Bool)}
theorem Xz{m mem:Ag}{S:Sum}{args:List SV}{g:Bool}{x:TV}(hargs:∀z∈args,AK z.cells=true)(h:FN m S args=some (g,x,mem)):
  ∃l,mem=m++l/\(∀m2,m2.length=m.length->FN m2 S args=some (g,x,m2++l))/\(mem.length=m.length->∀m2,FN m2 S args=some (g,x,m2)):=by
 unfold FN at h⊢;cases hf:Bz m S.ins args with
 |mk args' m1=>
  rw[hf]at h;simp only at h;have k1:=(XL (mem:=m) (sg:=S.ins) hargs).1;have k2:=(OM (mem:=m) (m2:=m) (sg:=S.ins) hargs).2;rw[hf]at k1 k2;simp only at k1 k2;subst k1;split at h
  ·rename_i zm ez;obtain⟨z,m3⟩:=zm;simp only at h;split at h
   ·rename_i vs m4 ev;simp only[ae,cv]at h;obtain⟨rfl,rfl,rfl⟩:=h;obtain⟨rfl,t2⟩:=Y3 k2 ez;have key:∀m2,(∃l,Cy m2 S.outs (S.F z)=some (vs,l))->∀l,Cy m2 S.outs (S.F z)=some (vs,l)->(match Bz m2 S.ins args with
      |(args',m1)=>match CB m1 S.ins args' with
       |some x=>match Cy x.2 S.outs (S.F x.1)with
        |some (vs,mem')=>some (S.pre x.1,O9 vs,mem')
        |none=>none
       |none=>none)=some (S.pre z,O9 vs,l):=fun m2 _ l hl=>by
     have e1:=(OM (mem:=m3) (m2:=m2) (sg:=S.ins) hargs).1;have e2:=(XL (mem:=m2) (sg:=S.ins) hargs).1;rw[hf]at e1;cases hf2:Bz m2 S.ins args with
     |mk args2 m5=>
      rw[hf2]at e1 e2;simp only at e1 e2;subst e1 e2;simp only;rw[t2];simp only;rw[hl]
    obtain⟨l,hl,g2⟩:=aNc ev;exact⟨l,hl,fun m2 h=>key m2 ⟨_,g2 _ h⟩ _ (g2 _ h),fun h m2=>key m2 ⟨_,iD ev h m2⟩ _ (iD ev h m2)⟩
   ·cases h
  ·cases h
theorem aBY{m mem:Ag}{S:Sum}{args:List SV}{g:Bool}{x:TV}(hargs:∀z∈args,AK z.cells=true)(h:FN m S args=some (g,x,mem))(hl:Nat.beq mem.length m.length=true):mem=m:=by
 obtain⟨l,rfl,_⟩:=Xz hargs h;have:=ah hl;simp only[ej]at this;rw[cq (l:=l) (by omega),dk]
theorem aMs{m1 m2:Ag}{I:Aa}{args:List SV}(h:∀z∈args,AK z.cells=true):Ud m1 I args=Ud m2 I args:=by
 have hx:∀m:Ag,Ud m I args=(CB m2 I (Bz m2 I args).1).isSome:=fun m=>by
  unfold Ud;have e1:=(OM (mem:=m2) (m2:=m) (sg:=I) h).1;have e2:=(XL (mem:=m) (sg:=I) h).1;have k2:=(OM (mem:=m2) (m2:=m2) (sg:=I) h).2;cases hf:Bz m I args with
  |mk a b=>
   rw[hf]at e1 e2;simp only at e1 e2;subst e1 e2;simp only;split
   ·rename_i e;rw[(Y3 k2 e).2 m2];rfl
   ·rename_i e;cases e':CB m2 I (Bz m2 I args).1 with
    |none=>rfl
    |some q=>rw[(Y3 k2 e').2 b]at e;cases e
 rw[hx,hx]
theorem aCk{m1 m2:Ag}{T:TypeId}{args:List SV}(h:∀z∈args,AK z.cells=true):∀{l:List (TypeId×SumF)},Ub m1 T args l=Ub m2 T args l
 | []=>rfl
 |(g,S)::r=>by simp only[Ub];rw[aMs (m1:=m1) (m2:=m2) h,aCk h]
theorem aMm{m1 m2:Ag}{m:String}{args:List SV}(h:∀z∈args,AK z.cells=true):∀{l:List (String×SumM)},Uc m1 m args l=Uc m2 m args l
 | []=>rfl
 |(g,S)::r=>by simp only[Uc];rw[aMs (m1:=m1) (m2:=m2) h,aMm h]
theorem aMj{mem:Ag}{f:FuncId}{args:List SV}(h:∀z∈args,AK z.cells=true):∀{l:List (FuncId×SumL)},Gy l f mem args=none
 | []=>rfl
 |(g,L)::r=>by
  have hf:Ld mem L.lend args=false:=by
   cases args with
   |nil=>rfl
   |cons z zs=>
    have hz:=h z (by simp)
    simp only[Ld]
    cases hk:L.lend with
    |win e=>
     simp only[gQ]
     split
     ·simp[SV.cells,AK,FV]at hz
     ·simp[SV.cells,AK,FV]at hz
     ·rfl
    |ref τ=>
     simp only[gQ]
     split
     ·simp[SV.cells,AK,FV]at hz
     ·rfl
  simp only[Gy,hf,Bool.and_false,cond_false]
  exact aMj h
theorem iX{C:Cfg}{mem:Ag}{f:FuncId}{args:List SV}(h:∀z∈args,AK z.cells=true):C.lsum f mem args=none:=aMj h
theorem aDc:∀{l:List Operand},Di s ctx l=true->∀x∈l,∀v,ev s ctx x=some v->aDe v=true
 | [],_,x,hx,_,_=>by simp at hx
 |y::r,h,x,hx,v,hv=>by
  simp only[Di,ag]at h
  rcases cy.1 hx with rfl|hx
  ·rw[hv]at h;exact h.1
  ·exact aDc h.2 x hx v hv
theorem aXV{l:List Operand}(h:Di s ctx l=true){x:Operand}(hx:x∈l){c:SC}(hc:Bh s ctx x=some c):FV c=true:=by
 unfold Bh at hc;split at hc
 ·rename_i c' e;cases hc;have:=aDc h x hx _ e;simpa[aDe,SV.cells,AK]using this
 ·cases hc
theorem aMf{l:List Operand}(h:Di s ctx l=true){x:Operand}(hx:x∈l){c:SV}(hc:E4 s ctx x=some c):AK c.cells=true:=by
 unfold E4 at hc;split at hc
 ·rename_i c' e;cases hc;exact aDc h x hx _ e
 ·cases hc
theorem OG{l:List Operand}(h:Di s ctx l=true):∀{m:List Operand},(∀x∈m,x∈l)->∀{cs:List SV},Es s ctx m=some cs->∀c∈cs,AK c.cells=true
 | [],_,cs,hc,c,hcc=>by simp only[Es]at hc;cases hc;simp at hcc
 |x::m,hm,cs,hc,c,hcc=>by
  simp only[Es]at hc
  split at hc
  ·rename_i v vs e1 e2
   cases hc
   rcases cy.1 hcc with rfl|hcc
   ·exact aMf h (hm x (by simp)) e1
   ·exact OG h (fun y hy=>hm y (by simp[hy])) e2 c hcc
  ·cases hc
theorem rQ{l:List Operand}(h:Di s ctx l=true):∀{m:List (Nat×Operand)},(∀p∈m,p.2∈l)->∀{cs:List (Nat×SV)},Gx s ctx m=some cs->∀c∈cs,AK c.2.cells=true
 | [],_,cs,hc,c,hcc=>by simp only[Gx]at hc;cases hc;simp at hcc
 |(i,x)::m,hm,cs,hc,c,hcc=>by
  simp only[Gx]at hc
  split at hc
  ·rename_i v vs e1 e2
   cases hc
   rcases cy.1 hcc with rfl|hcc
   ·exact aMf h (hm (i,x) (by simp)) e1
   ·exact rQ h (fun y hy=>hm y (by simp[hy])) e2 c hcc
  ·cases hc
theorem sL:∀{a b:List SC},AK (a++b)=(AK a&&AK b)
 | [],b=>by simp[AK]
 |c::a,b=>by simp[AK,sL,Bool.and_assoc]
theorem aOr:∀{l:List SC} (n:Nat),AK l=true->AK (l.take n)=true
 |_,0,_=>by simp[AK]
 | [],_+1,_=>by simp[AK]
 |c::l,n+1,h=>by
  simp only[AK,ag]at h
  simp[AK,h.1,aOr n h.2]
theorem aOq:∀{l:List SC} (n:Nat),AK l=true->AK (l.drop n)=true
 |l,0,h=>by simpa using h
 | [],_+1,_=>by simp[AK]
 |c::l,n+1,h=>by
  simp only[AK,ag]at h
  simpa using aOq n h.2
theorem tY(Bp:Nat->Option (Nat×Nat)):∀{ps:List (Nat×SV)} {old r:List SC},Jd Bp ps old=some r->AK old=true->(∀p∈ps,AK p.2.cells=true)->AK r=true
 | [],old,r,h,ho,_=>by simp only[Jd]at h;cases h;exact ho
 |(i,x)::ps,old,r,h,ho,hp=>by
  simp only[Jd]at h
  split at h
  ·cases h
  ·have h:=(AJ h).2
   split at h
   ·rename_i old' e
    refine tY Bp h ?_ (fun p hp'=>hp p (by simp[hp']))
    obtain⟨h1,_⟩:=tT e
    rw[h1,sL,sL,aOr _ ho,aOq _ ho,hp (i,x) (by simp)]
    rfl
   ·cases h
theorem aPF{v:Value}{c:SC}(h:YU v=some c):FV c=true:=by
 unfold YU at h;(repeat' split at h)<;>first|(cases h;rfl)|(cases h;done)|(have h2:=(AJ h).2;cases h2;rfl)
theorem aPH:∀{l:List Value} {cs:List SC},Uz l=some cs->AK cs=true
 | [],_,h=>by simp only[Uz]at h;cases h;rfl
 |v::r,_,h=>by
  simp only[Uz]at h
  split at h
  ·rename_i e1 e2
   cases h
   simp[AK,aPF e1,aPH e2]
  ·cases h
theorem aEf{P:Program}{T:TypeId}{z:SV}(h:FY P T=some z):AK z.cells=true:=by
 unfold FY at h;split at h
 ·split at h
  ·unfold jZ at h;split at h
   ·split at h
    ·rename_i e;cases h;exact aPH e
    ·cases h
   ·split at h
    ·rename_i e;cases h;simp[SV.cells,AK,aPF e]
    ·cases h
  ·cases h
 ·cases h
theorem sM:∀(n:Nat) {l:List SC},AK l=true->AK (List.replicate n l).flatten=true
 |0,_,_=>rfl
 |n+1,l,h=>by rw[List.replicate_succ,List.flatten_cons,sL,h,sM n h];rfl
theorem aDU{T:TypeId}{y:Operand}{lo hi mx:Option Operand}(h:Di s ctx [y]=true):O6 C s ctx T y lo hi mx=none/\UB C s ctx y lo mx=none/\∀c,Bh s ctx y=some c->FV c=true:=by
 have hn:∀c,Bh s ctx y=some c->FV c=true:=fun c hc=>aXV h (by simp) hc;refine⟨?_,?_,hn⟩
 ·unfold O6;split
  ·rename_i e;have:=hn _ e;cases this
  ·rename_i e;have:=hn _ e;cases this
  ·rfl
 ·unfold UB;cases hb:(C.keep&&lo.isNone&&mx.isNone)with
  |false=>rfl
  |true=>
   simp only[cond_true];split
   ·rename_i e;have:=hn _ e;cases this
   ·rfl
theorem aWZ{m m2:Ag}{τ:Shape}{c:SC}(h:FV c=true):Ow m2 τ c=Ow m τ c:=by
 cases c with
 |own b=>cases h
 |v x=>
  unfold Ow;split<;>first|rfl|(rename_i e;cases e)|simp_all
 |_=>rfl
theorem aC0(hcalm:DG s ctx o.op=true)(hk:Bt o.op<=1){g:Bool}{x:TV}{mem:Ag}(hst:DM o.op s.mem mem=true)(h:Av C s ctx o=some (.ok g x mem)):mem=s.mem:=by
 unfold Av at h;cases hop:o.op with
 |alloc T=>rw[hop]at hk;simp[Bt]at hk
 |box T y=>rw[hop]at hk;simp[Bt]at hk
 |store T y z=>rw[hop]at hk;simp[Bt]at hk
 |makeSlice T l c=>rw[hop]at hk;simp[Bt]at hk
 |slice T y lo hi mx=>
  rw[hop]at h hcalm;obtain⟨h1,h2,hn⟩:=aDU (C:=C) (T:=T) (lo:=lo) (hi:=hi) (mx:=mx) (show Di s ctx [y]=true from hcalm);simp only[h1,h2]at h;split at h
  ·rename_i e c hT ec;split at h
   ·rw[rT (hn c ec)]at h;simp only at h;split at h
    ·split at h
     ·exact BG h
     ·cases h
    ·cases h
   ·cases h
  ·cases h
 |buildSlice T n ps=>
  have hn:Di s ctx o.op.operands.toList=true:=by
   have:=hcalm;rw[hop]at this⊢;exact this
  rw[hop]at h hn;simp only at h;split at h
  ·split at h
   ·rename_i z pl eτ hz hps;cases hn0:(Nat.beq n 0&&pl.isEmpty)with
    |true=>
     rw[hn0]at h;simp only[cond_true]at h;have:=BG h;unfold DM at hst;rw[hop,this]at hst;have hst:=ah hst;simp at hst
    |false=>
    rw[hn0]at h;simp only[cond_false]at h;split at h
    ·rename_i cs ecs;have hcs:AK cs=true:=tY _ ecs (sM n (aEf hz)) (rQ hn (fun p hp=>by
      simp only[Op.operands];simp only[lk];exact⟨p,hp,rfl⟩) hps)
     rw[XK hcs]at h;simp only at h;split at h
     ·exact BG (AJ h).2
     ·cases h
    ·cases h
   ·cases h
  ·cases h
 |indexAddr T y z=>
  rw[hop]at h hcalm;simp only at h;split at h
  ·split at h
   ·exact BG (AJ (D4 h)).2
   ·cases h
  ·split at h
   ·exact BG (D4 h)
   ·cases h
  ·rename_i e c i hT ec ei;split at h
   ·split at h
    ·split at h
     ·exact BG (D4 h)
     ·rename_i eb;simp only[DG,ec,eb]at hcalm;cases hcalm
     ·exact BG (D4 h)
     ·cases h
    ·exact BG (D4 h)
    ·split at h
     ·exact BG (D4 h)
     ·cases h
    ·cases h
   ·cases h
  ·cases h
 |call c=>
  rw[hop]at h hk hcalm;simp only at h;cases hc:c.callee with
  |value fo=>
   have hn:Di s ctx (Op.call c).operands.toList=true:=by simpa only[DG,hc]using hcalm
   have hlen:Nat.beq mem.length s.mem.length=true:=by unfold DM at hst;rw[hop]at hst;simpa only[hc]using hst
   simp only[hc]at h;split at h
   ·rename_i f caps args ef eargs;have hargs:=OG hn (m:=c.args.toList) (fun x hx=>by simp[Op.operands,Call.operands,hc];exact .inr (by simpa using hx)) eargs;split at h
    ·rename_i L eL;exfalso;split at eL
     ·rw[iX hargs]at eL;cases eL
     ·cases eL
    split at h
    ·split at h
     ·rename_i ec;rw[←BG h]at ec;exact aBY hargs ec hlen
     ·cases h
    ·have h2:=(AJ h).2;cases h2
   ·rename_i args ef eargs;have hargs:=OG hn (m:=c.args.toList) (fun x hx=>by simp[Op.operands,Call.operands,hc];exact .inr (by simpa using hx)) eargs;split at h
    ·split at h
     ·rename_i ec;rw[←BG h]at ec;exact aBY hargs ec hlen
     ·cases h
    ·cases h
   ·cases h
  |invoke r m=>
   have hn:Di s ctx (Op.call c).operands.toList=true:=by simpa only[DG,hc]using hcalm
   have hlen:Nat.beq mem.length s.mem.length=true:=by unfold DM at hst;rw[hop]at hst;simpa only[hc]using hst
   simp only[hc]at h;split at h
   ·rename_i args ef eargs;have hargs:=OG hn (m:=c.args.toList) (fun x hx=>by simp[Op.operands,Call.operands,hc];exact .inr (by simpa using hx)) eargs;split at h
    ·split at h
     ·rename_i ec;rw[←BG h]at ec;exact aBY hargs ec hlen
     ·cases h
    ·cases h
   ·cases h
  |builtin b=>
   simp only[Bt,hc]at hk;simp only[hc]at h;cases b<;>simp only at h hk<;>first|omega|(cases h;done)|(repeat' split at h)<;>first|(cases h;done)|exact BG h|exact BG (AJ h).2|exact BG (D4 h)
 |range T y=>rw[hop]at hk;simp[Bt]at hk
 |next y st=>rw[hop]at hk;simp[Bt]at hk
 |_=>
  rw[hop]at h;simp only at h;(repeat' split at h)<;>first|(cases h;done)|exact BG h|exact BG (AJ h).2|exact BG (D4 h)|(have h2:=(AJ h).2;cases h2)
theorem Cj{g g':Bool}{x x':TV}{m m':Ag}(h:some (Res.ok g x m)=some (Res.ok g' x' m'))(m2:Ag):some (Res.ok g x m2)=some (Res.ok g' x' m2):=by
 cases h;rfl
def yA(m m2:Ag)(c:SC):Prop:=∀b,aLv c=some b->Ac m2 b=Ac m b
theorem aXj{m m2:Ag}{c:SC}(h:yA m m2 c):OA m2 c=OA m c:=by
 cases c with
 |ptr b off=>simp only[OA,h b rfl]
 |eptr b i off=>simp only[OA,h b rfl]
 |_=>rfl
theorem aZs{m m2:Ag}{c:SC}(h:yA m m2 c):lenOf m2 c=lenOf m c:=by
 cases c with
 |own b=>simp only[lenOf,h b rfl]
 |v x=>
  unfold lenOf;split<;>first|rfl|(rename_i e;cases e)|simp_all
 |_=>rfl
theorem gM(m2:Ag)(ctx:List (Nat×Bool))(y:Operand):ev {s with mem:=m2} ctx y=ev s ctx y:=by cases y<;>rfl
theorem D2(m2:Ag)(ctx:List (Nat×Bool))(y:Operand):Bh {s with mem:=m2} ctx y=Bh s ctx y:=by unfold Bh;rw[gM]
theorem gL(m2:Ag)(ctx:List (Nat×Bool))(y:Operand):E4 {s with mem:=m2} ctx y=E4 s ctx y:=by unfold E4;rw[gM]
theorem XE(m2:Ag)(ctx:List (Nat×Bool)):∀l:List Operand,Es {s with mem:=m2} ctx l=Es s ctx l
 | []=>rfl
 |x::r=>by simp only[Es,gL,XE m2 ctx r]
theorem rP(m2:Ag)(ctx:List (Nat×Bool)):∀l:List (Nat×Operand),Gx {s with mem:=m2} ctx l=Gx s ctx l
 | []=>rfl
 |(i,x)::r=>by simp only[Gx,gL,rP m2 ctx r]
theorem aCV(m2:Ag)(ctx:List (Nat×Bool))(y:Operand):E7 {s with mem:=m2} ctx y=E7 s ctx y:=by unfold E7;rw[D2]
def lM(m m2:Ag):FP->Prop
 |.pure=>True
 |.rd (some b)=>Ac m2 b=Ac m b
 |.wr (some b)=>Ac m2 b=Ac m b
 |.mk _=>m2.length=m.length
 |_=>m2=m
theorem Vu{m2:Ag}{y:Operand}{c:SC}(hc:Bh s ctx y=some c)(h:lM s.mem m2 (OL s ctx y)):yA s.mem m2 c:=by
 intro b hb;unfold OL at h;rw[hc]at h;simp only[hb]at h;exact h
theorem aYc(hcalm:DG s ctx o.op=true)(hk:Bt o.op<=1){g:Bool}{x:TV}{mem:Ag}(hst:DM o.op s.mem mem=true)(h:Av C s ctx o=some (.ok g x mem))(m2:Ag)(hs:lM s.mem m2 (EA s ctx o.op)):
  Av C {s with mem:=m2} ctx o=some (.ok g x m2):=by
 by_cases hfull:m2=s.mem
 ·subst hfull;have:=aC0 hcalm hk hst h;subst this;exact h
 unfold Av at h⊢;cases hop:o.op with
 |alloc T=>rw[hop]at hk;simp[Bt]at hk
 |box T y=>rw[hop]at hk;simp[Bt]at hk
 |store T y z=>rw[hop]at hk;simp[Bt]at hk
 |makeSlice T l c=>rw[hop]at hk;simp[Bt]at hk
 |slice T y lo hi mx=>
  rw[hop]at h hcalm;have hcalm:Di s ctx [y]=true:=hcalm;obtain⟨h1,h2,hn⟩:=aDU (C:=C) (T:=T) (lo:=lo) (hi:=hi) (mx:=mx) hcalm;obtain⟨h1',h2',_⟩:=aDU (C:=C) (s:={s with mem:=m2}) (T:=T) (lo:=lo) (hi:=hi) (mx:=mx) (y:=y) (by
   simp only[Di,gM]at hcalm⊢;exact hcalm)
  simp only[h1,h2]at h;simp only[h1',h2',D2,aCV]at h⊢;split at h
  ·rename_i e c hT ec;split at h
   ·rename_i τ eτ;rw[rT (hn c ec)]at h⊢;simp only at h⊢;rw[aWZ (m:=s.mem) (hn c ec)];split at h
    ·split at h
     ·exact Cj h m2
     ·cases h
    ·cases h
   ·cases h
  ·cases h
 |makeFunc fn first captured=>rw[hop]at hs;exact absurd hs hfull
 |load T y=>
  rw[hop]at h hs;simp only[D2]at h⊢;split at h
  ·rename_i a ea;have hag:=Vu ea hs;simp only[aXj hag];(repeat' split at h)<;>first|(cases h;done)|exact Cj h m2
  ·cases h
 |nilCheck y=>
  rw[hop]at h hs;simp only[gM]at h⊢;split at h
  ·rename_i b off ea;have hag:=Vu (c:=.ptr b off) (by unfold Bh;rw[ea]) hs b rfl;simp only[hag];(repeat' split at h)<;>first|(cases h;done)|exact Cj h m2
  ·cases h
 |fieldAddr T y i=>
  rw[hop]at h hs;simp only[D2]at h⊢;split at h
  ·rename_i b off d ft ea ef;have hag:=Vu ea hs b rfl;simp only[hag];(repeat' split at h)<;>first|(cases h;done)|exact Cj h m2
  ·rename_i b j off d ft ea ef;have hag:=Vu ea hs b rfl;simp only[hag];(repeat' split at h)<;>first|(cases h;done)|exact Cj h m2
  ·exact Cj h m2
  ·cases h
 |indexAddr T y z=>
  rw[hop]at h hs;simp only[D2,aCV]at h⊢;split at h
  ·split at h
   ·split at h
    ·rename_i heq;rw[if_pos heq];obtain⟨h1,h2⟩:=AJ h;simp only[h1,cond_true];exact Cj h2 m2
    ·cases h
   ·cases h
  ·rename_i ea ei;have hag:=Vu ea hs _ rfl;simp only[hag];split at h
   ·split at h
    ·rename_i heq;rw[if_pos heq];exact Cj h m2
    ·cases h
   ·cases h
  ·rename_i c i hT ea ei;have hag:=Vu ea hs;split at h
   ·rename_i τ eτ;cases c with
    |own b=>
     have hb:=hag b rfl;simp only at h⊢;simp only[hb];have hc2:=hcalm;rw[hop]at hc2;simp only[DG,ea]at hc2;split at h
     ·split at h
      ·rename_i heq;rw[if_pos heq];exact Cj h m2
      ·cases h
     ·rename_i eb;rw[eb]at hc2;cases hc2
     ·split at h
      ·rename_i heq;rw[if_pos heq];exact Cj h m2
      ·cases h
     ·cases h
    |sl τ' xs=>
     simp only at h⊢;split at h
     ·rename_i heq;rw[if_pos heq];exact Cj h m2
     ·cases h
    |sub b lo n=>
     have hb:=hag b rfl;simp only at h⊢;simp only[hb];split at h
     ·split at h
      ·rename_i heq;rw[if_pos heq];exact Cj h m2
      ·cases h
     ·cases h
    |_=>simp only at h;cases h
   ·cases h
  ·cases h
 |buildSlice T n ps=>
  have hn:Di s ctx o.op.operands.toList=true:=by
   have:=hcalm;rw[hop]at this⊢;exact this
  rw[hop]at h hn;simp only[rP]at h⊢;split at h
  ·split at h
   ·rename_i z pl eτ hz hps;cases hn0:(Nat.beq n 0&&pl.isEmpty)with
    |true=>
     rw[hn0]at h;simp only[cond_true]at h;have:=BG h;unfold DM at hst;rw[hop,this]at hst;have hst:=ah hst;simp at hst
    |false=>
    rw[hn0]at h;simp only[cond_false]at h⊢;split at h
    ·rename_i cs ecs;have hcs:AK cs=true:=tY _ ecs (sM n (aEf hz)) (rQ hn (fun p hp=>by
      simp only[Op.operands];simp only[lk];exact⟨p,hp,rfl⟩) hps)
     rw[XK hcs]at h⊢;simp only at h⊢;split at h
     ·obtain⟨h1,h2⟩:=AJ h;simp only[h1,cond_true];exact Cj h2 m2
     ·cases h
    ·cases h
   ·cases h
  ·cases h
 |call c=>
  rw[hop]at h hk hs hcalm;cases hc:c.callee with
  |value fo=>
   have hn:Di s ctx (Op.call c).operands.toList=true:=by simpa only[DG,hc]using hcalm
   have hlen:mem.length=s.mem.length:=by unfold DM at hst;rw[hop]at hst;simp only[hc]at hst;exact ah hst
   simp only[hc,D2,XE]at h⊢;split at h
   ·rename_i f caps args ef eargs;have hargs:=OG hn (m:=c.args.toList) (fun x hx=>by simp[Op.operands,Call.operands,hc];exact .inr (by simpa using hx)) eargs;have hsum:C.sum f m2 args=C.sum f s.mem args:=aCm hargs;rw[hsum];split at h
    ·rename_i L eL;exfalso;split at eL
     ·rw[iX hargs]at eL;cases eL
     ·cases eL
    split
    ·rename_i L eL;exfalso;split at eL
     ·rw[iX hargs]at eL;cases eL
     ·cases eL
    split at h
    ·split at h
     ·rename_i ec;have hm:=BG h;rw[(Xz hargs ec).choose_spec.2.2 (by rw[←hm];exact hlen) m2];exact Cj h m2
     ·cases h
    ·have h2:=(AJ h).2;cases h2
   ·rename_i args ef eargs;have hargs:=OG hn (m:=c.args.toList) (fun x hx=>by simp[Op.operands,Call.operands,hc];exact .inr (by simpa using hx)) eargs;rw[aCk (m1:=m2) (m2:=s.mem) hargs];split at h
    ·split at h
     ·rename_i ec;have hm:=BG h;rw[(Xz hargs ec).choose_spec.2.2 (by rw[←hm];exact hlen) m2];exact Cj h m2
     ·cases h
    ·cases h
   ·cases h
  |invoke r m=>
   have hn:Di s ctx (Op.call c).operands.toList=true:=by simpa only[DG,hc]using hcalm
   have hlen:mem.length=s.mem.length:=by unfold DM at hst;rw[hop]at hst;simp only[hc]at hst;exact ah hst
   simp only[hc,D2,XE]at h⊢;split at h
   ·rename_i args ef eargs;have hargs:=OG hn (m:=c.args.toList) (fun x hx=>by simp[Op.operands,Call.operands,hc];exact .inr (by simpa using hx)) eargs;rw[aMm (m1:=m2) (m2:=s.mem) hargs];split at h
    ·split at h
     ·rename_i ec;have hm:=BG h;rw[(Xz hargs ec).choose_spec.2.2 (by rw[←hm];exact hlen) m2];exact Cj h m2
     ·cases h
    ·cases h
   ·cases h
  |builtin b=>
   cases b with
   |len=>
    simp only[hc,D2]at h⊢;simp only[EA,hc]at hs;split at h
    ·rename_i x T ex eT;rw[ex]at hs;simp only at hs;split at h
     ·obtain⟨h1,h2⟩:=AJ h;simp only[h1,cond_true];exact Cj h2 m2
     ·split at h
      ·rename_i a ea;have hag:=Vu ea hs;split at h
       ·cases h
       ·rename_i b lo n;have hb:=hag b rfl;simp only[hb];split at h
        ·exact Cj h m2
        ·cases h
       ·simp only[aZs hag];(repeat' split at h)<;>first|(cases h;done)|exact Cj h m2
      ·cases h
     ·split at h
      ·exact Cj h m2
      ·cases h
     ·cases h
    ·cases h
   |min=>
    simp only[hc,D2]at h⊢;split at h
    ·split at h
     ·split at h
      ·rename_i hk';rw[if_pos hk'];exact Cj h m2
      ·cases h
     ·cases h
    ·cases h
   |max=>
    simp only[hc,D2]at h⊢;split at h
    ·split at h
     ·split at h
      ·rename_i hk';rw[if_pos hk'];exact Cj h m2
      ·cases h
     ·cases h
    ·cases h
   |complex=>
    simp only[hc,D2]at h⊢;split at h
    ·split at h
     ·split at h
      ·rename_i hk';rw[if_pos hk'];exact Cj h m2
      ·cases h
     ·cases h
    ·cases h
   |real=>
    simp only[hc,D2]at h⊢;split at h
    ·split at h
     ·exact Cj h m2
     ·cases h
    ·cases h
   |imag=>
    simp only[hc,D2]at h⊢;split at h
    ·split at h
     ·exact Cj h m2
     ·cases h
    ·cases h
   |append=>simp[Bt,hc]at hk
   |copy=>simp[Bt,hc]at hk
   |_=>simp only[hc]at h;cases h
 |index T y z=>
  rw[hop]at h;simp only[D2,aCV]at h⊢;split at h
  ·exact Cj h m2
  ·cases h
 |range T y=>rw[hop]at hk;simp[Bt]at hk
 |next y st=>rw[hop]at hk;simp[Bt]at hk
 |_=>
  rw[hop]at h;simp only[gM,D2,gL,rP]at h⊢;first
   |(cases h;done)
   |((repeat' split at h)<;>first|(cases h;done)|exact Cj h m2|(obtain⟨h1,h2⟩:=AJ h;simp only[h1,cond_true];first|(cases h2;done)|exact Cj h2 m2))
theorem aMz{T:TypeId}{y z:Operand}(hop:o.op=.store T y z){g:Bool}{x:TV}{mem:Ag}(h:Av C s ctx o=some (.ok g x mem)){m2:Ag}{b:Nat}(hf:EA s ctx o.op=.wr (some b))(hb:Ac m2 b=Ac s.mem b):
  Ac s.mem b≠.gone/\∃e,mem=s.mem.set b e/\Av C {s with mem:=m2} ctx o=some (.ok g x (m2.set b e)):=by
 unfold Av at h⊢;rw[hop]at h hf;rw[hop];simp only[D2,gL]at h⊢;simp only[EA]at hf;split at h
 ·rename_i b' off v ey ez;rw[ey,ez]at hf;simp only[FP.wr.injEq,ae]at hf;subst hf;simp only[hb];split at h
  ·rename_i eb;obtain⟨h1,h2⟩:=AJ h;simp only[h1,cond_true];split at h2
   ·rename_i cs' ecs;cases h2;exact⟨by rw[eb];simp,_,rfl,rfl⟩
   ·cases h2
  ·cases h
 ·rename_i b' i off v ey ez;rw[ey,ez]at hf;simp only at hf;cases hno:AK v.cells with
  |false=>rw[hno]at hf;simp at hf
  |true=>
   rw[hno]at hf;simp only[cond_true,FP.wr.injEq,ae]at hf;subst hf;rw[aCs hno]at h⊢;simp only[hb]at h⊢;split at h
   ·rename_i eb;obtain⟨h1,h2⟩:=AJ h;simp only[h1,cond_true];split at h2
    ·split at h2
     ·cases h2;exact⟨by rw[eb];simp,_,rfl,rfl⟩
     ·cases h2
    ·cases h2
   ·cases h
 ·cases h
theorem aCq{g:Bool}{x:TV}{mem:Ag}(hop:(∃T,o.op=.alloc T)∨∃T y,o.op=.box T y)(h:Av C s ctx o=some (.ok g x mem)):
  ∃e,mem=s.mem++[e]/\∀m2:Ag,m2.length=s.mem.length->Av C {s with mem:=m2} ctx o=some (.ok g x (m2++[e])):=by
 unfold Av at h⊢;rcases hop with⟨T,hop⟩|⟨T,y,hop⟩
 ·rw[hop]at h⊢;simp only at h⊢;split at h
  ·split at h
   ·split at h
    ·rename_i xs exs;cases h;exact⟨_,rfl,fun m2 hm=>by rw[hm]⟩
    ·cases h
   ·cases h
  ·cases h;exact⟨_,rfl,fun m2 hm=>by rw[hm]⟩
  ·cases h
 ·rw[hop]at h⊢;simp only[gL]at h⊢;split at h
  ·split at h
   ·split at h
    ·rename_i xs exs;cases h;exact⟨_,rfl,fun m2 hm=>by rw[hm]⟩
    ·cases h
   ·cases h
  ·cases h;exact⟨_,rfl,fun m2 hm=>by rw[hm]⟩
  ·cases h
theorem aLB{g:Bool}{x:TV}{mem:Ag}(hcalm:DG s ctx o.op=true∨Bt o.op=2)(hm:iY o.op s.mem mem=true)(h:Av C s ctx o=some (.ok g x mem)):
  ∃e,mem=s.mem++[e]/\∀m2,m2.length=s.mem.length->Av C {s with mem:=m2} ctx o=some (.ok g x (m2++[e])):=by
 cases hop:o.op with
 |call c=>
  rw[hop]at hm;cases hc:c.callee with
  |value fo=>
   simp only[iY,hc]at hm;have hlen:=ah hm;have hcalm:DG s ctx o.op=true:=hcalm.resolve_right (by rw[hop];simp[Bt,hc]);rw[hop]at hcalm;have hn:Di s ctx (Op.call c).operands.toList=true:=by simpa only[DG,hc]using hcalm
   have hex:∃e,mem=s.mem++[e]/\∀m2,m2.length=s.mem.length->Av C {s with mem:=m2} ctx o=some (.ok g x (m2++[e])):=by
    unfold Av at h⊢;rw[hop]at h⊢;simp only[hc,D2,XE]at h⊢;split at h
    ·rename_i f caps args ef eargs;have hargs:=OG hn (m:=c.args.toList) (fun x hx=>by simp[Op.operands,Call.operands,hc];exact .inr (by simpa using hx)) eargs;split at h
     ·rename_i L eL;exfalso;split at eL
      ·rw[iX hargs]at eL;cases eL
      ·cases eL
     split at h
     ·rename_i S eS;have hcaps:caps=[]/\C.sum f s.mem args=some S:=by
       cases caps with
       |nil=>exact⟨rfl,eS⟩
       |cons _ _=>cases eS
      obtain⟨rfl,hS⟩:=hcaps;split at h
      ·rename_i ec;have hmm:=BG h;obtain⟨l,hl1,hl2,_⟩:=Xz hargs ec;have hle:∃e,l=[e]:=by
        rw[hmm,hl1]at hlen;simp only[ej]at hlen;match l,hlen with
        | [e],_=>exact⟨e,rfl⟩
        | [],h=>simp at h
        |_::_::_,h=>simp at h
       obtain⟨e,rfl⟩:=hle;refine⟨e,by rw[hmm,hl1],fun m2 hm2=>?_⟩;have hsum:C.sum f m2 args=some S:=(aCm hargs).trans hS;split
       ·rename_i L eL;exfalso;split at eL
        ·rw[iX hargs]at eL;cases eL
        ·cases eL
       simp only[hsum];rw[hl2 m2 hm2];exact Cj h _
      ·cases h
     ·have h2:=(AJ h).2;cases h2
    ·rename_i args ef eargs;have hargs:=OG hn (m:=c.args.toList) (fun x hx=>by simp[Op.operands,Call.operands,hc];exact .inr (by simpa using hx)) eargs;split at h
     ·rename_i S eS;split at h
      ·rename_i ec;have hmm:=BG h;obtain⟨l,hl1,hl2,_⟩:=Xz hargs ec;have hle:∃e,l=[e]:=by
        rw[hmm,hl1]at hlen;simp only[ej]at hlen;match l,hlen with
        | [e],_=>exact⟨e,rfl⟩
        | [],h=>simp at h
        |_::_::_,h=>simp at h
       obtain⟨e,rfl⟩:=hle;refine⟨e,by rw[hmm,hl1],fun m2 hm2=>?_⟩;rw[aCk (m1:=m2) (m2:=s.mem) hargs,eS];simp only;rw[hl2 m2 hm2];exact Cj h _
      ·cases h
     ·cases h
    ·cases h
   exact hex
  |invoke r m=>simp only[iY,hc]at hm;cases hm
  |builtin b=>simp only[iY,hc]at hm;cases hm
 |buildSlice T n ps=>
  rw[hop]at hm;have hlen:=ah hm;have hcalm:DG s ctx o.op=true:=hcalm.resolve_right (by rw[hop];simp[Bt]);have hn:Di s ctx o.op.operands.toList=true:=by
   have:=hcalm;rw[hop]at this⊢;exact this
  unfold Av at h⊢;rw[hop]at h hn⊢;simp only[rP]at h⊢;split at h
  ·split at h
   ·rename_i z pl eτ hz hps;cases hn0:(Nat.beq n 0&&pl.isEmpty)with
    |true=>
     rw[hn0]at h;simp only[cond_true,ae,Res.ok.injEq]at h⊢;obtain⟨rfl,rfl,rfl⟩:=h;exact⟨_,rfl,fun m2 hm2=>by rw[hm2];exact⟨rfl,rfl,rfl⟩⟩
    |false=>
     exfalso;rw[hn0]at h;simp only[cond_false]at h;split at h
     ·rename_i cs ecs;have hcs:AK cs=true:=tY _ ecs (sM n (aEf hz)) (rQ hn (fun p hp=>by
       simp only[Op.operands];simp only[lk];exact⟨p,hp,rfl⟩) hps)
      rw[XK hcs]at h;simp only at h;split at h
      ·have:=BG (AJ h).2;rw[this]at hlen;omega
      ·cases h
     ·cases h
   ·cases h
  ·cases h
 |_=>rw[hop]at hm;cases hm
theorem aMi{m m2:Ag}{f:FuncId}{b:Nat}{r:List SV}(hb:Ac m2 b=Ac m b):∀{l:List (FuncId×SumL)},Gy l f m2 (.one (.own b)::r)=Gy l f m (.one (.own b)::r)
 | []=>rfl
 |(g,L)::rest=>by
  have hf:Ld m2 L.lend (.one (.own b)::r)=Ld m L.lend (.one (.own b)::r):=by
   simp only[Ld]
   cases L.lend with
   |win e=>simp only[gQ,hb]
   |ref τ=>rfl
  simp only[Gy,hf,aMi hb (l:=rest)]
theorem aXY{m m2:Ag}{b:Nat}{r:List SV}(hb:Ac m2 b=Ac m b)(h:∀z∈r,AK z.cells=true){sg:Aa}:OJ m2 sg (.one (.own b)::r)=OJ m sg (.one (.own b)::r):=by
 cases sg with
 |nil=>rfl
 |cons p sg=>
  obtain⟨a,τ⟩:=p;simp only[OJ,hb,aCn (m1:=m2) (m2:=m) h]
theorem aMo{m m2:Ag}{f:FuncId}{b:Nat}{r:List SV}(hb:Ac m2 b=Ac m b)(h:∀z∈r,AK z.cells=true):∀{l:List (FuncId×Sum)},IY l f m2 (.one (.own b)::r)=IY l f m (.one (.own b)::r)
 | []=>rfl
 |(g,S)::rest=>by simp only[IY,aXY hb h,aMo hb h (l:=rest)]
theorem aLC{b:Nat}{g:Bool}{x:TV}{mem:Ag}(ho1:i6 C s ctx o.op=some b)(hl:mem.length=s.mem.length)(h:Av C s ctx o=some (.ok g x mem)):
  Ac s.mem b≠.gone/\mem=s.mem.set b .gone/\∀m2,Ac m2 b=Ac s.mem b->Av C {s with mem:=m2} ctx o=some (.ok g x (m2.set b .gone)):=by
 cases hop:o.op with
 |call c=>
  rw[hop]at ho1;cases hc:c.callee with
  |value fo=>
   simp only[i6,hc]at ho1;split at ho1
   ·rename_i f b' r ef ea;split at ho1
    ·rename_i S eL eS;split at ho1
     ·rename_i e sg hins;obtain⟨hall,ho1⟩:=AJ ho1;cases ho1;have hr:∀z∈r,AK z.cells=true:=by simpa using hall
      unfold Av at h⊢;rw[hop]at h⊢;simp only[hc,D2,XE,ef,ea]at h⊢;have hL:(match o.guard with|none=>C.lsum f s.mem (.one (.own b)::r)|_=>none)=none:=by
       split
       ·exact eL
       ·rfl
      have step1:∀m2,Ac m2 b=Ac s.mem b->C.lsum f m2 (.one (.own b)::r)=none/\C.sum f m2 (.one (.own b)::r)=some S:=fun m2 hb=>⟨(aMi hb).trans eL,(aMo hb hr).trans eS⟩
      split at h
      ·rename_i L e';exfalso;split at e'
       ·rw[eL]at e';cases e'
       ·cases e'
      simp only[eS]at h;cases S with
      |mk ins outs pre F=>
      simp only at hins;subst hins;split at h;rotate_left
      ·cases h
      rename_i g' x' m' ec;have hmm:=BG h;subst hmm;unfold FN at ec;simp only[Bz,Lp,cond_true]at ec;have fr:∀m2,(Bz m2 sg r).2=m2/\(Bz m2 sg r).1=(Bz s.mem sg r).1:=fun m2=>⟨(XL hr).1,(OM hr).1⟩
      have hr':∀z∈(Bz s.mem sg r).1,AK z.cells=true:=(OM (mem:=s.mem) (m2:=s.mem) hr).2;rw[(fr s.mem).1]at ec;simp only[CB]at ec;have key:∀(u:List (Ab e)) (m1:Ag),Je s.mem true (.slice e) (.one (.own b))=some (u,m1)->m1=s.mem.set b .gone/\Ac s.mem b≠.gone/\∀m2,Ac m2 b=Ac s.mem b->Je m2 true (.slice e) (.one (.own b))=some (u,m2.set b .gone):=fun u m1 h=>by
       simp only[Je,cond_true]at h⊢;cases eb:Ac s.mem b with
       |arr τ' xs=>
        rw[eb]at h;simp only at h;split at h
        ·rename_i xs' ec;cases h;exact⟨rfl,by simp,fun m2 hm=>by rw[hm];simp only[ec]⟩
        ·cases h
       |acc τ' xs=>
        rw[eb]at h;simp only at h;split at h
        ·rename_i xs' ec;cases h;exact⟨rfl,by simp,fun m2 hm=>by rw[hm];simp only[ec]⟩
        ·cases h
       |_=>rw[eb]at h;cases h
      split at ec
      ·rename_i zm ez;obtain⟨z,m3⟩:=zm;simp only at ec;split at ez
       ·rename_i u m1 e1;obtain⟨q1,q2,q3⟩:=key u m1 e1;subst q1;split at ez
        ·rename_i v m4 e2;cases ez;obtain⟨w1,w2⟩:=Y3 hr' e2;subst w1;split at ec
         ·rename_i vs m5 ev;cases ec;have hsame:mem.length=(s.mem.set b .gone).length:=by rw[hl];simp
          have gs:=aCN ev hsame;refine⟨q2,gs,fun m2 hb=>?_⟩;obtain⟨s1,s2⟩:=step1 m2 hb;split
          ·rename_i L e';exfalso;split at e'
           ·rw[s1]at e';cases e'
           ·cases e'
          simp only[s2,FN,Bz,Lp,cond_true];rw[(fr m2).1,(fr m2).2];simp only[CB];rw[q3 m2 hb];simp only;rw[w2 (m2.set b .gone)];simp only;rw[iD ev hsame (m2.set b .gone)];simp only;exact Cj h _
         ·cases ec
        ·cases ez
       ·cases ez
      ·cases ec
     ·cases ho1
    ·cases ho1
   ·cases ho1
  |invoke r m=>simp only[i6,hc]at ho1;cases ho1
  |builtin b=>simp only[i6,hc]at ho1;cases ho1
 |_=>rw[hop]at ho1;cases ho1
theorem aMk{m m2:Ag}{f:FuncId}{b:Nat}{r:List SV}(hb:Ac m2 b=Ac m b):∀{l:List (FuncId×SumL)},Gy l f m2 (.one (.ptr b 0)::r)=Gy l f m (.one (.ptr b 0)::r)
 | []=>rfl
 |(g,L)::rest=>by
  have hf:Ld m2 L.lend (.one (.ptr b 0)::r)=Ld m L.lend (.one (.ptr b 0)::r):=by
   simp only[Ld]
   cases L.lend with
   |win e=>rfl
   |ref τ=>simp only[gQ,hb]
  simp only[Gy,hf,aMk hb (l:=rest)]
theorem aLA{b:Nat}{g:Bool}{x:TV}{mem:Ag}(hg:o.guard=none)(hl1:iW C s ctx o.op=some b)(hl:mem.length=s.mem.length)(h:Av C s ctx o=some (.ok g x mem)):
  Ac s.mem b≠.gone/\∃e,mem=s.mem.set b e/\∀m2,Ac m2 b=Ac s.mem b->Av C {s with mem:=m2} ctx o=some (.ok g x (m2.set b e)):=by
 cases hop:o.op with
 |call c=>
  rw[hop]at hl1;cases hc:c.callee with
  |value fo=>
   simp only[iW,hc]at hl1;split at hl1
   ·rename_i f b' r ef ea;split at hl1
    ·rename_i cs eb;obtain⟨hcond,hl1⟩:=AJ hl1;simp only[ag]at hcond;split at hl1
     ·rename_i L eL;split at hl1
      ·rename_i τ hlend;cases hl1;have hcs:=hcond.1;have hr:∀z∈r,AK z.cells=true:=by simpa using hcond.2
       unfold Av at h⊢;rw[hop]at h⊢;simp only[hc,D2,XE,ef,ea,hg]at h⊢;cases L with
       |mk lend ins outs pre F=>
       simp only at hlend;subst hlend;have eL2:∀m2,Ac m2 b=Ac s.mem b->C.lsum f m2 (.one (.ptr b 0)::r)=some ⟨.ref τ,ins,outs,pre,F⟩:=fun m2 hb=>(aMk hb).trans eL;simp only[eL]at h;have pre1:∀m2,Ac m2 b=.raw cs->Lu m2 (.ref τ) (.one (.ptr b 0))=m2:=fun m2 hb=>by
        simp only[Lu,hb,XK hcs];exact jR hb (by simp)
       have fr:∀m2,(Bz m2 ins r).2=m2/\(Bz m2 ins r).1=(Bz s.mem ins r).1:=fun m2=>⟨(XL hr).1,(OM hr).1⟩
       have hr':∀z∈(Bz s.mem ins r).1,AK z.cells=true:=(OM (mem:=s.mem) (m2:=s.mem) hr).2;rw[pre1 s.mem eb]at h;rw[(fr s.mem).1]at h;split at h
       ·rename_i v m2 ez;obtain⟨w1,w2⟩:=Y3 hr' ez;subst w1;simp only[VO,eb]at h;split at h
        ·rename_i b2 xl m3 el;split at el
         ·rename_i x0 ep;cases el;simp only[Vw,nj]at h;split at h
          ·rename_i vs m4 ev;simp only[ae,Res.ok.injEq]at h;obtain⟨rfl,rfl,rfl⟩:=h;have hsame:m4.length=(s.mem.set b (.raw (cellsOf τ (F (xl,v)).1))).length:=by rw[hl];simp
           have gs:=aCN ev hsame;refine⟨by rw[eb];simp,_,gs,fun m2 hb=>?_⟩;rw[eL2 m2 hb];have hb2:Ac m2 b=.raw cs:=hb.trans eb;simp only;rw[pre1 m2 hb2,(fr m2).1,(fr m2).2,w2 m2];simp only[VO,hb2,ep,Vw,nj];rw[iD ev hsame (m2.set b (.raw (cellsOf τ (F (xl,v)).1)))]
          ·cases h
         ·cases el
        ·cases h
       ·cases h
      ·cases hl1
     ·cases hl1
    ·cases hl1
   ·cases hl1
  |invoke r m=>simp only[iW,hc]at hl1;cases hl1
  |builtin b=>simp only[iW,hc]at hl1;cases hl1
 |_=>rw[hop]at hl1;cases hl1
end Vx
namespace Vx
open Go Go.RowKit
variable {C:Cfg}
structure Trace (C:Cfg) (ops:List Oper) (s0:St) (S:Nat->St) (xs:Nat->TV) (fs:Nat->FP):Prop where
 zero:S 0=s0
 step:∀j o,ops[j]? = some o->VD C ops o (S j)=some (fs j,true,xs j,(S (j+1)).mem)/\S (j+1)=IQ ops o (S j) (xs j) (S (j+1)).mem/\∀d,o.dst=some d->d<(S j).n
theorem aD8{ops:List Oper}:∀(l:List Oper) (s s':St) (fps:List FP) (gs:List Bool),T7 C ops l s=some (fps,gs,s')->(∀g∈gs,g=true) ->
  ∃(S:Nat->St) (xs:Nat->TV) (fs:Nat->FP),(∀j o,l[j]? = some o->fps[j]? = some (fs j))/\S 0=s/\S l.length=s'/\∀j o,l[j]? = some o->VD C ops o (S j)=some (fs j,true,xs j,(S (j+1)).mem)/\S (j+1)=IQ ops o (S j) (xs j) (S (j+1)).mem/\∀d,o.dst=some d->d<(S j).n
 | [],s,s',fps,gs,h,_=>by
  simp only[T7]at h;cases h
  exact⟨fun _=>s,fun _=>.un,fun _=>.pure,fun j o hj=>by simp at hj,rfl,rfl,fun j o hj=>by simp at hj⟩
 |o::l,s,s',fps,gs,h,hg=>by
  simp only[T7]at h
  split at h
  ·rename_i fp g x mem e
   obtain⟨hb,h⟩:=AJ h
   split at h
   ·rename_i fps' gs' s'' e2
    cases h
    obtain⟨S,xs,fs,h0,h1,h2,h3⟩:=aD8 l _ _ _ _ e2 fun g hgg=>hg g (by simp[hgg])
    have hgt:g=true:=hg g (by simp)
    subst hgt
    have hmem:(S 0).mem=mem:=by
     rw[h1];unfold IQ;split
     ·rfl
     ·split
      ·rfl
      ·split<;>rfl
    refine⟨fun j=>match j with|0=>s|j+1=>S j,fun j=>match j with|0=>x|j+1=>xs j,fun j=>match j with|0=>fp|j+1=>fs j,fun j q hj=>?_,rfl,by simpa using h2,fun j q hj=>?_⟩
    ·cases j with
     |zero=>rfl
     |succ j=>simpa using h0 j q (by simpa using hj)
    cases j with
    |zero=>
     simp at hj;subst hj
     refine⟨by simp only[hmem];exact e,by simp only[hmem];exact h1,fun d hd=>?_⟩
     rw[hd]at hb
     simpa using hb
    |succ j=>exact h3 j q (by simpa using hj)
   ·cases h
  ·cases h
theorem aLk{ops:List Oper}{o:Oper}{s:St}{x:TV}{mem:Ag}:(IQ ops o s x mem).n=s.n/\(IQ ops o s x mem).m0=s.m0:=by
 unfold IQ;split
 ·exact⟨rfl,rfl⟩
 ·split
  ·exact⟨rfl,rfl⟩
  ·split<;>exact⟨rfl,rfl⟩
theorem OU:∀{l:List Nat} {n:Nat},Ho n l=true↔n∈l
 | [],n=>by simp[Ho]
 |m::r,n=>by
  simp only[Ho,dv,OU,cy]
  constructor
  ·rintro (h|h)
   ·exact .inl (ah h).symm
   ·exact .inr h
  ·rintro (h|h)
   ·subst h;exact .inl (dr _)
   ·exact .inr h
theorem rM{o:Oper}{l:List Nat}:OE o l=true↔∃d,o.dst=some d/\d∈l:=by
 unfold OE;cases o.dst with
 |none=>simp
 |some d=>simp[OU]
theorem aMd{x y:Oper}:rN x y=true↔∃d,x.dst=some d/\y.dst=some d:=by
 unfold rN;cases x.dst<;>cases y.dst<;>simp;rename_i a b;exact⟨fun h=>h.symm,fun h=>h.symm⟩
theorem fS:∀{l:List Nat} {j:Nat},Xw j l=true->∀i∈l,i<j
 | [],_,_,i,h=>by simp at h
 |m::r,j,h,i,hi=>by
  simp only[Xw,ag]at h
  rcases cy.1 hi with rfl|hi
  ·simpa using h.1
  ·exact fS h.2 i hi
theorem aOv{ops:List Oper}{fps:List FP}{A:List (List Nat)}{j:Nat}{y:Oper}:∀(l:List Oper) (k:Nat),YD ops fps A j y k l=true->∀i x,l[i]? = some x->k+i<j->aDh ops fps A (k+i) j x y=true
 | [],_,_,i,x,h,_=>by simp at h
 |z::r,k,h,i,x,hi,hij=>by
  simp only[YD]at h
  have hk:Nat.blt k j=true:=by simp;omega
  rw[hk]at h
  simp only[cond_true,ag]at h
  cases i with
  |zero=>simp at hi;subst hi;exact h.1
  |succ i=>
   have:=aOv r (k+1) h.2 i x (by simpa using hi) (by omega)
   rw[show k+(i+1)=k+1+i by omega]
   exact this
theorem aOw{ops:List Oper}{fps:List FP}{A:List (List Nat)}:∀(l:List Oper) (k:Nat),sP ops fps A k l=true->∀j y,l[j]? = some y ->
  (∀i∈B6 y,i<k+j)/\Bt y.op<3/\OE y (looks ops y)=false/\YD ops fps A (k+j) y 0 ops=true/\∀g p,y.guard=some (g,p)->g<k+j
 | [],_,_,j,y,h=>by simp at h
 |z::r,k,h,j,y,hj=>by
  simp only[sP,ag,dx]at h
  obtain⟨⟨⟨⟨⟨h1,h2⟩,h3⟩,h4⟩,h6⟩,h5⟩:=h
  cases j with
  |zero=>
   simp at hj;subst hj
   refine⟨fS h1,by simpa using h2,h3,h4,fun g p e=>?_⟩
   rw[e]at h6
   simpa using h6
  |succ j=>
   have:=aOw r (k+1) h5 j y (by simpa using hj)
   rw[show k+(j+1)=k+1+j by omega]
   exact this
theorem aMu{α β:Type}{f g:α->List β}:∀{l:List α},(∀x∈l,f x=g x)->l.flatMap f=l.flatMap g
 | [],_=>rfl
 |x::l,h=>by
  rw[om,om,h x (by simp),aMu fun y hy=>h y (by simp[hy])]
theorem aBO:∀(l:List Oper) (acc:List (List Nat)) (i:Nat),i<acc.length->(Gt acc l)[i]? = acc[i]?
 | [],acc,i,_=>rfl
 |o::r,acc,i,h=>by
  simp only[Gt]
  rw[aBO r _ i (by simp;omega),cn h]
theorem aLi:∀(l:List Oper) (acc:List (List Nat)) (j:Nat) (o:Oper),l[j]? = some o->∀CC,CC=Gt acc l->(∀i∈B6 o,i<acc.length+j) ->
  CC[acc.length+j]? = some ((B6 o).flatMap fun i=>i::(CC[i]?).getD [])
 | [],_,_,_,h,_,_,_=>by simp at h
 |z::r,acc,0,o,h,CC,hf,hp=>by
  simp at h;subst h
  subst hf
  simp only[Gt]
  rw[Nat.add_zero,aBO r _ acc.length (by simp)]
  rw[cg (bu _)]
  simp only[gr,gd,ae]
  refine aMu fun i hi=>?_
  have:=hp i hi
  rw[aBO r _ i (by simp;omega),cn (by omega)]
 |z::r,acc,j+1,o,h,CC,hf,hp=>by
  simp only[Gt]at hf
  have:=aLi r _ j o (by simpa using h) CC hf (fun i hi=>by have:=hp i hi;simp;omega)
  simp only[ej,dh,ee]at this
  rw[show acc.length+(j+1)=acc.length+(0+1)+j by omega]
  exact this
end Vx
namespace Vx
open Go Go.RowKit
variable {C:Cfg}
structure Reg (C:Cfg) (ops:List Oper) (s0:St) (S:Nat->St) (xs:Nat->TV) (fs:Nat->FP):Prop where
 ok:∃fps:List FP,YC ops fps=true/\∀j o,ops[j]? = some o->fps[j]? = some (fs j)
 tr:Trace C ops s0 S xs fs
 cs0:s0.cs=[]
section
variable {ops:List Oper}{s0:St}{S:Nat->St}{xs:Nat->TV}{fs:Nat->FP}
def K5(ops:List Oper)(j:Nat):List Nat:=((Gt [] ops)[j]?).getD []
theorem Reg.row(h:Reg C ops s0 S xs fs){j:Nat}{y:Oper}(hj:ops[j]? = some y):
  (∀i∈B6 y,i<j)/\Bt y.op<3/\OE y (looks ops y)=false/\(∃fps:List FP,YD ops fps (Gt [] ops) j y 0 ops=true/\∀j o,ops[j]? = some o->fps[j]? = some (fs j))/\∀g p,y.guard=some (g,p)->g<j:=by
 obtain⟨fps,h1,h2⟩:=h.ok;have:=aOw ops 0 h1 j y hj;simp only[de]at this;exact⟨this.1,this.2.1,this.2.2.1,⟨fps,this.2.2.2.1,h2⟩,this.2.2.2.2⟩
theorem Reg.pair(h:Reg C ops s0 S xs fs){i j:Nat}{x y:Oper}(hi:ops[i]? = some x)(hj:ops[j]? = some y)(hij:i<j):
  rN x y=false/\(i∈K5 ops j∨(OE x (looks ops y)=false/\OE y (looks ops x)=false/\CZ (fs i) (fs j)=true)):=by
 obtain⟨fps,h0,hf⟩:=(h.row hj).2.2.2.1;have h1:=aOv ops 0 h0 i x hi (by omega);rw[de]at h1;simp only[aDh,hf i x hi,hf j y hj,lw,ag,dv,dx]at h1;refine⟨h1.1,?_⟩;rcases h1.2 with h2|h2
 ·exact .inl (OU.1 h2)
 ·exact .inr ⟨h2.1.1,h2.1.2,h2.2⟩
theorem Reg.anc_eq(h:Reg C ops s0 S xs fs){j:Nat}{y:Oper}(hj:ops[j]? = some y):K5 ops j=(B6 y).flatMap fun i=>i::K5 ops i:=by
 have:=aLi ops [] j y hj _ rfl (by simpa using(h.row hj).1);simp only[ee,de]at this;unfold K5;rw[this];rfl
theorem Reg.distinct(h:Reg C ops s0 S xs fs){i j:Nat}{x y:Oper}{d:Nat}(hi:ops[i]? = some x)(hj:ops[j]? = some y)(hx:x.dst=some d)(hy:y.dst=some d):i=j:=by
 rcases fh i j with hlt|heq|hgt
 ·have:=(h.pair hi hj hlt).1;rw[aMd.2 ⟨d,hx,hy⟩]at this;cases this
 ·exact heq
 ·have:=(h.pair hj hi hgt).1;rw[aMd.2 ⟨d,hy,hx⟩]at this;cases this
theorem Reg.parts(h:Reg C ops s0 S xs fs):∀j,j<=ops.length->(S j).n=s0.n/\(S j).m0=s0.m0
 |0,_=>by rw[h.tr.zero];exact⟨rfl,rfl⟩
 |j+1,hj=>by
  obtain⟨_,h2,_⟩:=h.tr.step j ops[j] (bo (by omega))
  have ih:=h.parts j (by omega)
  rw[h2]
  exact⟨aLk.1.trans ih.1,aLk.2.trans ih.2⟩
theorem aXW{o:Oper}{s:St}{g:Bool}{x:TV}{mem:Ag}{gi:Nat}{p:Bool}{fp:FP}(hg:o.guard=some (gi,p))(h:VD C ops o s=some (fp,g,x,mem)):∃t d,E6 ops gi=some t/\o.dst=some d:=by
 unfold VD at h;rw[hg]at h;simp only at h;split at h
 ·rename_i t d e1 e2;exact⟨t,d,e1,e2⟩
 ·cases h
theorem Reg.tm_old(h:Reg C ops s0 S xs fs):∀j,j<=ops.length->∀t,(∀i o,i<j->ops[i]? = some o->o.dst≠some t)->Bm (S j).tm t=Bm s0.tm t
 |0,_,t,_=>by rw[h.tr.zero]
 |j+1,hj,t,ht=>by
  have hg:ops[j]? = some ops[j]:=bo (by omega)
  obtain⟨_,h2,_⟩:=h.tr.step j _ hg
  have ih:=h.tm_old j (by omega) t fun i o hi=>ht i o (by omega)
  rw[h2,←ih]
  have hne:=ht j _ (by omega) hg
  unfold IQ
  split
  ·rfl
  ·rename_i d ed
   have hdt:Nat.beq d t=false:=by
    cases hb:Nat.beq d t with
    |false=>rfl
    |true=>have:=ah hb;subst this;exact absurd ed hne
   split
   ·simp only[Bm,hdt,cond_false]
   ·split
    ·simp only[Bm,hdt,cond_false]
    ·rfl
theorem Reg.tm_new(h:Reg C ops s0 S xs fs){i:Nat}{o:Oper}{t:Nat}(hi:ops[i]? = some o)(ht:o.dst=some t):∀j,i<j->j<=ops.length->Bm (S j).tm t=(match o.guard with|none=>xs i|some _=>.un)
 |0,hij,_=>by omega
 |j+1,hij,hj=>by
  have hg:ops[j]? = some ops[j]:=bo (by omega)
  obtain⟨h1,h2,_⟩:=h.tr.step j _ hg
  by_cases hji:j=i
  ·subst hji
   rw[hg]at hi
   cases hi
   rw[h2]
   unfold IQ
   simp only[ht]
   cases hgu:(ops[j]).guard with
   |none=>simp[Bm,dr]
   |some gp=>
    obtain⟨gi,p⟩:=gp
    obtain⟨t',d,e1,_⟩:=aXW hgu h1
    simp only[e1]
    simp[Bm,dr]
  ·have ih:=h.tm_new hi ht j (by omega) (by omega)
   rw[h2,←ih]
   have hne:ops[j].dst≠some t:=fun e=>hji (h.distinct hg hi e ht)
   unfold IQ
   split
   ·rfl
   ·rename_i d ed
    have hdt:Nat.beq d t=false:=by
     cases hb:Nat.beq d t with
     |false=>rfl
     |true=>have:=ah hb;subst this;exact absurd ed hne
    split
    ·simp only[Bm,hdt,cond_false]
    ·split
     ·simp only[Bm,hdt,cond_false]
     ·rfl
theorem Reg.cs_of(h:Reg C ops s0 S xs fs):∀j,j<=ops.length->∀d g p x,(d,g,p,x)∈(S j).cs->∃i o gi,i<j/\ops[i]? = some o/\o.dst=some d/\o.guard=some (gi,p)/\E6 ops gi=some g/\x=xs i
 |0,_,d,g,p,x,hm=>by rw[h.tr.zero,h.cs0]at hm;simp at hm
 |j+1,hj,d,g,p,x,hm=>by
  have hg:ops[j]? = some ops[j]:=bo (by omega)
  obtain⟨h1,h2,_⟩:=h.tr.step j _ hg
  have ih:=h.cs_of j (by omega) d g p x
  have old:(d,g,p,x)∈(S j).cs->∃i o gi,i<j+1/\ops[i]? = some o/\o.dst=some d/\o.guard=some (gi,p)/\E6 ops gi=some g/\x=xs i:=fun hm=>by
   obtain⟨i,o,gi,q1,q2⟩:=ih hm;exact⟨i,o,gi,by omega,q2⟩
  rw[h2]at hm
  unfold IQ at hm
  split at hm
  ·exact old hm
  ·rename_i d' ed
   split at hm
   ·exact old hm
   ·rename_i gi p' eg
    split at hm
    ·rename_i t et
     rcases cy.1 hm with hm|hm
     ·cases hm
      exact⟨j,_,gi,by omega,hg,ed,eg,et,rfl⟩
     ·exact old hm
    ·exact old hm
def Wr:FP->Nat->Prop
 |.wr none,_=>True
 |.wr (some c),b=>c=b
 |.mk c,b=>c=b
 |_,_=>False
def Ef:FP->Prop
 |.wr _=>False
 |.mk _=>False
 |_=>True
def Ed:FP->Prop
 |.wr none=>True
 |.mk _=>True
 |_=>False
theorem Ef.not_wr{x:FP}(h:Ef x)(b:Nat):¬Wr x b:=by cases x<;>simp_all [Ef,Wr]
theorem Ef.not_len{x:FP}(h:Ef x):¬Ed x:=by cases x<;>simp_all [Ef,Ed]
theorem Ef.ne_wr{x:FP}(h:Ef x)(q:Option Nat):x≠.wr q:=fun e=>by rw[e]at h;exact h
theorem Ef.ne_mk{x:FP}(h:Ef x)(q:Nat):x≠.mk q:=fun e=>by rw[e]at h;exact h
theorem XJ{s:St}{ctx:List (Nat×Bool)}{op:Op}(hk:Bt op<=1):Ef (EA s ctx op):=by
 have addr:∀y,Ef (OL s ctx y):=fun y=>by
  unfold OL;(repeat' split)<;>simp[Ef]
 cases op<;>simp only[EA,Bt]at hk⊢<;>first|exact addr _|(simp[Ef];done)|omega|skip
 (repeat' split)<;>first|exact addr _|simp[Ef]
theorem aLu{mem:Ag}{b c:Nat}{e:Blk}(h:c≠b):Ac (mem.set c e) b=Ac mem b:=by
 unfold Ac;rw[List.getElem?_set_ne h]
theorem Reg.mem_cases(h:Reg C ops s0 S xs fs){j:Nat}{o:Oper}(hj:ops[j]? = some o):
  (Bt o.op<=1/\(S (j+1)).mem=(S j).mem/\Ef (fs j))∨(o.guard=none/\(fs j=.wr none∨(∃c e,fs j=.wr (some c)/\(S (j+1)).mem=(S j).mem.set c e/\Ac (S j).mem c≠.gone)∨∃e,fs j=.mk (S j).mem.length/\(S (j+1)).mem=(S j).mem++[e])):=by
 obtain⟨h1,_,_⟩:=h.tr.step j o hj;have hk3:=(h.row hj).2.1;unfold VD at h1;simp only at h1;split at h1
 ·rename_i hg;cases hb:(DG (C1 ops o (S j)) [] o.op||Nat.beq (Bt o.op) 2)with
  |false=>
   rw[hb]at h1;simp only[cond_false]at h1;split at h1
   ·rename_i b eo;split at h1
    ·rename_i g x mem e;obtain⟨hl,h1⟩:=AJ h1;simp only[ae,cv]at h1;obtain⟨hfs,_,_,hmem⟩:=h1;obtain⟨q1,q2,_⟩:=aLC eo (ah hl) e;exact .inr ⟨hg,.inr (.inl ⟨b,.gone,hfs.symm,by rw[←hmem];exact q2,q1⟩)⟩
    ·cases h1
   ·split at h1
    ·rename_i b el;split at h1
     ·rename_i g x mem e;obtain⟨hl,h1⟩:=AJ h1;simp only[ae,cv]at h1;obtain⟨hfs,_,_,hmem⟩:=h1;obtain⟨q1,e',q2,_⟩:=aLA hg el (ah hl) e;exact .inr ⟨hg,.inr (.inl ⟨b,e',hfs.symm,by rw[←hmem];exact q2,q1⟩)⟩
     ·cases h1
    ·split at h1
     ·simp only[ae,cv]at h1;exact .inr ⟨hg,.inl h1.1.symm⟩
     ·cases h1
  |true=>
  rw[hb]at h1;simp only[cond_true]at h1;split at h1
  ·rename_i g x mem e;cases hst:DM o.op (C1 ops o (S j)).mem mem with
   |false=>
    rw[hst]at h1;obtain⟨hmk,h1⟩:=AJ h1;simp only[ae,cv]at h1;obtain⟨hfs,_,_,hmem⟩:=h1;have hb':DG (C1 ops o (S j)) [] o.op=true∨Bt o.op=2:=by
     simp only[dv]at hb;exact hb.imp id fun h=>ah h
    obtain⟨e',he,_⟩:=aLB hb' hmk e;exact .inr ⟨hg,.inr (.inr ⟨e',hfs.symm,by rw[←hmem];exact he⟩)⟩
   |true=>
   rw[hst]at h1;simp only[cond_true,ae,cv]at h1;obtain⟨hfs,_,_,hmem⟩:=h1;by_cases hk:Bt o.op<=1
   ·left;have hb:DG (C1 ops o (S j)) [] o.op=true:=by
     simp only[dv]at hb;rcases hb with hb|hb
     ·exact hb
     ·have:=ah hb;omega
    exact⟨hk,by rw[←hmem];exact aC0 hb hk hst e,by rw[←hfs];exact XJ hk⟩
   ·right;refine⟨hg,?_⟩;rw[←hfs,←hmem];cases hop:o.op with
    |store T y z=>
     cases hf:EA (C1 ops o (S j)) [] (.store T y z)with
     |wr q=>
      cases q with
      |none=>exact .inl rfl
      |some c=>
       obtain⟨hng,e',he,_⟩:=aMz hop e (m2:=(C1 ops o (S j)).mem) (b:=c) (by rw[hop];exact hf) rfl;exact .inr (.inl ⟨c,e',rfl,he,hng⟩)
     |_=>simp only[EA]at hf;(repeat' split at hf)<;>first|cases hf|(cases hq:AK _<;>rw[hq]at hf<;>cases hf)
    |alloc T=>
     obtain⟨e',he,_⟩:=aCq (.inl ⟨T,hop⟩) e;exact .inr (.inr ⟨e',rfl,he⟩)
    |box T y=>
     obtain⟨e',he,_⟩:=aCq (.inr ⟨T,y,hop⟩) e;exact .inr (.inr ⟨e',rfl,he⟩)
    |call c=>
     exfalso;rw[hop]at hk hk3;simp only[Bt]at hk hk3;generalize hz:c.callee=z at hk hk3;cases z with
     |value f=>simp at hk
     |invoke r m=>simp at hk
     |builtin b=>cases b<;>simp at hk hk3
    |_=>exfalso;rw[hop]at hk hk3;simp only[Bt]at hk hk3;omega
  ·cases h1
 ·split at h1
  ·obtain⟨hb,h1⟩:=AJ h1;simp only[ag]at hb;split at h1
   ·rename_i e;obtain⟨hst,h1⟩:=AJ h1;simp only[ae,cv]at h1;left;have hk:Bt o.op<=1:=by
     have hl:=hb.1.1;cases hop:o.op<;>rw[hop]at hl hk3<;>simp only[I5,Bt]at hl hk3⊢<;>first|omega|cases hl|skip
     split at hl<;>rename_i hc<;>first|cases hl|(split<;>first|omega|skip)
     all_goals (split at hk3<;>first|omega|simp_all)
    exact⟨hk,by rw[←h1.2.2.2];exact aC0 hb.2 hk hst e,by rw[←h1.1];exact XJ hk⟩
   ·cases h1
  ·cases h1
end
end Vx
namespace Vx
open Go Go.RowKit
variable {C:Cfg}{ops:List Oper}{s0:St}{S:Nat->St}{xs:Nat->TV}{fs:Nat->FP}{base:Base}{S0:Nat->Prop}
structure Inv (C:Cfg) (ops:List Oper) (s0:St) (S:Nat->St) (xs:Nat->TV) (fs:Nat->FP) (base:Base) (S0:Nat->Prop) (σ0:Sit) (L:Nat->Prop) (σ:Sit) (a:Act):Prop where
 ok:Ok base S0 σ
 adv:Adv σ0 σ
 size:a.tmps.size=s0.n
 defers:a.defers=[]
 closed:∀i,L i->∀x∈K5 ops i,L x
 lt:∀i,L i->i<ops.length
 blk:∀b,∃k,k<=ops.length/\Ac σ.mem b=Ac (S k).mem b/\∀i,i<ops.length->Wr (fs i) b->(L i↔i<k)
 len:∃k,k<=ops.length/\σ.mem.length=(S k).mem.length/\∀i,i<ops.length->Ed (fs i)->(L i↔i<k)
 old:∀t,(∀i o,L i->ops[i]? = some o->o.dst≠some t)->Bu σ (Bm s0.tm t) (a.tmps.getD t undef)
 new:∀i o d,L i->ops[i]? = some o->o.dst=some d->o.guard=none->Bu σ (xs i) (a.tmps.getD d undef)
 tag:∀i o d gi p t,L i->ops[i]? = some o->o.dst=some d->o.guard=some (gi,p)->E6 ops gi=some t ->
  (a.tmps.getD t undef=.bool p->Bu σ (xs i) (a.tmps.getD d undef))/\(a.tmps.getD t undef≠.bool p->a.tmps.getD d undef=undef)
theorem aDY{α:Type}{f:Nat->α}{P:Nat->Prop}{n:Nat}(hs:∀i,i<n->¬P i->f (i+1)=f i):∀(m k:Nat),k+m<=n->(∀i,k<=i->i<k+m->¬P i)->f (k+m)=f k
 |0,k,_,_=>rfl
 |m+1,k,h,hn=>by
  rw[←Nat.add_assoc,hs (k+m) (by omega) (hn _ (by omega) (by omega))]
  exact aDY hs m k (by omega) fun i h1 h2=>hn i h1 (by omega)
theorem jU{α:Type}{f:Nat->α}{P:Nat->Prop}{n:Nat}(hs:∀i,i<n->¬P i->f (i+1)=f i){k j:Nat}(hk:k<=n)(hj:j<=n)(hn:∀i,i<n->P i->(i<j↔i<k)):f k=f j:=by
 rcases Nat.le_total k j with hle|hle
 ·have:=aDY hs (j-k) k (by omega) fun i h1 h2 hp=>by have:=hn i (by omega) hp;omega
  rw[show k+(j-k)=j by omega]at this;exact this.symm
 ·have:=aDY hs (k-j) j (by omega) fun i h1 h2 hp=>by have:=hn i (by omega) hp;omega
  rw[show j+(k-j)=k by omega]at this;exact this
theorem aLt{mem:Ag}{b:Nat}{e:Blk}(h:mem.length≠b):Ac (mem++[e]) b=Ac mem b:=by
 unfold Ac;rcases ax b mem.length with hb|hb
 ·rw[cn hb]
 ·rw[df (by simp;omega),df hb]
theorem aLs{mem:Ag}{e:Blk}:Ac (mem++[e]) mem.length=e:=by
 unfold Ac;rw[cg (bu _)];simp
theorem Reg.blk_step(h:Reg C ops s0 S xs fs){b:Nat}(i:Nat)(hi:i<ops.length)(hw:¬Wr (fs i) b):Ac (S (i+1)).mem b=Ac (S i).mem b:=by
 rcases h.mem_cases (bo hi)with⟨_,h1,_⟩|⟨_,h1|⟨c,e,h1,h2,_⟩|⟨e,h1,h2⟩⟩
 ·rw[h1]
 ·rw[h1]at hw;exact absurd trivial hw
 ·rw[h2];exact aLu fun e=>hw (by rw[h1];exact e)
 ·rw[h2];exact aLt fun e=>hw (by rw[h1];exact e)
theorem Reg.len_step(h:Reg C ops s0 S xs fs)(i:Nat)(hi:i<ops.length)(hw:¬Ed (fs i)):(S (i+1)).mem.length=(S i).mem.length:=by
 rcases h.mem_cases (bo hi)with⟨_,h1,_⟩|⟨_,h1|⟨c,e,h1,h2,_⟩|⟨e,h1,h2⟩⟩
 ·rw[h1]
 ·rw[h1]at hw;exact absurd trivial hw
 ·rw[h2];simp
 ·rw[h1]at hw;exact absurd trivial hw
theorem aOf{m m':Ag}(hl:m.length=m'.length)(hb:∀b,Ac m b=Ac m' b):m=m':=by
 apply List.ext_getElem hl;intro i h1 h2;have:=hb i;unfold Ac at this;rw[bo h1,bo h2]at this;exact this
theorem aNf{ops:List Oper}{o:Oper}{gi t:Nat}{p:Bool}(hg:o.guard=some (gi,p))(ht:E6 ops gi=some t):t∈looks ops o:=by
 unfold looks;rw[hg];unfold E6 at ht;simp only[sC];split at ht
 ·rename_i o' e;simp[e,ht]
 ·cases ht
section
variable {σ0 σ:Sit}{a:Act}{L:Nat->Prop}
theorem Inv.anc_in(hI:Inv C ops s0 S xs fs base S0 σ0 L σ a)(hR:Reg C ops s0 S xs fs){j:Nat}{o:Oper}(hj:ops[j]? = some o)(hp:∀i∈B6 o,L i):∀i∈K5 ops j,L i:=by
 rw[hR.anc_eq hj];intro i hi;obtain⟨q,hq,hiq⟩:=nc.1 hi;rcases cy.1 hiq with rfl|hiq
 ·exact hp _ hq
 ·exact hI.closed q (hp q hq) i hiq
theorem Inv.as_text(hI:Inv C ops s0 S xs fs base S0 σ0 L σ a)(hR:Reg C ops s0 S xs fs){j:Nat}{o:Oper}(hj:ops[j]? = some o)(hp:∀i∈B6 o,L i)(hn:¬L j){i:Nat}(hi:i<ops.length)
  (hc:CZ (fs i) (fs j)=false) (hc':CZ (fs j) (fs i)=false):L i↔i<j:=by
 have hi':=bo hi;rcases fh i j with hlt|heq|hgt
 ·have:L i:=by
   rcases(hR.pair hi' hj hlt).2 with h|h
   ·exact hI.anc_in hR hj hp i h
   ·rw[hc]at h;cases h.2.2
  exact⟨fun _=>hlt,fun _=>this⟩
 ·subst heq;exact⟨fun h=>absurd h hn,fun h=>absurd h (mw _)⟩
 ·constructor
  ·intro h;rcases(hR.pair hj hi' hgt).2 with h' | h'
   ·exact absurd (hI.closed i h j h') hn
   ·rw[hc']at h';cases h'.2.2
  ·intro h;omega
theorem aRG{x y:FP}{b:Nat}(hx:Wr x b)(hy:Wr y b∨y=.rd (some b)∨y=.rd none):CZ x y=false/\CZ y x=false:=by
 cases x with
 |pure=>cases hx
 |rd o=>cases hx
 |wr o=>
  rcases hy with hy|rfl|rfl
  ·cases y with
   |pure=>cases hy
   |rd o=>cases hy
   |wr q=>cases o<;>cases q<;>simp_all [Wr,CZ,dr]
   |mk q=>cases o<;>simp_all [Wr,CZ,dr]
  ·cases o<;>simp_all [Wr,CZ,dr]
  ·cases o<;>simp[CZ]
 |mk o=>
  rcases hy with hy|rfl|rfl
  ·cases y with
   |pure=>cases hy
   |rd o=>cases hy
   |wr q=>cases q<;>simp_all [Wr,CZ,dr]
   |mk q=>simp_all [Wr,CZ,dr]
  ·simp_all [Wr,CZ,dr]
  ·simp[CZ]
theorem aC2{x y:FP}(hx:Ed x)(hy:Ed y∨y=.rd none):CZ x y=false/\CZ y x=false:=by
 cases x with
 |pure=>cases hx
 |rd o=>cases hx
 |wr o=>
  cases o with
  |some _=>cases hx
  |none=>
   rcases hy with hy|rfl
   ·cases y with
    |pure=>cases hy
    |rd o=>cases hy
    |wr q=>cases q<;>simp_all [Ed,CZ]
    |mk q=>simp[CZ]
   ·simp[CZ]
 |mk o=>
  rcases hy with hy|rfl
  ·cases y with
   |pure=>cases hy
   |rd o=>cases hy
   |wr q=>cases q<;>simp_all [Ed,CZ]
   |mk q=>simp[CZ]
  ·simp[CZ]
theorem Inv.blk_at(hI:Inv C ops s0 S xs fs base S0 σ0 L σ a)(hR:Reg C ops s0 S xs fs){j:Nat}{o:Oper}(hj:ops[j]? = some o)(hp:∀i∈B6 o,L i)(hn:¬L j){b:Nat}(hw:Wr (fs j) b∨fs j=.rd (some b)∨fs j=.rd none):Ac σ.mem b=Ac (S j).mem b:=by
 have hjl:j<ops.length:=(bf.1 hj).1;obtain⟨k,hk,h1,h2⟩:=hI.blk b;rw[h1];refine jU (f:=fun k=>Ac (S k).mem b) (P:=fun i=>Wr (fs i) b) (fun i hi=>hR.blk_step i hi) hk (by omega) fun i hi hwi=>?_;have hap:=aRG hwi hw;rw[←h2 i hi hwi,hI.as_text hR hj hp hn hi hap.1 hap.2]
theorem Inv.len_at(hI:Inv C ops s0 S xs fs base S0 σ0 L σ a)(hR:Reg C ops s0 S xs fs){j:Nat}{o:Oper}(hj:ops[j]? = some o)(hp:∀i∈B6 o,L i)(hn:¬L j)(hw:Ed (fs j)):σ.mem.length=(S j).mem.length:=by
 have hjl:j<ops.length:=(bf.1 hj).1;obtain⟨k,hk,h1,h2⟩:=hI.len;rw[h1];refine jU (f:=fun k=>(S k).mem.length) (P:=fun i=>Ed (fs i)) (fun i hi=>hR.len_step i hi) hk (by omega) fun i hi hwi=>?_;have hap:=aC2 hwi (.inl hw);rw[←h2 i hi hwi,hI.as_text hR hj hp hn hi hap.1 hap.2]
theorem Inv.mem_at(hI:Inv C ops s0 S xs fs base S0 σ0 L σ a)(hR:Reg C ops s0 S xs fs){j:Nat}{o:Oper}(hj:ops[j]? = some o)(hp:∀i∈B6 o,L i)(hn:¬L j):lM (S j).mem σ.mem (fs j):=by
 have hjl:j<ops.length:=(bf.1 hj).1;have hfull:(fs j=.rd none∨fs j=.wr none)->σ.mem=(S j).mem:=fun hf=>by
  refine aOf ?_ fun b=>hI.blk_at hR hj hp hn (by rcases hf with h|h<;>rw[h]<;>simp[Wr]);obtain⟨k,hk,h1,h2⟩:=hI.len;rw[h1];refine jU (f:=fun k=>(S k).mem.length) (P:=fun i=>Ed (fs i)) (fun i hi=>hR.len_step i hi) hk (by omega) fun i hi hwi=>?_;have hap:CZ (fs i) (fs j)=false/\CZ (fs j) (fs i)=false:=aC2 hwi (by rcases hf with h|h<;>rw[h]<;>simp[Ed]);rw[←h2 i hi hwi,hI.as_text hR hj hp hn hi hap.1 hap.2]
 cases hf:fs j with
 |pure=>trivial
 |rd q=>
  cases q with
  |none=>exact hfull (.inl hf)
  |some b=>exact hI.blk_at hR hj hp hn (.inr (.inl hf))
 |wr q=>
  cases q with
  |none=>exact hfull (.inr hf)
  |some b=>exact hI.blk_at hR hj hp hn (.inl (by rw[hf];rfl))
 |mk b=>exact hI.len_at hR hj hp hn (by rw[hf];trivial)
theorem aZb{l:List Nat}{tm:List (Nat×TV)}:∀t,Bm (l.map fun t=>(t,Bm tm t)) t=Bm tm t/\t∈l∨Bm (l.map fun t=>(t,Bm tm t)) t=.un:=by
 induction l with
 |nil=>intro t;exact .inr rfl
 |cons q r ih=>
  intro t;simp only[fu,Bm];cases hb:Nat.beq q t with
  |true=>have:=ah hb;subst this;exact .inl ⟨rfl,by simp⟩
  |false=>
   rcases ih t with h|h
   ·exact .inl ⟨h.1,by simp[h.2]⟩
   ·exact .inr h
theorem Inv.rel_at(hI:Inv C ops s0 S xs fs base S0 σ0 L σ a)(hR:Reg C ops s0 S xs fs){j:Nat}{o:Oper}(hj:ops[j]? = some o)(hp:∀i∈B6 o,L i)(hn:¬L j):RelT σ {C1 ops o (S j)with mem:=σ.mem} a:=by
 have hjl:j<ops.length:=(bf.1 hj).1;have hanc:=hI.anc_in hR hj hp;have before:∀i x t,i<j->ops[i]? = some x->x.dst=some t->t∈looks ops o->L i:=fun i x t hij hi hd ht=>by
  rcases(hR.pair hi hj hij).2 with h|h
  ·exact hanc i h
  ·rw[rM.2 ⟨t,hd,ht⟩]at h;cases h.1
 refine⟨?_,hI.defers,rfl,fun t=>?_,fun d g p x hm=>?_⟩
 ·exact hI.size.trans (hR.parts j (by omega)).1.symm
 ·simp only[C1];rcases aZb (l:=looks ops o) (tm:=(S j).tm) t with⟨h,ht⟩|h
  ·rw[h];by_cases hex:∃i x,i<j/\ops[i]? = some x/\x.dst=some t
   ·obtain⟨i,x,hij,hi,hd⟩:=hex;rw[hR.tm_new hi hd j hij (by omega)];cases hg:x.guard with
    |none=>exact hI.new i x t (before i x t hij hi hd ht) hi hd hg
    |some _=>trivial
   ·rw[hR.tm_old j (by omega) t fun i x hij hi hd=>hex ⟨i,x,hij,hi,hd⟩];refine hI.old t fun i x hL hi hd=>?_;rcases fh i j with hlt|heq|hgt
    ·exact hex ⟨i,x,hlt,hi,hd⟩
    ·subst heq;exact hn hL
    ·rcases(hR.pair hj hi hgt).2 with h' | h'
     ·exact hn (hI.closed i hL j h')
     ·rw[rM.2 ⟨t,hd,ht⟩]at h';cases h'.2.1
  ·rw[h];trivial
 ·simp only[C1]at hm;obtain⟨hm,hd⟩:=pk.1 hm;obtain⟨i,y,gi,hij,hi,hyd,hyg,hgs,rfl⟩:=hR.cs_of j (by omega) d g p x hm;exact hI.tag i y d gi p g (before i y d hij hi hyd (OU.1 hd)) hi hyd hyg hgs
theorem Reg.plain{j:Nat}{o:Oper}(hk3:Bt o.op<3){mem:Ag}{ctx:List (Nat×Bool)}{g:Bool}{x:TV}{m2:Ag}(hsame:lM (S j).mem mem (EA (C1 ops o (S j)) ctx o.op))
  (hno:DG (C1 ops o (S j)) ctx o.op=true∨Bt o.op=2) (hst:DM o.op (C1 ops o (S j)).mem m2=true) (h:Av C (C1 ops o (S j)) ctx o=some (.ok g x m2)) :
  ∃m3,Av C {C1 ops o (S j)with mem:=mem} ctx o=some (.ok g x m3)/\(Bt o.op<=1->m3=mem)/\(EA (C1 ops o (S j)) ctx o.op=.wr none->m3=m2) /\
   (∀c,EA (C1 ops o (S j)) ctx o.op=.wr (some c)->∃e,m2=(S j).mem.set c e/\m3=mem.set c e/\Ac (S j).mem c≠.gone) /\
   (∀c,EA (C1 ops o (S j)) ctx o.op=.mk c->∃e,m2=(S j).mem++[e]/\m3=mem++[e]):=by
 by_cases hk:Bt o.op<=1
 ·have hc:DG (C1 ops o (S j)) ctx o.op=true:=hno.resolve_right (by omega)
  exact⟨mem,aYc hc hk hst h mem hsame,fun _=>rfl,fun hf=>absurd hf ((XJ hk).ne_wr _),fun c hf=>absurd hf ((XJ hk).ne_wr _),fun c hf=>absurd hf ((XJ hk).ne_mk _)⟩
 ·cases hf:EA (C1 ops o (S j)) ctx o.op with
  |wr q=>
   cases q with
   |none=>
    rw[hf]at hsame
    have e:mem=(S j).mem:=hsame
    subst e
    exact⟨m2,h,fun h'=>absurd h' hk,fun _=>rfl,fun c hc=>(by cases hc),fun c hc=>(by cases hc)⟩
   |some b=>
    rw[hf]at hsame
    cases hop:o.op with
    |store T y z=>
     obtain⟨hng,e,h1,h2⟩:=aMz hop h hf (m2:=mem) hsame
     exact⟨_,h2,fun h'=>(by rw[←hop]at h';exact absurd h' hk),fun hc=>(by cases hc),fun c hc=>(by cases hc;exact⟨e,h1,rfl,hng⟩),fun c hc=>(by cases hc)⟩
    |alloc T=>rw[hop]at hf;cases hf
    |box T y=>rw[hop]at hf;cases hf
    |call c=>
     exfalso
     rw[hop]at hk hk3
     simp only[Bt]at hk hk3
     generalize hz:c.callee=z at hk hk3
     cases z with
     |value f=>simp at hk
     |invoke r m=>simp at hk
     |builtin b=>cases b<;>simp at hk hk3
    |_=>exfalso;rw[hop]at hk hk3;simp only[Bt]at hk hk3;omega
  |mk b=>
   rw[hf]at hsame
   have hnew:(∃T,o.op=.alloc T)∨∃T y,o.op=.box T y:=by
    cases hop:o.op with
    |alloc T=>exact .inl ⟨T,rfl⟩
    |box T y=>exact .inr ⟨T,y,rfl⟩
    |store T y z=>exfalso;rw[hop]at hf;simp only[EA]at hf;(repeat' split at hf)<;>first|cases hf|(cases hq:AK _<;>rw[hq]at hf<;>cases hf)
    |call c=>
     exfalso
     rw[hop]at hk hk3
     simp only[Bt]at hk hk3
     generalize hz:c.callee=z at hk hk3
     cases z with
     |value f=>simp at hk
     |invoke r m=>simp at hk
     |builtin b=>cases b<;>simp at hk hk3
    |_=>exfalso;rw[hop]at hk hk3;simp only[Bt]at hk hk3;omega
   obtain⟨e,he,hany⟩:=aCq hnew h
   exact⟨_,hany mem hsame,fun h'=>absurd h' hk,fun hc=>(by cases hc),fun c hc=>(by cases hc),fun c _=>⟨e,he,rfl⟩⟩
  |_=>
   exfalso
   cases hop:o.op with
   |store T y z=>rw[hop]at hf;simp only[EA]at hf;(repeat' split at hf)<;>first|cases hf|(cases hq:AK _<;>rw[hq]at hf<;>cases hf)
   |alloc T=>rw[hop]at hf;cases hf
   |box T y=>rw[hop]at hf;cases hf
   |call c=>
    rw[hop]at hk hk3
    simp only[Bt]at hk hk3
    generalize hz:c.callee=z at hk hk3
    cases z with
    |value f=>simp at hk
    |invoke r m=>simp at hk
    |builtin b=>cases b<;>simp at hk hk3
   |_=>rw[hop]at hk hk3;simp only[Bt]at hk hk3;omega
theorem sD{a:Act}{o:Option Nat}{v:Value}{n:Nat}(hs:a.tmps.size=n)(hd:∀d,o=some d->d<n)(t:Nat):(a.put o v).tmps.getD t undef=if o=some t then v else a.tmps.getD t undef:=by
 cases o with
 |none=>simp[Act.put]
 |some d=>
  rw[OP (by rw[hs];exact hd d rfl)];by_cases h:t=d
  ·subst h;simp
  ·rw[if_neg h,if_neg (by simp;exact fun e=>h e.symm)]
theorem Inv.next(hI:Inv C ops s0 S xs fs base S0 σ0 L σ a)(hR:Reg C ops s0 S xs fs){j:Nat}{o:Oper}(hj:ops[j]? = some o)(hp:∀i∈B6 o,L i)(hn:¬L j){σ':Sit}{v:Value}
  (hok:Ok base S0 σ') (hmv:Moves id σ σ')
  (hmem:(σ'.mem=σ.mem/\Ef (fs j))∨(fs j=.wr none/\σ'.mem=(S (j+1)).mem)∨(∃c e,fs j=.wr (some c)/\(S (j+1)).mem=(S j).mem.set c e/\σ'.mem=σ.mem.set c e/\Ac (S j).mem c≠.gone)∨(∃e,fs j=.mk (S j).mem.length/\(S (j+1)).mem=(S j).mem++[e]/\σ'.mem=σ.mem++[e]))
  (hnew:o.guard=none->Bu σ' (xs j) v)
  (htag:∀gi p t,o.guard=some (gi,p)->E6 ops gi=some t->(a.tmps.getD t undef=.bool p->Bu σ' (xs j) v)/\(a.tmps.getD t undef≠.bool p->v=undef)) :
  Inv C ops s0 S xs fs base S0 σ0 (fun i=>i=j∨L i) σ' (a.put o.dst v):=by
 have hjl:j<ops.length:=(bf.1 hj).1;obtain⟨hev,hap,hdn⟩:=hR.tr.step j o hj;have hdn':∀d,o.dst=some d->d<s0.n:=fun d hd=>by have:=hdn d hd;rw[(hR.parts j (by omega)).1]at this;exact this
 have hget:=fun t=>sD (v:=v) hI.size hdn' t;have hanc:=hI.anc_in hR hj hp;have keep:∀{x y},Bu σ x y->Bu σ' x y:=fun h=>Bu.keep hmv.rep h;have hguard:∀i x gi p t,L i->ops[i]? = some x->x.guard=some (gi,p)->E6 ops gi=some t->o.dst≠some t:=fun i x gi p t hL hi hg ht hd=>by
  have hgi:=(hR.row hi).2.2.2.2 gi p hg;have hex:∃z,ops[gi]? = some z/\z.dst=some t:=by
   unfold E6 at ht;split at ht
   ·rename_i z e;exact⟨z,e,ht⟩
   ·cases ht
  obtain⟨z,hz,hzd⟩:=hex;have hjg:gi=j:=hR.distinct hz hj hzd hd;subst hjg;have hlook:t∈looks ops x:=aNf hg ht;rcases(hR.pair hj hi hgi).2 with h|h
  ·exact hn (hI.closed i hL _ h)
  ·rw[rM.2 ⟨t,hd,hlook⟩]at h;cases h.1
 refine⟨hok,hI.adv.trans hmv.adv_id,?_,?_,fun i hi x hx=>?_,fun i hi=>?_,fun b=>?_,?_,fun t ht=>?_,fun i x d hi hx hd hg=>?_,fun i x d gi p t hi hx hd hg ht=>?_⟩
 ·have:=hI.size;cases hd:o.dst<;>simp[Act.put,this]
 ·have:=hI.defers;cases hd:o.dst<;>simp[Act.put,this]
 ·rcases hi with rfl|hi
  ·exact .inr (hanc x hx)
  ·exact .inr (hI.closed i hi x hx)
 ·rcases hi with rfl|hi
  ·exact hjl
  ·exact hI.lt i hi
 ·obtain⟨k,hkl,hb1,hb2⟩:=hI.blk b;have stay:¬Wr (fs j) b->∀i,i<ops.length->Wr (fs i) b->((i=j∨L i)↔i<k):=fun hw i hi hwi=>by
   rw[←hb2 i hi hwi];exact⟨fun h=>h.resolve_left fun e=>hw (by rw[←e];exact hwi),.inr⟩
  have here:Wr (fs j) b->∀i,i<ops.length->Wr (fs i) b->((i=j∨L i)↔i<j+1):=fun hw i hi hwi=>by
   have hap:=aRG hwi (.inl hw);rw[hI.as_text hR hj hp hn hi hap.1 hap.2];omega
  rcases hmem with⟨h1,h2⟩|⟨h1,h2⟩|⟨c,e,h1,h2,h3,h4⟩|⟨e,h1,h2,h3⟩
  ·exact⟨k,hkl,by rw[h1];exact hb1,stay (h2.not_wr b)⟩
  ·exact⟨j+1,by omega,by rw[h2],here (by rw[h1];trivial)⟩
  ·by_cases hcb:c=b
   ·subst hcb;have hw:Wr (fs j) c:=by rw[h1];rfl
    refine⟨j+1,by omega,?_,here hw⟩;have heq:=hI.blk_at hR hj hp hn (.inl hw);rw[h2,h3,Cb (Dr h4),Cb (Dr (by rw[heq];exact h4)),if_pos rfl,if_pos rfl]
   ·exact⟨k,hkl,by rw[h3,aLu hcb];exact hb1,stay fun hw=>hcb (by rw[h1]at hw;exact hw)⟩
  ·have hlen:=hI.len_at hR hj hp hn (by rw[h1];trivial);by_cases hcb:(S j).mem.length=b
   ·subst hcb;have hw:Wr (fs j) (S j).mem.length:=by rw[h1];rfl
    refine⟨j+1,by omega,?_,here hw⟩;rw[h2,h3,aLs,←hlen,aLs]
   ·exact⟨k,hkl,by rw[h3,aLt (by rw[hlen];exact hcb)];exact hb1,stay fun hw=>hcb (by rw[h1]at hw;exact hw)⟩
 ·obtain⟨k,hkl,hb1,hb2⟩:=hI.len;have stay:¬Ed (fs j)->∀i,i<ops.length->Ed (fs i)->((i=j∨L i)↔i<k):=fun hw i hi hwi=>by
   rw[←hb2 i hi hwi];exact⟨fun h=>h.resolve_left fun e=>hw (by rw[←e];exact hwi),.inr⟩
  have here:Ed (fs j)->∀i,i<ops.length->Ed (fs i)->((i=j∨L i)↔i<j+1):=fun hw i hi hwi=>by
   have hap:=aC2 hwi (.inl hw);rw[hI.as_text hR hj hp hn hi hap.1 hap.2];omega
  rcases hmem with⟨h1,h2⟩|⟨h1,h2⟩|⟨c,e,h1,h2,h3,h4⟩|⟨e,h1,h2,h3⟩
  ·exact⟨k,hkl,by rw[h1];exact hb1,stay h2.not_len⟩
  ·exact⟨j+1,by omega,by rw[h2],here (by rw[h1];trivial)⟩
  ·exact⟨k,hkl,by rw[h3,List.length_set];exact hb1,stay (by rw[h1];simp[Ed])⟩
  ·have hlen:=hI.len_at hR hj hp hn (by rw[h1];trivial);exact⟨j+1,by omega,by rw[h2,h3,ej,ej,hlen],here (by rw[h1];trivial)⟩
 ·rw[hget,if_neg (ht j o (.inl rfl) hj)];exact keep (hI.old t fun i x hi hx=>ht i x (.inr hi) hx)
 ·rw[hget];rcases hi with rfl|hi
  ·rw[hj]at hx;cases hx;rw[if_pos hd];exact hnew hg
  ·rw[if_neg fun e=>hn (by rw[←hR.distinct hx hj hd e];exact hi)];exact keep (hI.new i x d hi hx hd hg)
 ·rw[hget t,hget d];rcases hi with rfl|hi
  ·rw[hj]at hx;cases hx;have hne:o.dst≠some t:=fun e=>by
    have hr:=(hR.row hj).2.2.1;rw[rM.2 ⟨t,e,aNf hg ht⟩]at hr;cases hr
   rw[if_pos hd,if_neg hne];exact htag gi p t hg ht
  ·have hne1:o.dst≠some d:=fun e=>hn (by rw[←hR.distinct hx hj hd e];exact hi);have hne2:=hguard i x gi p t hi hx hg ht;rw[if_neg hne1,if_neg hne2];have:=hI.tag i x d gi p t hi hx hd hg ht;exact⟨fun h=>keep (this.1 h),this.2⟩
end
end Vx
namespace Vx
open Go Go.RowKit
variable {C:Cfg}{ops:List Oper}{s0:St}{S:Nat->St}{xs:Nat->TV}{fs:Nat->FP}{base:Base}{S0:Nat->Prop}
theorem aLT{p q:Nat->Bool}(h:∀i,q i=true->p i=true):∀l:List Nat,l.countP q<=l.countP p
 | []=>by simp
 |x::l=>by
  have ih:=aLT h l
  rw[jz,jz]
  have:=h x
  cases hq:q x<;>cases hp:p x<;>simp_all<;>omega
theorem aB8{p q:Nat->Bool}(h:∀i,q i=true->p i=true){j:Nat}(hp:p j=true)(hq:q j=false):∀l:List Nat,j∈l->l.countP q<l.countP p
 | [],hj=>by simp at hj
 |x::l,hj=>by
  rw[jz,jz]
  rcases cy.1 hj with rfl|hj
  ·have:=aLT h l
   rw[hp,hq];simp;omega
  ·have ih:=aB8 h hp hq l hj
   have:=h x
   cases hq':q x<;>cases hp':p x<;>simp_all<;>omega
theorem I6{o:Oper}{i:Nat}:i∈B6 o↔∃e∈o.after,Region.binds .any e=true/\e.on=i:=by
 unfold B6;simp only[lk,pk,Array.mem_toList_iff];constructor
 ·rintro ⟨e,⟨h1,h2⟩,h3⟩;exact⟨e,h1,h2,h3⟩
 ·rintro ⟨e,h1,h2,h3⟩;exact⟨e,⟨h1,h2⟩,h3⟩
theorem aZp{o:Op}(h:I5 o=true):Bt o≠2:=by
 cases o<;>simp[I5,Bt]at h⊢;split<;>simp
theorem aL8(hC:SumsOk C){opsA:Array Oper}(hR:Reg C opsA.toList s0 S xs fs){σ0 σ:Sit}{a:Act}{L:Nat->Prop}(hG0:GlobsOk C.globs σ0.w σ0.S)
  (hI:Inv C opsA.toList s0 S xs fs base S0 σ0 L σ a) {j:Nat} {o:Oper} (hj:opsA.toList[j]? = some o) (hp:∀i∈B6 o,L i) (hn:¬L j) {K:Act->World->Prop} {Q:Exit->Act->World->Prop}
  (hK:∀σ' v,Inv C opsA.toList s0 S xs fs base S0 σ0 (fun i=>i=j∨L i) σ' (a.put o.dst v)->K (a.put o.dst v) σ'.w) :
  if gh o (yielded opsA a.tmps)then o.wp C.P a σ.w K Q else K (a.put o.dst undef) σ.w:=by
 have hrel:=hI.rel_at hR hj hp hn
 have hat:=hI.mem_at hR hj hp hn
 have hG:=hG0.adv hI.adv
 obtain⟨hev,hap,hdn⟩:=hR.tr.step j o hj
 have hkind:=(hR.row hj).2.1
 have hna:∀c,o.op=.call c->c.callee≠.builtin .append:=fun c hop hc=>by rw[hop]at hkind;simp[Bt,hc]at hkind
 unfold VD at hev
 simp only at hev
 split at hev
 ·rename_i hg
  rw[if_pos (by simp[gh,hg])]
  cases hb:(DG (C1 opsA.toList o (S j)) [] o.op||Nat.beq (Bt o.op) 2)with
  |false=>
   rw[hb]at hev
   simp only[cond_false]at hev
   split at hev
   ·rename_i b eo
    split at hev
    ·rename_i g x m2 hpl
     obtain⟨hl,hev⟩:=AJ hev
     simp only[ae,cv]at hev
     obtain⟨hfs,rfl,rfl,hm2⟩:=hev
     rw[←hfs]at hat
     obtain⟨q1,q2,hany⟩:=aLC eo (ah hl) hpl
     have hpl':=hany σ.mem hat
     refine Ur hC hI.ok hrel (fun _ _ h=>by simp at h) hG hna hpl' K Q fun v σ' k1 k2 k3 k4=>hK σ' _ ?_
     exact hI.next hR hj hp hn k1 k2 (.inr (.inr (.inl ⟨b,.gone,hfs.symm,by rw[←hm2];exact q2,k3,q1⟩))) (fun _=>k4) (fun gi p t h=>by rw[hg]at h;cases h)
    ·cases hev
   ·split at hev
    ·rename_i b el
     split at hev
     ·rename_i g x m2 hpl
      obtain⟨hl,hev⟩:=AJ hev
      simp only[ae,cv]at hev
      obtain⟨hfs,rfl,rfl,hm2⟩:=hev
      rw[←hfs]at hat
      obtain⟨q1,e',q2,hany⟩:=aLA hg el (ah hl) hpl
      have hpl':=hany σ.mem hat
      refine Ur hC hI.ok hrel (fun _ _ h=>by simp at h) hG hna hpl' K Q fun v σ' k1 k2 k3 k4=>hK σ' _ ?_
      exact hI.next hR hj hp hn k1 k2 (.inr (.inr (.inl ⟨b,e',hfs.symm,by rw[←hm2];exact q2,k3,q1⟩))) (fun _=>k4) (fun gi p t h=>by rw[hg]at h;cases h)
     ·cases hev
    ·split at hev
     ·rename_i g x m2 hpl
      simp only[ae,cv]at hev
      obtain⟨hfs,rfl,rfl,hm2⟩:=hev
      rw[←hfs]at hat
      have em:σ.mem=(S j).mem:=hat
      have hpl':Av C {C1 opsA.toList o (S j)with mem:=σ.mem} [] o=some (.ok true (xs j) m2):=by rw[em];exact hpl
      refine Ur hC hI.ok hrel (fun _ _ h=>by simp at h) hG hna hpl' K Q fun v σ' k1 k2 k3 k4=>hK σ' _ ?_
      exact hI.next hR hj hp hn k1 k2 (.inr (.inl ⟨hfs.symm,by rw[k3,hm2]⟩)) (fun _=>k4) (fun gi p t h=>by rw[hg]at h;cases h)
     ·cases hev
  |true=>
  rw[hb]at hev
  simp only[dv]at hb
  simp only[cond_true]at hev
  split at hev
  ·rename_i g x m2 hpl
   cases hst:DM o.op (C1 opsA.toList o (S j)).mem m2 with
   |false=>
    rw[hst]at hev
    obtain⟨hmk,hev⟩:=AJ hev
    simp only[ae,cv]at hev
    obtain⟨hfs,rfl,rfl,hm2⟩:=hev
    rw[←hfs]at hat
    obtain⟨e',he,hany⟩:=aLB (hb.imp id fun h=>ah h) hmk hpl
    have hpl':=hany σ.mem hat
    refine Ur hC hI.ok hrel (fun _ _ h=>by simp at h) hG hna hpl' K Q fun v σ' k1 k2 k3 k4=>hK σ' _ ?_
    exact hI.next hR hj hp hn k1 k2 (.inr (.inr (.inr ⟨e',hfs.symm,by rw[←hm2];exact he,k3⟩))) (fun _=>k4) (fun gi p t h=>by rw[hg]at h;cases h)
   |true=>
   rw[hst]at hev
   simp only[cond_true,ae,cv]at hev
   obtain⟨hfs,rfl,rfl,hm2⟩:=hev
   rw[←hfs]at hat
   obtain⟨m3,hpl',h1,h2,h3,h4⟩:=Reg.plain hkind hat (hb.imp id fun h=>ah h) hst hpl
   refine Ur hC hI.ok hrel (fun _ _ h=>by simp at h) hG hna hpl' K Q fun v σ' k1 k2 k3 k4=>hK σ' _ ?_
   refine hI.next hR hj hp hn k1 k2 ?_ (fun _=>k4) (fun gi p t h=>by rw[hg]at h;cases h)
   rcases hR.mem_cases hj with⟨hk1,_,hq⟩|⟨_,hq|⟨c,e,hq,_,_⟩|⟨e,hq,_⟩⟩
   ·exact .inl ⟨by rw[k3,h1 hk1],hq⟩
   ·exact .inr (.inl ⟨hq,by rw[k3,h2 (by rw[hfs];exact hq),hm2]⟩)
   ·obtain⟨e',q1,q2,q3⟩:=h3 c (by rw[hfs];exact hq)
    exact .inr (.inr (.inl ⟨c,e',hq,by rw[←hm2];exact q1,by rw[k3];exact q2,q3⟩))
   ·obtain⟨e',q1,q2⟩:=h4 _ (by rw[hfs];exact hq)
    exact .inr (.inr (.inr ⟨e',hq,by rw[←hm2];exact q1,by rw[k3];exact q2⟩))
  ·cases hev
 ·rename_i gi p hg
  split at hev
  ·rename_i t d ht hd
   obtain⟨hb,hev⟩:=AJ hev
   simp only[ag,dx]at hb
   split at hev
   ·rename_i c g x m2 hcv hpl
    obtain⟨hst,hev⟩:=AJ hev
    simp only[ae,cv,dv,dx]at hev
    obtain⟨hfs,hgc,rfl,hm2⟩:=hev
    have hk2:=aZp hb.1.1
    have hk1:Bt o.op<=1:=by omega
    have hq:Ef (fs j):=by rw[←hfs];exact XJ hk1
    rw[←hfs]at hat
    obtain⟨m3,hpl',h1,_,_,_⟩:=Reg.plain hkind hat (.inl hb.2) hst hpl
    have hcv':=gE (s:={C1 opsA.toList o (S j)with mem:=σ.mem}) hrel.tm hrel.cs hcv
    have hw:=aEc (a:=a) hg ht
    by_cases hwant:a.tmps.getD t undef=.bool p
    ·rw[if_pos (hw.2 hwant)]
     have hgt:g=true:=by
      rcases hgc with h|h
      ·exact h
      ·rw[hcv'.2 hwant]at h;cases h
     subst hgt
     refine Ur hC hI.ok hrel (gD hrel.cs hwant) hG hna hpl' K Q fun v σ' k1 k2 k3 k4=>hK σ' _ ?_
     refine hI.next hR hj hp hn k1 k2 (.inl ⟨by rw[k3,h1 hk1],hq⟩) (fun h=>by rw[hg]at h;cases h) (fun gi' p' t' h e=>?_)
     rw[hg]at h;cases h
     rw[ht]at e;cases e
     exact⟨fun _=>k4,fun h=>absurd hwant h⟩
    ·rw[if_neg fun h=>hwant (hw.1 h)]
     refine hK σ _ (hI.next hR hj hp hn hI.ok (Goes.refl σ).moves (.inl ⟨rfl,hq⟩) (fun h=>by rw[hg]at h;cases h) (fun gi' p' t' h e=>?_))
     rw[hg]at h;cases h
     rw[ht]at e;cases e
     exact⟨fun h=>absurd h hwant,fun _=>rfl⟩
   ·cases hev
  ·cases hev
theorem Inv.start(hR:Reg C ops s0 S xs fs){σ:Sit}{a:Act}(ho:Ok base S0 σ)(hr:RelT σ s0 a):Inv C ops s0 S xs fs base S0 σ (fun _=>False) σ a:=
 ⟨ho,Adv.refl σ,hr.size,hr.defers,fun _ h=>h.elim,fun _ h=>h.elim,fun b=>⟨0,dq _,by rw[hR.tr.zero,hr.mem],fun i _ _=>⟨fun h=>h.elim,fun h=>by omega⟩⟩,⟨0,dq _,by rw[hR.tr.zero,hr.mem],fun i _ _=>⟨fun h=>h.elim,fun h=>by omega⟩⟩,fun t _=>hr.tm t,
  fun _ _ _ h=>h.elim,fun _ _ _ _ _ _ h=>h.elim⟩
theorem Inv.done(hR:Reg C ops s0 S xs fs){σ0 σ:Sit}{a:Act}{L:Nat->Prop}(hI:Inv C ops s0 S xs fs base S0 σ0 L σ a)(hall:∀i,i<ops.length->L i):RelT σ (S ops.length) a:=by
 refine⟨?_,hI.defers,?_,fun t=>?_,fun d g p x hm=>?_⟩
 ·exact hI.size.trans (hR.parts _ (bu _)).1.symm
 ·refine aOf ?_ fun b=>?_
  ·obtain⟨k,hkl,h1,h2⟩:=hI.len;rw[h1];refine jU (f:=fun k=>(S k).mem.length) (P:=fun i=>Ed (fs i)) (fun i hi=>hR.len_step i hi) hkl (bu _) fun i hi hwi=>?_;rw[←h2 i hi hwi];exact⟨fun _=>hall i hi,fun _=>hi⟩
  ·obtain⟨k,hkl,h1,h2⟩:=hI.blk b;rw[h1];refine jU (f:=fun k=>Ac (S k).mem b) (P:=fun i=>Wr (fs i) b) (fun i hi=>hR.blk_step i hi) hkl (bu _) fun i hi hwi=>?_;rw[←h2 i hi hwi];exact⟨fun _=>hall i hi,fun _=>hi⟩
 ·by_cases hex:∃i x,i<ops.length/\ops[i]? = some x/\x.dst=some t
  ·obtain⟨i,x,hij,hi,hd⟩:=hex;rw[hR.tm_new hi hd _ hij (bu _)];cases hg:x.guard with
   |none=>exact hI.new i x t (hall i hij) hi hd hg
   |some _=>trivial
  ·rw[hR.tm_old _ (bu _) t fun i x hij hi hd=>hex ⟨i,x,hij,hi,hd⟩];exact hI.old t fun i x hL hi hd=>hex ⟨i,x,hI.lt i hL,hi,hd⟩
 ·obtain⟨i,y,gi,hij,hi,hyd,hyg,hgs,rfl⟩:=hR.cs_of _ (bu _) d g p x hm;exact hI.tag i y d gi p g (hall i hij) hi hyd hyg hgs
theorem aB5{α:Type}{r:α}:∀{gs:List Bool} {x:Option α},Ak gs x=some r->(∀g∈gs,g=true)/\x=some r
 | [],x,h=>⟨by simp,h⟩
 |g::gs,x,h=>by
  simp only[Ak]at h
  obtain⟨h1,h2⟩:=AJ h
  obtain⟨h3,h4⟩:=aB5 h2
  exact⟨fun q hq=>by rcases cy.1 hq with rfl|hq;exact h1;exact h3 q hq,h4⟩
end Vx
namespace Vx
open Go Go.RowKit
variable {C:Cfg}{base:Base}{S0:Nat->Prop}{s0:St}{S:Nat->St}{xs:Nat->TV}{fs:Nat->FP}
theorem aBM{l:List Nat}:∀{n:Nat},qQ l n=true->∀j,j<n->j∈l
 |0,_,j,h=>by omega
 |n+1,h,j,hj=>by
  simp only[qQ,ag]at h
  rcases ax j n with h1|h1
  ·exact aBM h.2 j h1
  ·have:j=n:=by omega
   subst this
   exact OU.1 h.1
theorem aD3:∀{l:List Oper} {i:Nat},xT i l=true->∀k o,l[k]? = some o->o.guard=none/\i+k∈B6 o/\∀p∈B6 o,p<i+k+1
 | [],i,_,k,o,h=>by simp at h
 |x::r,i,h,k,o,hk=>by
  simp only[xT,ag]at h
  cases k with
  |zero=>
   simp at hk;subst hk
   refine⟨?_,OU.1 h.1.1.2,fS h.1.2⟩
   have:=h.1.1.1
   unfold i1 at this
   split at this
   ·assumption
   ·cases this
  |succ k=>
   have:=aD3 h.2 k o (by simpa using hk)
   exact⟨this.1,by rw[show i+(k+1)=i+1+k by omega];exact this.2.1,by rw[show i+(k+1)+1=i+1+k+1 by omega];exact this.2.2⟩
theorem aRp{opsA:Array Oper}{Q:Exit->Act->World->Prop}{n:Nat}(hrest:∀i o,n<i->opsA[i]? = some o->i-1∈B6 o)(hbefore:∀i o,n<=i->opsA[i]? = some o->∀p∈B6 o,p<i):
  ∀(fuel k:Nat) (listed:Array Bool) (a:Act) (w:World),n<=k->listed.size=opsA.size->(∀i,listed.getD i false=true↔i<k)->k<=opsA.size->opsA.size-k<=fuel ->
   wpList C.P opsA Q (opsA.toList.drop k) a w->wpAny C.P .any opsA Q fuel listed a w:=by
 intro fuel;have hready:∀(k:Nat) (listed:Array Bool),n<=k->listed.size=opsA.size->(∀i,listed.getD i false=true↔i<k)->∀i∈ll .any opsA listed,i=k:=fun k listed hnk hs hl i hi=>by
  obtain⟨h1,o,ho,hall⟩:=mem_ready.1 hi;have hil:i<opsA.size:=(dc.1 ho).1;have hil':i<listed.size:=by omega
  have hni:¬i<k:=fun h=>by
   have:=(hl i).2 h;simp[iw,hil']at h1 this;rw[this]at h1;cases h1
  rcases ax k i with hki|hki
  ·exfalso;have:=hrest i o (by omega) ho;obtain⟨e,he,hb,hon⟩:=I6.1 this;have:=(hl e.on).1 (hall e he hb);omega
  ·omega
 induction fuel with
 |zero=>
  intro k listed a w hnk hs hl hk hf hw;have hke:k=opsA.size:=by omega
  subst hke;have hdrop:opsA.toList.drop opsA.size=[]:=by simp
  rw[hdrop]at hw;refine⟨?_,hw⟩;cases hr:ll .any opsA listed with
  |nil=>rfl
  |cons i r=>
   exfalso;have hi:i∈ll .any opsA listed:=by rw[hr];simp
   have:=hready _ listed hnk hs hl i hi;obtain⟨_,o,ho,_⟩:=mem_ready.1 hi;have:=(dc.1 ho).1;omega
 |succ fuel ih=>
  intro k listed a w hnk hs hl hk hf hw;rcases ax k opsA.size with hlt|hge
  ·have hget:opsA[k]? = some opsA[k]:=by simp[hlt]
   have hdrop:opsA.toList.drop k=opsA[k]::opsA.toList.drop (k+1):=by
    rw[List.drop_eq_getElem_cons (by simpa using hlt)];simp
   rw[hdrop]at hw;refine⟨fun hnil=>?_,fun i hi=>?_⟩
   ·exfalso;have:k∈ll .any opsA listed:=by
     rw[mem_ready];have hil:k<listed.size:=by omega
     refine⟨?_,opsA[k],hget,fun e he hbd=>?_⟩
     ·have h0:¬listed.getD k false=true:=fun h=>absurd ((hl k).1 h) (mw _);simpa[iw,hil]using h0
     ·exact(hl e.on).2 (hbefore k opsA[k] hnk hget e.on (I6.2 ⟨e,he,hbd,rfl⟩))
    rw[hnil]at this;simp at this
   ·have:=hready k listed hnk hs hl i hi;subst this;have hil':i<listed.size:=by omega
    have hset:∀j,(listed.setIfInBounds i true).getD j false=true↔j<i+1:=fun j=>by
     by_cases hj:j=i
     ·subst hj;simp[iw,hil']
     ·rw[du,gl (fun e=>hj e.symm),←du,hl j];omega
    simp only[wpList]at hw;unfold wpOp;rw[hget];simp only;split
    ·rename_i hwant;rw[if_pos hwant]at hw;rcases hw with hw|hw
     ·exact .inl (Oper.wp_mono (fun a' w' h=>ih (i+1) _ a' w' (by omega) (by simpa using hs) hset hlt (by omega) h) hw)
     ·exact .inr hw
    ·rename_i hwant;rw[if_neg hwant]at hw;exact ih (i+1) _ _ w (by omega) (by simpa using hs) hset hlt (by omega) hw
  ·have hke:k=opsA.size:=by omega
   subst hke;have hdrop:opsA.toList.drop opsA.size=[]:=by simp
   rw[hdrop]at hw;refine⟨fun _=>hw,fun i hi=>?_⟩;exfalso;have:=hready _ listed hnk hs hl i hi;obtain⟨_,o,ho,_⟩:=mem_ready.1 hi;have:=(dc.1 ho).1;omega
theorem aXK(hC:SumsOk C){opsA:Array Oper}{n:Nat}(hn:n<=opsA.size)(hR:Reg C (opsA.toList.take n) s0 S xs fs)(hT:O7 (opsA.toList.take n) n (opsA.toList.drop n)=true){σ0:Sit}(hG0:GlobsOk C.globs σ0.w σ0.S){Q:Exit->Act->World->Prop}
  (hQ:∀σ' a',Ok base S0 σ'->Adv σ0 σ'->RelT σ' (S n) a'->wpList C.P opsA Q (opsA.toList.drop n) a' σ'.w) :
  ∀(fuel:Nat) (listed:Array Bool) (σ:Sit) (a:Act),listed.size=opsA.size->(ig opsA.size).countP (fun i=>!listed.getD i false)<=fuel->(∀i,n<=i->listed.getD i false=false) ->
   Inv C (opsA.toList.take n) s0 S xs fs base S0 σ0 (fun i=>listed.getD i false=true) σ a->wpAny C.P .any opsA Q fuel listed a σ.w:=by
 have hlen:(opsA.toList.take n).length=n:=by simp;omega
 have hH:∀i,i<n->(opsA.toList.take n)[i]? = opsA[i]?:=fun i hi=>by rw[cr hi];simp
 have htail:∀i o,n<=i->opsA[i]? = some o->(n<i->i-1∈B6 o)/\(∀p∈B6 o,p<i)/\(i=n->∀j,j<n->j∈(B6 o).flatMap fun i=>i::K5 (opsA.toList.take n) i):=fun i o hi ho=>by
  have hdrop:(opsA.toList.drop n)[i-n]? = some o:=by
   rw[dt,show n+(i-n)=i by omega];simpa using ho
  cases hd:opsA.toList.drop n with
  |nil=>rw[hd]at hdrop;simp at hdrop
  |cons x r=>
   rw[hd]at hdrop hT
   simp only[O7,ag]at hT
   obtain⟨⟨⟨t1,t2⟩,t3⟩,t4⟩:=hT
   rcases lf hi with heq|hgt
   ·subst heq
    rw[gr]at hdrop
    simp at hdrop
    subst hdrop
    exact⟨fun h=>absurd h (mw _),fS t3,fun _ j hj=>aBM t2 j hj⟩
   ·obtain⟨k,rfl⟩:∃k,i=n+1+k:=⟨i-n-1,by omega⟩
    rw[show n+1+k-n=k+1 by omega]at hdrop
    have:=aD3 t4 k o (by simpa using hdrop)
    refine⟨fun _=>by rw[show n+1+k-1=n+k by omega];exact this.2.1,fun p hp=>?_,fun h=>by omega⟩
    have:=this.2.2 p hp
    omega
 have hdone:∀(fuel:Nat) (listed:Array Bool) (σ:Sit) (a:Act),listed.size=opsA.size->(ig opsA.size).countP (fun i=>!listed.getD i false)<=fuel->(∀i,n<=i->listed.getD i false=false)->(∀i,i<n->listed.getD i false=true) ->
   Inv C (opsA.toList.take n) s0 S xs fs base S0 σ0 (fun i=>listed.getD i false=true) σ a->wpAny C.P .any opsA Q fuel listed a σ.w:=fun fuel listed σ a hs hc hno hall hI=>by
  have hl:∀i,listed.getD i false=true↔i<n:=fun i=>by
   rcases ax i n with h|h
   ·exact⟨fun _=>h,fun _=>hall i h⟩
   ·exact⟨fun h'=>(by rw[hno i h]at h';cases h'),fun h'=>by omega⟩
  have hrel:=hI.done hR (fun i hi=>hall i (by rw[hlen]at hi;exact hi))
  rw[hlen]at hrel
  refine aRp (n:=n) (fun i o hi ho=>(htail i o (by omega) ho).1 hi) (fun i o hi ho=>(htail i o hi ho).2.1) fuel n listed a σ.w (bu _) hs hl hn ?_ (hQ σ a hI.ok hI.adv hrel)
  refine fy ?_ hc
  have:(ig opsA.size).countP (fun i=>!listed.getD i false)=(ig opsA.size).countP (fun i=>decide (n<=i)):=by
   refine oo fun i _=>?_
   rcases ax i n with h|h
   ·rw[hall i h];simp;omega
   ·rw[hno i h];simp;omega
  rw[this]
  have key:∀m,m-n<=(ig m).countP (fun i=>decide (n<=i)):=fun m=>by
   induction m with
   |zero=>simp
   |succ m ih=>
    rw[pm,oc]
    simp only[jz,pn,decide_eq_true_eq]
    split<;>omega
  exact key _
 intro fuel
 induction fuel with
 |zero=>
  intro listed σ a hs hc hno hI
  refine hdone 0 listed σ a hs hc hno (fun i hi=>?_) hI
  have h0:(ig opsA.size).countP (fun i=>!listed.getD i false)=0:=by omega
  rw[nt]at h0
  have:=h0 i (ku.2 (by omega))
  simpa using this
 |succ fuel ih=>
  intro listed σ a hs hc hno hI
  by_cases hall:∀i,i<n->listed.getD i false=true
  ·exact hdone (fuel+1) listed σ a hs hc hno hall hI
  ·have hex:∃j,j<n/\listed.getD j false=false/\∀k,k<j->listed.getD k false=true:=by
    obtain⟨j,hj⟩:=jb.1 hall
    obtain⟨hj1,hj2⟩:=jr.1 hj
    have hj2:listed.getD j false=false:=by simpa using hj2
    have:∀m,∀j,j<=m->j<n->listed.getD j false=false->∃j,j<n/\listed.getD j false=false/\∀k,k<j->listed.getD k false=true:=fun m=>by
     induction m with
     |zero=>intro j hj h1 h2;exact⟨j,h1,h2,fun k hk=>by omega⟩
     |succ m ihm=>
      intro j hj h1 h2
      by_cases hk:∀k,k<j->listed.getD k false=true
      ·exact⟨j,h1,h2,hk⟩
      ·obtain⟨k,hk⟩:=jb.1 hk
       obtain⟨hk1,hk2⟩:=jr.1 hk
       exact ihm k (by omega) (by omega) (by simpa using hk2)
    exact this j j (bu _) hj1 hj2
   refine⟨fun hnil=>?_,fun i hi=>?_⟩
   ·exfalso
    obtain⟨j,h1,h2,h3⟩:=hex
    have:j∈ll .any opsA listed:=by
     rw[mem_ready]
     have hil:j<listed.size:=by omega
     refine⟨by simpa[iw,hil]using h2,opsA[j],by simp[show j<opsA.size by omega],fun e he hbd=>?_⟩
     have hlt:=(hR.row (j:=j) (y:=opsA[j]) (by rw[hH j h1];simp[show j<opsA.size by omega])).1 e.on (I6.2 ⟨e,he,hbd,rfl⟩)
     exact h3 e.on hlt
    rw[hnil]at this;simp at this
   ·obtain⟨h1,o,ho,hpre⟩:=mem_ready.1 hi
    have hil:i<opsA.size:=(dc.1 ho).1
    have hil':i<listed.size:=by omega
    have h1':listed.getD i false=false:=by simpa[iw,hil']using h1
    have hin:i<n:=by
     rcases ax i n with h|h
     ·exact h
     ·exfalso
      obtain⟨t1,t2,t3⟩:=htail i o h ho
      rcases lf h with heq|hgt
      ·subst heq
       obtain⟨j,g1,g2,_⟩:=hex
       obtain⟨q,hq,hqj⟩:=nc.1 (t3 rfl j g1)
       have hql:listed.getD q false=true:=by
        obtain⟨e,he,hb,rfl⟩:=I6.1 hq
        exact hpre e he hb
       rcases cy.1 hqj with rfl|hqj
       ·rw[g2]at hql;cases hql
       ·have:=hI.closed q hql j hqj
        rw[g2]at this;cases this
      ·obtain⟨e,he,hb,hon⟩:=I6.1 (t1 hgt)
       have:=hpre e he hb
       rw[hon,hno (i-1) (by omega)]at this
       cases this
    have hset:∀k,(listed.setIfInBounds i true).getD k false=true↔(k=i∨listed.getD k false=true):=fun k=>by
     by_cases hk:k=i
     ·subst hk;simp[iw,hil']
     ·rw[du,gl (fun e=>hk e.symm),←du]
      simp[hk]
    have hstep:=aL8 (opsA:=(opsA.toList.take n).toArray) (K:=wpAny C.P .any opsA Q fuel (listed.setIfInBounds i true)) (Q:=Q) hC hR hG0 hI (j:=i) (o:=o) ((hH i hin).trans ho)
     (fun k hk=>by obtain⟨e,he,hb,rfl⟩:=I6.1 hk;exact hpre e he hb) (by simp[h1'])
     (fun σ' v hI'=>ih _ σ' _ (by simpa using hs) ?_ ?_ ?_)
    ·have hw:gh o (yielded (opsA.toList.take n).toArray a.tmps)=gh o (yielded opsA a.tmps):=by
      unfold gh
      cases hg:o.guard with
      |none=>rfl
      |some gp=>
       obtain⟨gi,p⟩:=gp
       have hgi:=(hR.row (j:=i) (y:=o) (by rw[hH i hin];exact ho)).2.2.2.2 gi p hg
       simp only
       unfold yielded
       have:((opsA.toList.take n).toArray[gi]?)=opsA[gi]?:=by
        rw[gb];exact hH gi (by omega)
       rw[this]
     rw[hw]at hstep
     unfold wpOp
     rw[ho]
     simp only
     split
     ·rename_i hwant;rw[if_pos hwant]at hstep;exact .inl hstep
     ·rename_i hwant;rw[if_neg hwant]at hstep;exact hstep
    ·have:=aB8 (p:=fun i=>!listed.getD i false) (q:=fun k=>!(listed.setIfInBounds i true).getD k false) (j:=i) (fun k hk=>by
      simp only[dx]at hk⊢
      cases hb:listed.getD k false with
      |false=>rfl
      |true=>rw[(hset k).2 (.inr hb)]at hk;cases hk) (by simp[h1']) (by simp only[oe];exact(hset i).2 (.inl rfl)) (ig opsA.size) (ku.2 hil)
     omega
    ·intro k hk
     cases hb:(listed.setIfInBounds i true).getD k false with
     |false=>rfl
     |true=>
      rcases(hset k).1 hb with rfl|h
      ·omega
      ·rw[hno k hk]at h;cases h
    ·have:(fun k=>(listed.setIfInBounds i true).getD k false=true)=(fun k=>k=i∨listed.getD k false=true):=funext fun k=>propext (hset k)
     rw[this]
     exact hI'
theorem aXM(hP:ProgOk C){opsA:Array Oper}{n:Nat}(hn:n<=opsA.size){fps:List FP}{gs:List Bool}{s s':St}(hd:YC (opsA.toList.take n) fps=true)(hT:O7 (opsA.toList.take n) n (opsA.toList.drop n)=true)(he:T7 C (opsA.toList.take n) (opsA.toList.take n) s=some (fps,gs,s'))(hgs:∀g∈gs,g=true)(hcs:s.cs=[])
  {σ:Sit} {a:Act} (ho:Ok base S0 σ) (hr:RelT σ s a) (hG:GlobsOk C.globs σ.w σ.S) {id:Nat} {Q:Exit->Act->World->Prop}
  (hQ:∀σ' a',Ok base S0 σ'->Adv σ σ'->RelT σ' s' a'->s'.m0=s.m0->wpList C.P opsA Q (opsA.toList.drop n) a' σ'.w):(Code.region id opsA true).wp C.P Q a σ.w:=by
 have hlen:(opsA.toList.take n).length=n:=by simp;omega
 obtain⟨S,xs,fs,h0,h1,h2,h3⟩:=aD8 _ _ _ _ _ he hgs;have hR:Reg C (opsA.toList.take n) s S xs fs:=⟨⟨fps,hd,h0⟩,⟨h1,h3⟩,hcs⟩
 rw[hlen]at h2;obtain⟨k1,k2⟩:=aDi (n:=σ.w.drawn+1) ho;refine wp_region_any hP.mixed ?_;have hstart:=Inv.start hR k1 (show RelT _ s a from⟨hr.size,hr.defers,hr.mem,fun t=>Bu.keep k2.moves.rep (hr.tm t),fun d g p x hm=>⟨fun h=>Bu.keep k2.moves.rep ((hr.cs d g p x hm).1 h),(hr.cs d g p x hm).2⟩⟩);have hm0:s'.m0=s.m0:=by
  rw[←h2];exact(hR.parts _ (by rw[hlen];exact bu _)).2
 refine aXK hP.sums hn hR hT (σ0:={σ with w:={σ.w with drawn:=σ.w.drawn+1} }) (hG.adv k2.adv) (fun σ' a' q1 q2 q3=>hQ σ' a' q1 (k2.adv.trans q2) (by rw[←h2];exact q3) hm0) opsA.size (jv opsA.size false) {σ with w:={σ.w with drawn:=σ.w.drawn+1} } a (by simp) ?_ (fun i _=>by simp[iw]) ?_
 ·refine fy (nk) ?_;simp
 ·have:(fun i=>(jv opsA.size false).getD i false=true)=fun _=>False:=funext fun i=>by
   simp[iw]
  rw[this];exact hstart
end Vx
namespace Vx
open Go Go.RowKit
variable {C:Cfg}{s0:St}{S:Nat->St}{xs:Nat->TV}{fs:Nat->FP}{base b:Base}{S0:Nat->Prop}{σ σ0:Sit}{a:Act}
structure Sub (base b:Base):Prop where
 low:Low base b.w
 new:∀r,b.new r->base.new r
theorem Sub.refl:Sub base base:=⟨⟨rfl,rfl,rfl,bu _,fun _ _ _=>rfl⟩,fun _ h=>h⟩
theorem Sub.back(hs:Sub base b)(ho:Ok b S0 σ):Ok base S0 σ:=
 ⟨hs.low.step ho.below.os ho.below.tape ho.below.output ho.below.size (fun k hk hn=>ho.below.block k hk (fun hM=>hn (hs.new k (.inr hM)))),ho.stab0,
  fun r h=>⟨(ho.stab r h).1,(ho.stab r h).2.imp id (hs.new r)⟩,ho.ent,fun c r h=>⟨hs.new r (ho.own c r h).1,(ho.own c r h).2⟩,ho.inj⟩
def Base.less(b:Base)(w:World)(o:Obj):Base:=⟨w.alloc o,fun r=>b.new r/\r≠w.heap.size⟩
def Sit.behind(σ:Sit)(o:Obj):Sit:={E:=σ.E,mem:=σ.mem,w:=σ.w.alloc o,S:=σ.S}
theorem aLo(ho:Ok b S0 σ)(o:Obj):Goes σ (σ.behind o):=
 ⟨fun _ h=>h,fun r hr=>OQ (ho.stab r hr).1,bu _,fun _ _=>BL.refl rfl rfl rfl⟩
theorem aZw(ho:Ok b S0 σ)(o:Obj):Ok (b.less σ.w o) S0 (σ.behind o):=by
 refine⟨⟨rfl,rfl,rfl,bu _,fun _ _ _=>rfl⟩,ho.stab0,fun r h=>?_,fun c=>?_,fun c r h=>?_,fun c c' r h h'=>ho.inj c c' r h h'⟩
 ·have:=ho.stab r h;refine⟨by simp only[Sit.behind,gk];omega,this.2.imp id fun hn=>.inr ⟨hn,by omega⟩⟩
 ·exact AD.keep (aLo ho o) rfl rfl rfl (fun r hr=>OQ (ho.own c r hr).2.1) (ho.ent c)
 ·have:=ho.own c r h;exact⟨.inr ⟨this.1,by omega⟩,by simp only[Sit.behind,gk];omega,this.2.2⟩
theorem Sub.less(hs:Sub base b)(ho:Ok b S0 σ)(o:Obj):Sub base (b.less σ.w o):=by
 refine⟨(hs.back ho).below.alloc o,fun r h=>?_⟩;rcases h with h|h
 ·refine hs.new r (.inl ?_);have h1:(σ.w.alloc o).heap.size<=r:=h;have h2:=ho.below.size;rw[gk]at h1;omega
 ·exact hs.new r h.1
structure Made (b:Base) (S0:Nat->Prop) (p:Nat) (o:Obj):Prop where
 lt:p<b.w.heap.size
 old:¬b.new p
 at_:b.w.heap[p]? = some o
 s0:¬S0 p
theorem Made.here{p:Nat}{o:Obj}(hm:Made b S0 p o)(ho:Ok b S0 σ):p<σ.w.heap.size/\σ.w.heap[p]? = some o:=
 ⟨al hm.lt ho.below.size,(ho.below.block p hm.lt (fun h=>hm.old (.inr h))).trans hm.at_⟩
theorem Made.keep{p:Nat}{o:Obj}(hm:Made b S0 p o)(ho:Ok b S0 σ)(o':Obj):Made (b.less σ.w o') S0 p o:=by
 obtain⟨h1,h2⟩:=hm.here ho;refine⟨by show p<(σ.w.alloc o').heap.size;rw[gk];omega,fun h=>?_,(OQ h1).trans h2,hm.s0⟩;rcases h with h|h
 ·have h3:(σ.w.alloc o').heap.size<=p:=h;rw[gk]at h3;omega
 ·exact hm.old h.1
theorem Made.make(ho:Ok b S0 σ)(o:Obj):Made (b.less σ.w o) S0 σ.w.heap.size o:=by
 refine⟨by show σ.w.heap.size<(σ.w.alloc o).heap.size;rw[gk];omega,fun h=>?_,Uj,fun h=>?_⟩
 ·rcases h with h|h
  ·have h3:(σ.w.alloc o).heap.size<=σ.w.heap.size:=h;rw[gk]at h3;omega
  ·exact h.2 rfl
 ·have:=(ho.stab _ (ho.stab0 _ h)).1;omega
theorem aZY(ho:Ok base S0 σ){cs:List SC}{vs:Array Value}{T:TypeId}{r:Nat}(hl:EJ base σ r)(hh:σ.w.heap[r]? = some (.cells vs T (0,0)))(hrep:All2 (Az σ) cs vs.toList):
  ∃σ':Sit,σ'.mem=σ.mem++[.raw cs]/\σ'.w=σ.w/\σ'.S=σ.S/\Ok base S0 σ'/\Goes σ σ'/\Az σ' (.ptr σ.mem.length 0) (.pointer (some ⟨r,0,none⟩))/\∀c r',σ'.owned c r'->σ.owned c r'∨r'=r:=by
 let σ':Sit:={E:=⟨AG σ.E.β σ.mem.length (some r),σ.E.κ⟩,mem:=σ.mem++[.raw cs],w:=σ.w,S:=σ.S}
 have hblk:Ac σ'.mem σ.mem.length=.raw cs:=IT;have hold:∀c r',c≠σ.mem.length->σ'.owned c r'->σ.owned c r':=fun c r' hne ⟨g1,g2⟩=>by
  rcases ax c σ.mem.length with hb|hb
  ·simp only[σ']at g1 g2;rw[Hk hb]at g1;exact⟨g1,by simpa[AG,hne]using g2⟩
  ·simp only[σ']at g1;rw[T4 (by omega)]at g1;exact g1.elim
 have hnew:∀r',σ'.owned σ.mem.length r'->r'=r:=fun r' ⟨_,g2⟩=>by
  have:some r=some r':=by simpa[σ',AG]using g2
  cases this;rfl
 have hg:Goes σ σ':=⟨fun _ h=>h,fun _ _=>rfl,by simp[σ'],fun c hb=>BL.refl (Hk hb) (by simp[σ',AG];omega) rfl⟩
 refine⟨σ',rfl,rfl,rfl,⟨ho.below,ho.stab0,ho.stab,fun c=>?_,fun c r' h=>?_,fun c c' r' h h'=>?_⟩,hg,⟨by simp[σ'],⟨_,rfl⟩,?_⟩,fun c r' h=>?_⟩
 ·by_cases hb:c=σ.mem.length
  ·subst hb;unfold AD;rw[hblk];exact⟨r,vs,T,by simp[σ',AG],hh,hrep.mono fun _ _=>hg.repC⟩
  ·rcases ax c σ.mem.length with h' | h'
   ·exact AD.keep hg (Hk h') (by simp[σ',AG,hb]) rfl (fun _ _=>rfl) (ho.ent c)
   ·unfold AD;simp only[σ'];rw[T4 (by omega)];trivial
 ·by_cases hb:c=σ.mem.length
  ·subst hb;rw[hnew r' h];exact⟨hl.1,hl.2.1,hl.2.2.1⟩
  ·exact ho.own c r' (hold c r' hb h)
 ·by_cases hb:c=σ.mem.length<;>by_cases hb':c'=σ.mem.length
  ·rw[hb,hb']
  ·subst hb;rw[hnew r' h]at h';exact(hl.2.2.2 c' (hold c' r hb' h')).elim
  ·subst hb';rw[hnew r' h']at h;exact(hl.2.2.2 c (hold c r hb h)).elim
  ·exact ho.inj c c' r' (hold c r' hb h) (hold c' r' hb' h')
 ·rw[hblk];exact⟨r,by simp[σ',AG],rfl⟩
 ·by_cases hb:c=σ.mem.length
  ·subst hb;exact .inr (hnew r' h)
  ·exact .inl (hold c r' hb h)
theorem aOj{q:Nat->Nat}:∀(l:List Oper) (j0:Nat) {σ:Sit} {s s2:St},Ok base S0 σ->RelT σ s a->Vv C.P l s=some s2 ->
  (∀j o,l[j]? = some o->∃T d zv,o.op=.alloc T/\o.dst=some d/\(∀w,(zeroValue T).run C.P w=.ok zv w)/\a.tmps.getD d undef=.pointer (some ⟨q (j0+j),0,none⟩)/\EJ base σ (q (j0+j))/\σ.w.heap[q (j0+j)]? = some (.cells zv.cells T (0,0))) ->
  (∀j j',j<l.length->j'<l.length->q (j0+j)=q (j0+j')->j=j') ->
  ∃σ2:Sit,σ2.w=σ.w/\Ok base S0 σ2/\Goes σ σ2/\RelT σ2 s2 a/\s2.m0=s.m0
 | [],j0,σ,s,s2,ho,hr,h,_,_=>by
  simp only[Vv,ae]at h
  subst h
  exact⟨σ,rfl,ho,Goes.refl σ,hr,rfl⟩
 |o::l,j0,σ,s,s2,ho,hr,h,hf,hd=>by
  obtain⟨T,d,zv,e1,e2,e3,e4,e5,e6⟩:=hf 0 o rfl
  simp only[Vv,e1,e2]at h
  obtain⟨hdn,h⟩:=AJ h
  split at h
  ·rename_i z hz
   obtain⟨zv',g1,g2⟩:=j7 (σ:=σ) hz
   have hzz:zv'=zv:=by
    have:=(g2 σ.w).symm.trans (e3 σ.w)
    cases this;rfl
   subst hzz
   obtain⟨σ',k1,k2,k3,k4,k5,k6,k7⟩:=aZY ho e5 e6 g1.cells
   have hr':RelT σ' {s with tm:=(d,.val (.one (.ptr s.mem.length 0)))::s.tm,mem:=s.mem++[.raw z.cells] } a:=by
    refine⟨hr.size,hr.defers,by rw[k1,hr.mem],fun t=>?_,fun d' g p x hm=>⟨fun h=>Bu.keep k5.moves.rep ((hr.cs d' g p x hm).1 h),(hr.cs d' g p x hm).2⟩⟩
    simp only[Bm]
    cases hb:Nat.beq d t with
    |true=>
     have:=ah hb
     subst this
     rw[e4,←hr.mem]
     exact k6
    |false=>exact Bu.keep k5.moves.rep (hr.tm t)
   obtain⟨σ2,m1,m2,m3,m4,m5⟩:=aOj l (j0+1) k4 hr' h (fun j o' ho'=>by
    obtain⟨T',d',zv',f1,f2,f3,f4,f5,f6⟩:=hf (j+1) o' ho'
    rw[show j0+(j+1)=j0+1+j by omega]at f4 f5 f6
    refine⟨T',d',zv',f1,f2,f3,f4,⟨f5.1,by rw[k2];exact f5.2.1,by rw[k3];exact f5.2.2.1,fun c hc=>?_⟩,by rw[k2];exact f6⟩
    rcases k7 c _ hc with hc|hc
    ·exact f5.2.2.2 c hc
    ·have hj:=(bf.1 ho').1
     have:=hd (j+1) 0 (by simp;omega) (by simp) (by rw[show j0+(j+1)=j0+1+j by omega];exact hc)
     omega) (fun j j' hj hj' hq=>by
    have:=hd (j+1) (j'+1) (by simp;omega) (by simp;omega) (by rw[show j0+(j+1)=j0+1+j by omega,show j0+(j'+1)=j0+1+j' by omega];exact hq)
    omega)
   exact⟨σ2,m1.trans k2,m2,k5.trans m3,m4,m5⟩
  ·cases h
theorem Inv.make{H:List Oper}{L:Nat->Prop}(hI:Inv C H s0 S xs fs b S0 σ0 L σ a){d:Nat}(hd:d<s0.n)(hun:Bm s0.tm d=.un)(hH:∀(i:Nat) (y:Oper),H[i]? = some y->y.dst≠some d)(v:Value)(o:Obj):
  Inv C H s0 S xs fs (b.less σ.w o) S0 σ0 L (σ.behind o) (a.put (some d) v):=by
 have hg:=aLo hI.ok o;have keep:∀{x y},Bu σ x y->Bu (σ.behind o) x y:=fun h=>Bu.keep hg.moves.rep h;have hget:=fun t=>sD (v:=v) (o:=some d) hI.size (fun d' h=>by cases h;exact hd) t;refine⟨aZw hI.ok o,hI.adv.trans hg.adv,?_,?_,hI.closed,hI.lt,hI.blk,hI.len,fun t ht=>?_,fun i x d' hi hx hd' hgu=>?_,fun i x d' gi p t hi hx hd' hgu ht=>?_⟩
 ·have:=hI.size;simp[Act.put,this]
 ·have:=hI.defers;simp[Act.put,this]
 ·rw[hget];by_cases htd:t=d
  ·subst htd;rw[hun];trivial
  ·rw[if_neg (fun h=>htd (by cases h;rfl))];exact keep (hI.old t ht)
 ·rw[hget,if_neg (fun h=>hH i x hx (by cases h;exact hd'))];exact keep (hI.new i x d' hi hx hd' hgu)
 ·have hne:t≠d:=fun h=>by
   subst h;unfold E6 at ht;split at ht
   ·rename_i y e;exact hH gi y e ht
   ·cases ht
  rw[hget,hget,if_neg (fun h=>hne (by cases h;rfl)),if_neg (fun h=>hH i x hx (by cases h;exact hd'))];have:=hI.tag i x d' gi p t hi hx hd' hgu ht;exact⟨fun h=>keep (this.1 h),this.2⟩
structure Allocs (C:Cfg) (opsA:Array Oper) (s0:St) (n k:Nat):Prop where
 op:∀j,j<k->∃o d T zv,opsA[n+j]? = some o/\o.op=.alloc T/\o.guard=none/\o.dst=some d/\B6 o=[]/\Bm s0.tm d=.un/\d<s0.n/\(∀w,(zeroValue T).run C.P w=.ok zv w)
 apart:∀i i' o o' d,i<n+k->i'<n+k->opsA[i]? = some o->opsA[i']? = some o'->o.dst=some d->o'.dst=some d->(n<=i∨n<=i')->i=i'
def yE(C:Cfg)(opsA:Array Oper)(n k:Nat)(base b:Base)(S0:Nat->Prop)(q:Nat->Nat)(L:Nat->Prop)(a:Act):Prop:=(∀j,j<k->L (n+j)->∃o d T zv,opsA[n+j]? = some o/\o.op=.alloc T/\o.dst=some d/\(∀w,(zeroValue T).run C.P w=.ok zv w)/\a.tmps.getD d undef=.pointer (some ⟨q j,0,none⟩)/\base.new (q j)/\Made b S0 (q j) (.cells zv.cells T (0,0))) /\ ∀j j',j<k->j'<k->L (n+j)->L (n+j')->q j=q j'->j=j'
theorem aXL(hC:SumsOk C){opsA:Array Oper}{n k:Nat}(hn:n+k<=opsA.size)(hR:Reg C (opsA.toList.take n) s0 S xs fs)(hA:Allocs C opsA s0 n k)(hT:O7 (opsA.toList.take n) (n+k) (opsA.toList.drop (n+k))=true)
  (hG0:GlobsOk C.globs σ0.w σ0.S) {Q:Exit->Act->World->Prop}
  (hQ:∀σ' a' b q,Sub base b->Ok b S0 σ'->Adv σ0 σ'->RelT σ' (S n) a'->yE C opsA n k base b S0 q (fun _=>True) a'->wpList C.P opsA Q (opsA.toList.drop (n+k)) a' σ'.w) :
  ∀(fuel:Nat) (listed:Array Bool) (σ:Sit) (a:Act) (b:Base) (q:Nat->Nat),listed.size=opsA.size->(ig opsA.size).countP (fun i=>!listed.getD i false)<=fuel->(∀i,n+k<=i->listed.getD i false=false)->Sub base b ->
   Inv C (opsA.toList.take n) s0 S xs fs b S0 σ0 (fun i=>i<n/\listed.getD i false=true) σ a->yE C opsA n k base b S0 q (fun i=>listed.getD i false=true) a->wpAny C.P .any opsA Q fuel listed a σ.w:=by
 have hlen:(opsA.toList.take n).length=n:=by simp;omega
 have hH:∀i,i<n->(opsA.toList.take n)[i]? = opsA[i]?:=fun i hi=>by rw[cr hi];simp
 have hHd:∀i o,(opsA.toList.take n)[i]? = some o->i<n/\opsA[i]? = some o:=fun i o h=>by
  have hi:i<n:=by
   have:=(bf.1 h).1
   omega
  exact⟨hi,by rw[←hH i hi];exact h⟩
 have htail:∀i o,n+k<=i->opsA[i]? = some o->(n+k<i->i-1∈B6 o)/\(∀p∈B6 o,p<i)/\(i=n+k->∀j,j<n+k->j∈(B6 o).flatMap fun i=>i::K5 (opsA.toList.take n) i):=fun i o hi ho=>by
  have hdrop:(opsA.toList.drop (n+k))[i-(n+k)]? = some o:=by
   rw[dt,show n+k+(i-(n+k))=i by omega];simpa using ho
  cases hd:opsA.toList.drop (n+k)with
  |nil=>rw[hd]at hdrop;simp at hdrop
  |cons x r=>
   rw[hd]at hdrop hT
   simp only[O7,ag]at hT
   obtain⟨⟨⟨t1,t2⟩,t3⟩,t4⟩:=hT
   rcases lf hi with heq|hgt
   ·subst heq
    rw[gr]at hdrop
    simp at hdrop
    subst hdrop
    exact⟨fun h=>absurd h (mw _),fS t3,fun _ j hj=>aBM t2 j hj⟩
   ·obtain⟨m,rfl⟩:∃m,i=n+k+1+m:=⟨i-(n+k)-1,by omega⟩
    rw[show n+k+1+m-(n+k)=m+1 by omega]at hdrop
    have:=aD3 t4 m o (by simpa using hdrop)
    refine⟨fun _=>by rw[show n+k+1+m-1=n+k+m by omega];exact this.2.1,fun p hp=>?_,fun h=>by omega⟩
    have:=this.2.2 p hp
    omega
 have hdone:∀(fuel:Nat) (listed:Array Bool) (σ:Sit) (a:Act) (b:Base) (q:Nat->Nat),listed.size=opsA.size->(ig opsA.size).countP (fun i=>!listed.getD i false)<=fuel->(∀i,n+k<=i->listed.getD i false=false)->(∀i,i<n+k->listed.getD i false=true)->Sub base b ->
   Inv C (opsA.toList.take n) s0 S xs fs b S0 σ0 (fun i=>i<n/\listed.getD i false=true) σ a->yE C opsA n k base b S0 q (fun i=>listed.getD i false=true) a->wpAny C.P .any opsA Q fuel listed a σ.w:=fun fuel listed σ a b q hs hc hno hall hsub hI hM=>by
  have hl:∀i,listed.getD i false=true↔i<n+k:=fun i=>by
   rcases ax i (n+k)with h|h
   ·exact⟨fun _=>h,fun _=>hall i h⟩
   ·exact⟨fun h'=>(by rw[hno i h]at h';cases h'),fun h'=>by omega⟩
  have hrel:=hI.done hR (fun i hi=>⟨by omega,hall i (by omega)⟩)
  rw[hlen]at hrel
  refine aRp (n:=n+k) (fun i o hi ho=>(htail i o (by omega) ho).1 hi) (fun i o hi ho=>(htail i o hi ho).2.1) fuel (n+k) listed a σ.w (bu _) hs hl hn ?_
   (hQ σ a b q hsub hI.ok hI.adv hrel ⟨fun j hj _=>hM.1 j hj (hall _ (by omega)),fun j j' hj hj' _ _=>hM.2 j j' hj hj' (hall _ (by omega)) (hall _ (by omega))⟩)
  refine fy ?_ hc
  have:(ig opsA.size).countP (fun i=>!listed.getD i false)=(ig opsA.size).countP (fun i=>decide (n+k<=i)):=by
   refine oo fun i _=>?_
   rcases ax i (n+k)with h|h
   ·rw[hall i h];simp;omega
   ·rw[hno i h];simp;omega
  rw[this]
  have key:∀m,m-(n+k)<=(ig m).countP (fun i=>decide (n+k<=i)):=fun m=>by
   induction m with
   |zero=>simp
   |succ m ih=>
    rw[pm,oc]
    simp only[jz,pn,decide_eq_true_eq]
    split<;>omega
  exact key _
 intro fuel
 induction fuel with
 |zero=>
  intro listed σ a b q hs hc hno hsub hI hM
  refine hdone 0 listed σ a b q hs hc hno (fun i hi=>?_) hsub hI hM
  have h0:(ig opsA.size).countP (fun i=>!listed.getD i false)=0:=by omega
  rw[nt]at h0
  have:=h0 i (ku.2 (by omega))
  simpa using this
 |succ fuel ih=>
  intro listed σ a b q hs hc hno hsub hI hM
  by_cases hall:∀i,i<n+k->listed.getD i false=true
  ·exact hdone (fuel+1) listed σ a b q hs hc hno hall hsub hI hM
  ·have hex:∃j,j<n+k/\listed.getD j false=false/\∀i,i<j->listed.getD i false=true:=by
    obtain⟨j,hj⟩:=jb.1 hall
    obtain⟨hj1,hj2⟩:=jr.1 hj
    have hj2:listed.getD j false=false:=by simpa using hj2
    have:∀m,∀j,j<=m->j<n+k->listed.getD j false=false->∃j,j<n+k/\listed.getD j false=false/\∀i,i<j->listed.getD i false=true:=fun m=>by
     induction m with
     |zero=>intro j hj h1 h2;exact⟨j,h1,h2,fun i hi=>by omega⟩
     |succ m ihm=>
      intro j hj h1 h2
      by_cases hk:∀i,i<j->listed.getD i false=true
      ·exact⟨j,h1,h2,hk⟩
      ·obtain⟨i,hk⟩:=jb.1 hk
       obtain⟨hk1,hk2⟩:=jr.1 hk
       exact ihm i (by omega) (by omega) (by simpa using hk2)
    exact this j j (bu _) hj1 hj2
   refine⟨fun hnil=>?_,fun i hi=>?_⟩
   ·exfalso
    obtain⟨j,h1,h2,h3⟩:=hex
    have:j∈ll .any opsA listed:=by
     rw[mem_ready]
     have hil:j<listed.size:=by omega
     refine⟨by simpa[iw,hil]using h2,opsA[j],by simp[show j<opsA.size by omega],fun e he hbd=>?_⟩
     rcases ax j n with hjn|hjn
     ·have hlt:=(hR.row (j:=j) (y:=opsA[j]) (by rw[hH j hjn];simp[show j<opsA.size by omega])).1 e.on (I6.2 ⟨e,he,hbd,rfl⟩)
      exact h3 e.on hlt
     ·obtain⟨o,d,T,zv,g1,_,_,_,g5,_⟩:=hA.op (j-n) (by omega)
      rw[show n+(j-n)=j by omega]at g1
      have:opsA[j]=o:=by
       have h4:opsA[j]? = some opsA[j]:=by simp[show j<opsA.size by omega]
       rw[h4]at g1;cases g1;rfl
      have hp:e.on∈B6 o:=by rw[←this];exact I6.2 ⟨e,he,hbd,rfl⟩
      rw[g5]at hp;simp at hp
    rw[hnil]at this;simp at this
   ·obtain⟨h1,o,ho,hpre⟩:=mem_ready.1 hi
    have hil:i<opsA.size:=(dc.1 ho).1
    have hil':i<listed.size:=by omega
    have h1':listed.getD i false=false:=by simpa[iw,hil']using h1
    have hin:i<n+k:=by
     rcases ax i (n+k)with h|h
     ·exact h
     ·exfalso
      obtain⟨t1,t2,t3⟩:=htail i o h ho
      rcases lf h with heq|hgt
      ·subst heq
       obtain⟨j,g1,g2,_⟩:=hex
       obtain⟨p,hp,hpj⟩:=nc.1 (t3 rfl j g1)
       have hpl:listed.getD p false=true:=by
        obtain⟨e,he,hb,rfl⟩:=I6.1 hp
        exact hpre e he hb
       rcases cy.1 hpj with rfl|hpj
       ·rw[g2]at hpl;cases hpl
       ·rcases ax p n with hpn|hpn
        ·have:=(hI.closed p ⟨hpn,hpl⟩ j hpj).2
         rw[g2]at this;cases this
        ·have:K5 (opsA.toList.take n) p=[]:=by
          unfold K5
          have hal:∀(l:List Oper) (acc:List (List Nat)),(Gt acc l).length=acc.length+l.length:=fun l=>by
           induction l with
           |nil=>intro acc;simp[Gt]
           |cons x r ihr=>intro acc;simp only[Gt];rw[ihr];simp;omega
          have:=hal (opsA.toList.take n) []
          rw[df (by rw[this,hlen];simpa using hpn)];rfl
         rw[this]at hpj;simp at hpj
      ·obtain⟨e,he,hb,hon⟩:=I6.1 (t1 hgt)
       have:=hpre e he hb
       rw[hon,hno (i-1) (by omega)]at this
       cases this
    have hset:∀m,(listed.setIfInBounds i true).getD m false=true↔(m=i∨listed.getD m false=true):=fun m=>by
     by_cases hk:m=i
     ·subst hk;simp[iw,hil']
     ·rw[du,gl (fun e=>hk e.symm),←du]
      simp[hk]
    have hcount:(ig opsA.size).countP (fun m=>!(listed.setIfInBounds i true).getD m false)<=fuel:=by
     have:=aB8 (p:=fun m=>!listed.getD m false) (q:=fun m=>!(listed.setIfInBounds i true).getD m false) (j:=i) (fun m hk=>by
      simp only[dx]at hk⊢
      cases hb:listed.getD m false with
      |false=>rfl
      |true=>rw[(hset m).2 (.inr hb)]at hk;cases hk) (by simp[h1']) (by simp only[oe];exact(hset i).2 (.inl rfl)) (ig opsA.size) (ku.2 hil)
     omega
    have hno':∀m,n+k<=m->(listed.setIfInBounds i true).getD m false=false:=fun m hm=>by
     cases hb:(listed.setIfInBounds i true).getD m false with
     |false=>rfl
     |true=>
      rcases(hset m).1 hb with rfl|h
      ·omega
      ·rw[hno m hm]at h;cases h
    rcases ax i n with hi1|hi1
    ·have hstep:=aL8 (opsA:=(opsA.toList.take n).toArray) (K:=wpAny C.P .any opsA Q fuel (listed.setIfInBounds i true)) (Q:=Q) hC hR hG0 hI (j:=i) (o:=o) ((hH i hi1).trans ho)
      (fun m hk=>by
       obtain⟨e,he,hb,rfl⟩:=I6.1 hk
       have:=(hR.row (j:=i) (y:=o) (by rw[hH i hi1];exact ho)).1 e.on hk
       exact⟨by omega,hpre e he hb⟩) (by simp[h1'])
      (fun σ' v hI'=>ih _ σ' _ b q (by simpa using hs) hcount hno' hsub ?_ ?_)
     ·have hw:gh o (yielded (opsA.toList.take n).toArray a.tmps)=gh o (yielded opsA a.tmps):=by
       unfold gh
       cases hg:o.guard with
       |none=>rfl
       |some gp=>
        obtain⟨gi,p⟩:=gp
        have hgi:=(hR.row (j:=i) (y:=o) (by rw[hH i hi1];exact ho)).2.2.2.2 gi p hg
        simp only
        unfold yielded
        have:((opsA.toList.take n).toArray[gi]?)=opsA[gi]?:=by
         rw[gb];exact hH gi (by omega)
        rw[this]
      rw[hw]at hstep
      unfold wpOp
      rw[ho]
      simp only
      split
      ·rename_i hwant;rw[if_pos hwant]at hstep;exact .inl hstep
      ·rename_i hwant;rw[if_neg hwant]at hstep;exact hstep
     ·have:(fun m=>m<n/\(listed.setIfInBounds i true).getD m false=true)=(fun m=>m=i∨(m<n/\listed.getD m false=true)):=funext fun m=>propext (by
       rw[hset m]
       constructor
       ·rintro ⟨g1,g2|g2⟩
        ·exact .inl g2
        ·exact .inr ⟨g1,g2⟩
       ·rintro (g|g)
        ·exact⟨by omega,.inl g⟩
        ·exact⟨g.1,.inr g.2⟩)
      rw[this]
      exact hI'
     ·refine⟨fun j hj hL=>?_,fun j j' hj hj' hL hL'=>hM.2 j j' hj hj' (((hset _).1 hL).resolve_left (by omega)) (((hset _).1 hL').resolve_left (by omega))⟩
      obtain⟨o',d',T',zv',f1,f2,f3,f4,f5,f6⟩:=hM.1 j hj (((hset _).1 hL).resolve_left (by omega))
      have hdn':∀d,o.dst=some d->d<s0.n:=fun d hd=>by
       have:=(hR.tr.step i o ((hH i hi1).trans ho)).2.2 d hd
       rw[(hR.parts i (by rw[hlen];omega)).1]at this
       exact this
      refine⟨o',d',T',zv',f1,f2,f3,f4,?_,f6⟩
      rw[sD hI.size hdn',if_neg (fun h=>?_)]
      ·exact f5
      ·have:=hA.apart i (n+j) o o' d' (by omega) (by omega) ho f1 h f3 (.inr (by omega))
       omega
    ·obtain⟨j,rfl⟩:∃j,i=n+j:=⟨i-n,by omega⟩
     obtain⟨o',d,T,zv,g1,g2,g3,g4,g5,g6,g7,g8⟩:=hA.op j (by omega)
     have:o'=o:=by rw[ho]at g1;cases g1;rfl
     subst this
     have hex':(execOp a.eval o').run C.P σ.w=.ok (.value (.pointer (some ⟨σ.w.heap.size,0,none⟩))) (σ.w.alloc (.cells zv.cells T)):=by
      simp only[execOp,g2,Instr.alloc]
      simp[g8 σ.w,aDR]
     unfold wpOp
     rw[ho]
     simp only
     rw[if_pos (by simp[gh,g3])]
     refine .inl ?_
     unfold Oper.wp
     rw[hex']
     show wpAny C.P .any opsA Q fuel (listed.setIfInBounds (n+j) true) (a.put o'.dst (.pointer (some ⟨σ.w.heap.size,0,none⟩))) (σ.w.alloc (.cells zv.cells T))
     rw[g4]
     have hHdst:∀(m:Nat) (x:Oper),(opsA.toList.take n)[m]? = some x->x.dst≠some d:=fun m x hx hxd=>by
      obtain⟨u1,u2⟩:=hHd m x hx
      have:=hA.apart m (n+j) x o' d (by omega) (by omega) u2 ho hxd g4 (.inr (by omega))
      omega
     refine ih _ (σ.behind (.cells zv.cells T)) _ (b.less σ.w (.cells zv.cells T)) (fun m=>if m=j then σ.w.heap.size else q m) (by simpa using hs) hcount hno' (hsub.less hI.ok _) ?_ ?_
     ·have:(fun m=>m<n/\(listed.setIfInBounds (n+j) true).getD m false=true)=(fun m=>m<n/\listed.getD m false=true):=funext fun m=>propext (by
       rw[hset m]
       constructor
       ·rintro ⟨u1,u2|u2⟩
        ·omega
        ·exact⟨u1,u2⟩
       ·rintro ⟨u1,u2⟩
        exact⟨u1,.inr u2⟩)
      rw[this]
      exact hI.make g7 g6 hHdst _ _
     ·have hget:=fun t=>sD (v:=.pointer (some ⟨σ.w.heap.size,0,none⟩)) (o:=some d) hI.size (fun d' h=>by cases h;exact g7) t
      have hold:∀m,m<k->m≠j->(listed.setIfInBounds (n+j) true).getD (n+m) false=true->listed.getD (n+m) false=true:=fun m hm hne hL=>((hset _).1 hL).resolve_left (by omega)
      refine⟨fun m hm hL=>?_,fun m m' hm hm' hL hL' hq=>?_⟩
      ·by_cases hmj:m=j
       ·subst hmj
        refine⟨o',d,T,zv,ho,g2,g4,g8,?_,?_,?_⟩
        ·dsimp only
         rw[hget,if_pos rfl,if_pos rfl]
        ·dsimp only
         rw[if_pos rfl]
         exact .inl (hsub.back hI.ok).below.size
        ·dsimp only
         rw[if_pos rfl]
         exact Made.make hI.ok _
       ·obtain⟨o2,d2,T2,zv2,f1,f2,f3,f4,f5,f6,f7⟩:=hM.1 m hm (hold m hm hmj hL)
        refine⟨o2,d2,T2,zv2,f1,f2,f3,f4,?_,by dsimp only;rw[if_neg hmj];exact f6,by dsimp only;rw[if_neg hmj];exact f7.keep hI.ok _⟩
        dsimp only
        rw[hget,if_neg hmj,if_neg (fun h=>?_)]
        ·exact f5
        ·have h:d=d2:=by cases h;rfl
         subst h
         have:=hA.apart (n+m) (n+j) o2 o' d (by omega) (by omega) f1 ho f3 g4 (.inr (by omega))
         omega
      ·dsimp only at hq
       by_cases hmj:m=j<;>by_cases hmj':m'=j
       ·omega
       ·exfalso
        rw[if_pos hmj,if_neg hmj']at hq
        obtain⟨_,_,_,_,_,_,_,_,_,_,f7⟩:=hM.1 m' hm' (hold m' hm' hmj' hL')
        have:=(f7.here hI.ok).1
        omega
       ·exfalso
        rw[if_neg hmj,if_pos hmj']at hq
        obtain⟨_,_,_,_,_,_,_,_,_,_,f7⟩:=hM.1 m hm (hold m hm hmj hL)
        have:=(f7.here hI.ok).1
        omega
       ·rw[if_neg hmj,if_neg hmj']at hq
        exact hM.2 m m' hm hm' (hold m hm hmj hL) (hold m' hm' hmj' hL') hq
theorem aLh(σ:Sit):∀{l:List Oper} {s s2:St},Vv C.P l s=some s2->qR l=true ->
  ∀(j:Nat) (o:Oper),l[j]? = some o->∃d T zv,o.op=.alloc T/\o.guard=none/\o.dst=some d/\B6 o=[]/\d<s.n/\∀w,(zeroValue T).run C.P w=.ok zv w
 | [],_,_,_,_,j,o,h=>by simp at h
 |x::l,s,s2,h,hk,j,o,ho=>by
  simp only[Vv]at h
  simp only[qR,ag]at hk
  obtain⟨⟨⟨q1,q2⟩,_⟩,q4⟩:=hk
  split at h
  ·rename_i T d e1 e2
   obtain⟨hd,h⟩:=AJ h
   split at h
   ·rename_i z hz
    cases j with
    |zero=>
     simp at ho
     subst ho
     obtain⟨zv,_,g2⟩:=j7 (σ:=σ) hz
     refine⟨d,T,zv,e1,?_,e2,?_,jl hd,g2⟩
     ·unfold sG at q1
      rw[e1]at q1
      unfold i1 at q1
      simp only at q1
      split at q1
      ·assumption
      ·cases q1
     ·split at q2
      ·assumption
      ·cases q2
    |succ j=>exact aLh σ h q4 j o (by simpa using ho)
   ·cases h
  ·cases h
theorem rO:∀{l:List Oper} {i:Nat} {o:Oper} {d:Nat},l[i]? = some o->o.dst=some d->d∈FO l
 | [],_,_,_,h,_=>by simp at h
 |x::l,i,o,d,h,hd=>by
  cases i with
  |zero=>
   simp at h
   subst h
   simp only[FO,hd]
   simp
  |succ i=>
   have:=rO (l:=l) (by simpa using h) hd
   simp only[FO]
   split
   ·exact ic _ this
   ·exact this
theorem aOp:∀{l:List Oper} {i i':Nat} {o o':Oper} {d:Nat},VR (FO l)=true->l[i]? = some o->l[i']? = some o'->o.dst=some d->o'.dst=some d->i=i'
 | [],_,_,_,_,_,_,h,_,_,_=>by simp at h
 |x::l,i,i',o,o',d,hk,h,h',hd,hd'=>by
  have hk2:VR (FO l)=true:=by
   simp only[FO]at hk
   split at hk
   ·simp only[VR,ag]at hk;exact hk.2
   ·exact hk
  cases i with
  |zero=>
   cases i' with
   |zero=>rfl
   |succ i' =>
    exfalso
    simp at h
    subst h
    simp only[FO,hd,VR,ag,dx]at hk
    have:=rO (l:=l) (by simpa using h') hd'
    rw[OU.2 this]at hk
    cases hk.1
  |succ i=>
   cases i' with
   |zero=>
    exfalso
    simp at h'
    subst h'
    simp only[FO,hd',VR,ag,dx]at hk
    have:=rO (l:=l) (by simpa using h) hd
    rw[OU.2 this]at hk
    cases hk.1
   |succ i' =>
    have:=aOp (l:=l) hk2 (by simpa using h) (by simpa using h') hd hd'
    omega
theorem aB6{ds:List Nat}{s:St}:∀t,(t∈ds->Bm (XB ds s).tm t=.un)/\(t∉ds->Bm (XB ds s).tm t=Bm s.tm t):=by
 intro t;unfold XB;simp only;induction ds with
 |nil=>exact⟨fun h=>by simp at h,fun _=>rfl⟩
 |cons d r ih=>
  simp only[fu,List.cons_append,Bm];cases hb:Nat.beq d t with
  |true=>
   have:=ah hb;subst this;exact⟨fun _=>rfl,fun h=>absurd (List.mem_cons_self ..) h⟩
  |false=>
   have hne:t≠d:=fun h=>by
    subst h;rw[dr]at hb;cases hb
   exact⟨fun h=>ih.1 ((cy.1 h).resolve_left hne),fun h=>ih.2 (fun h'=>h (ic _ h'))⟩
theorem aXm{ds:List Nat}{s:St}(hr:RelT σ s a):RelT σ (XB ds s) a:=by
 refine⟨hr.size,hr.defers,hr.mem,fun t=>?_,hr.cs⟩;by_cases h:t∈ds
 ·rw[((aB6 (s:=s)) t).1 h];trivial
 ·rw[((aB6 (s:=s)) t).2 h];exact hr.tm t
theorem aYi{s:St}{t:Nat}(h:Bm s.tm t=.un)(x:Operand):Bm (FR s x).tm t=.un:=by
 unfold FR;split
 ·rename_i t';split
  ·rename_i c e;simp only[Bm];cases hb:Nat.beq t' t with
   |true=>
    have:=ah hb;subst this;rw[h]at e;cases e
   |false=>exact h
  ·exact h
 ·exact h
theorem aME{t:Nat}:∀(l:List Operand) {s:St},Bm s.tm t=.un->Bm (l.foldl FR s).tm t=.un
 | [],_,h=>h
 |x::l,_,h=>aME l (aYi h x)
theorem aMF{t:Nat}:∀(l:List Oper) {s:St},Bm s.tm t=.un->Bm (l.foldl (Gz false) s).tm t=.un
 | [],_,h=>h
 |o::l,s,h=>by
  refine aMF l ?_
  unfold Gz
  split
  ·split
   ·exact aME _ h
   ·exact h
  ·exact h
  ·exact h
  ·exact h
end Vx
namespace Vx
open Go Go.RowKit
def Gg(e e':Blk):Prop:=
 match e' with
 |.gone=>True
 |.raw _=>∃cs,e=.raw cs
 |.arr τ xs=>e=.arr τ xs
 |.acc τ xs=>e=.acc τ xs
 |.froz τ xs=>e=.froz τ xs
 |.itr s p=>e=.itr s p
structure Cut (σ σ':Sit):Prop where
 E:σ'.E=σ.E
 w:σ'.w=σ.w
 S:σ'.S=σ.S
 rel:∀b,Gg (Ac σ.mem b) (Ac σ'.mem b)
variable {σ σ':Sit}
theorem aB3{τ' τ:Shape}{xs:List (Ab τ')}{ys:List (Ab τ)}(h:CN τ' τ xs=some ys):(⟨τ',xs⟩:Sigma fun τ=>List (Ab τ))=⟨τ,ys⟩:=by
 obtain⟨rfl,rfl⟩:=IV h;rfl
theorem aPo(hc:Cut σ σ'):∀{c:PC} {z:SC} {d:c.D} {y:Value},EC σ.mem σ'.mem.length c z=some d->Az σ z y->Az σ' (aBV c d) y
 |.v k,z,d,y,h,hz=>by
  simp only[EC]at h
  split at h
  ·split at h
   ·rename_i k' n hk;subst hk;cases h;exact hz
   ·cases h
  ·cases h
 |.bool,z,d,y,h,hz=>by
  simp only[EC]at h
  split at h
  ·cases h;exact hz
  ·cases h
 |.str,z,d,y,h,hz=>by
  simp only[EC]at h
  split at h
  ·cases h;exact hz
  ·cases h
 |.fnv,z,d,y,h,hz=>by
  simp only[EC]at h
  split at h
  ·cases h
   obtain⟨rfl,_⟩:=hz
   exact(rfl:[Value.nilFunc]=_)
  ·cases h
   obtain⟨_,_,h1⟩:=hz
   rcases h1 with⟨p,hp,_⟩|⟨rs,h1,rfl⟩
   ·simp at hp
   ·exact⟨[],by simp,rfl,fun i n hi=>by simp at hi⟩
  ·cases h
   show A8 σ'.w σ'.S .fn _ [y]
   rw[hc.w,hc.S];exact hz
  ·cases h
 |.ifv,z,d,y,h,hz=>by
  simp only[EC]at h
  split at h
  ·cases h
   obtain⟨rfl,_⟩:=hz
   exact(rfl:[Value.nilIface]=_)
  ·cases h
   show A8 σ'.w σ'.S .ifc _ [y]
   rw[hc.w,hc.S];exact hz
  ·cases h
 |.sl τ,z,d,y,h,hz=>by
  have key:∀{τ':Shape} {xs:List (Ab τ')},CN τ' τ xs=some d->A8 σ.w σ.S (.slice τ') xs [y]->A8 σ'.w σ'.S (.slice τ) d [y]:=fun hcast hd=>by
   have:=aB2 hcast hd
   rw[hc.w,hc.S];exact this
  simp only[EC]at h
  split at h
  ·exact key h hz
  ·cases h
   obtain⟨rfl,_⟩:=hz
   exact sK τ
  ·split at h
   ·rename_i b' τ' xs e
    obtain⟨_,_,hz⟩:=hz
    rw[e]at hz
    exact key h hz
   ·cases h
  ·cases h
 |.fl k,z,d,y,h,hz=>by
  simp only[EC]at h
  split at h
  ·split at h
   ·rename_i k' o hk;subst hk;cases h;exact hz
   ·cases h
  ·cases h
 |.cx k,z,d,y,h,hz=>by
  simp only[EC]at h
  split at h
  ·split at h
   ·rename_i k' x1 x2 hk;subst hk;cases h;exact hz
   ·cases h
  ·cases h
 |.own b,z,d,y,h,hz=>by
  simp only[EC]at h
  split at h
  ·rename_i b'
   obtain⟨hb,_⟩:=AJ h
   simp only[ag]at hb
   have:b'=b:=ah hb.1
   subst this
   obtain⟨h1,h2,h3⟩:=hz
   refine⟨by simpa using hb.2,h2,?_⟩
   have hr:=hc.rel b'
   unfold Gg at hr
   cases e:Ac σ'.mem b' with
   |gone=>trivial
   |raw cs=>trivial
   |arr τ xs=>rw[e]at hr;rw[hr]at h3;simp only at h3⊢;rw[hc.E];exact h3
   |acc τ xs=>rw[e]at hr;rw[hr]at h3;simp only at h3⊢;rw[hc.E];exact h3
   |froz τ xs=>rw[e]at hr;rw[hr]at h3;simp only at h3⊢;rw[hc.w,hc.S];exact h3
   |itr s p=>trivial
  ·cases h
 |.ptr b off,z,d,y,h,hz=>by
  simp only[EC]at h
  split at h
  ·rename_i b' off'
   obtain⟨hb,_⟩:=AJ h
   simp only[ag]at hb
   have:b'=b:=ah hb.1.1
   subst this
   have:off'=off:=ah hb.1.2
   subst this
   obtain⟨h1,h2,h3⟩:=hz
   refine⟨by simpa using hb.2,h2,?_⟩
   have hr:=hc.rel b'
   unfold Gg at hr
   cases e:Ac σ'.mem b' with
   |gone=>trivial
   |raw cs=>rw[e]at hr;obtain⟨cs',hr⟩:=hr;rw[hr]at h3;simp only at h3⊢;rw[hc.E];exact h3
   |arr τ xs=>rw[e]at hr;rw[hr]at h3;simp only at h3⊢;rw[hc.E];exact h3
   |acc τ xs=>trivial
   |froz τ xs=>trivial
   |itr s p=>rw[e]at hr;rw[hr]at h3;simp only at h3⊢;rw[hc.E];exact h3
  ·cases h
 |.gptr g,z,d,y,h,hz=>by
  simp only[EC]at h
  split at h
  ·rename_i g'
   have:g'=g:=ah (AJ h).1
   subst this
   exact hz
  ·cases h
 |.fn f,z,d,y,h,hz=>by
  simp only[EC]at h
  split at h
  ·rename_i f'
   have:f'=f:=ah (AJ h).1
   subst this
   obtain⟨_,h2,h1⟩:=hz
   rcases h1 with⟨p,hp,_⟩|⟨rs,h1,rfl⟩
   ·simp at hp
   ·exact⟨by simp,h2,.inr ⟨rs,h1,rfl⟩⟩
  ·cases h
 |.nilp,z,d,y,h,hz=>by
  simp only[EC]at h
  split at h
  ·cases h;exact hz
  ·cases h
 |.undef,z,d,y,h,hz=>hz.scalar
 |.sub b,z,d,y,h,hz=>by
  simp only[EC]at h
  split at h
  ·rename_i b' lo n
   obtain⟨hb,h⟩:=AJ h
   simp only[ag]at hb
   have:b'=b:=ah hb.1
   subst this
   cases h
   obtain⟨h1,h2,h3⟩:=hz
   refine⟨by simpa using hb.2,h2,?_⟩
   have hr:=hc.rel b'
   unfold Gg at hr
   cases e:Ac σ'.mem b' with
   |gone=>trivial
   |raw cs=>trivial
   |arr τ xs=>rw[e]at hr;rw[hr]at h3;simp only at h3⊢;rw[hc.E];exact h3
   |acc τ xs=>trivial
   |froz τ xs=>trivial
   |itr s p=>trivial
  ·cases h
theorem aXw(hc:Cut σ σ'){c:SC}{y:Value}(hlt:∀b,Yx b c=true->b<σ'.mem.length)(hz:Az σ c y):Az σ' c y:=by
 cases c with
 |undef=>exact hz
 |v x=>exact hz
 |fl k o=>exact hz
 |sl τ xs=>simp only[Az];rw[hc.w,hc.S];exact hz
 |own b=>
  obtain⟨h1,h2,h3⟩:=hz;refine⟨hlt b (dr b),h2,?_⟩;have hr:=hc.rel b;unfold Gg at hr;cases e:Ac σ'.mem b with
  |gone=>trivial
  |raw cs=>trivial
  |arr τ xs=>rw[e]at hr;rw[hr]at h3;simp only at h3⊢;rw[hc.E];exact h3
  |acc τ xs=>rw[e]at hr;rw[hr]at h3;simp only at h3⊢;rw[hc.E];exact h3
  |froz τ xs=>rw[e]at hr;rw[hr]at h3;simp only at h3⊢;rw[hc.w,hc.S];exact h3
  |itr s p=>trivial
 |ptr b off=>
  obtain⟨h1,h2,h3⟩:=hz;refine⟨hlt b (dr b),h2,?_⟩;have hr:=hc.rel b;unfold Gg at hr;cases e:Ac σ'.mem b with
  |gone=>trivial
  |raw cs=>rw[e]at hr;obtain⟨cs',hr⟩:=hr;rw[hr]at h3;simp only at h3⊢;rw[hc.E];exact h3
  |arr τ xs=>rw[e]at hr;rw[hr]at h3;simp only at h3⊢;rw[hc.E];exact h3
  |acc τ xs=>trivial
  |froz τ xs=>trivial
  |itr s p=>rw[e]at hr;rw[hr]at h3;simp only at h3⊢;rw[hc.E];exact h3
 |eptr b i off=>
  obtain⟨h1,h2,h3⟩:=hz;refine⟨hlt b (dr b),h2,?_⟩;have hr:=hc.rel b;unfold Gg at hr;cases e:Ac σ'.mem b with
  |arr τ xs=>rw[e]at hr;rw[hr]at h3;simp only at h3⊢;rw[hc.E];exact h3
  |_=>trivial
 |sub b lo n=>
  obtain⟨h1,h2,h3⟩:=hz;refine⟨hlt b (dr b),h2,?_⟩;have hr:=hc.rel b;unfold Gg at hr;cases e:Ac σ'.mem b with
  |arr τ xs=>rw[e]at hr;rw[hr]at h3;simp only at h3⊢;rw[hc.E];exact h3
  |_=>trivial
 |iptr τ x off=>simp only[Az];rw[hc.w,hc.S];exact hz
 |gptr g=>exact hz
 |fnv o=>simp only[Az];rw[hc.w,hc.S];exact hz
 |ifv o=>simp only[Az];rw[hc.w,hc.S];exact hz
 |cx k x y=>exact hz
 |fn f caps=>
  obtain⟨h1,h2,h3⟩:=hz;refine⟨fun p hp=>hlt p.1 (by simp only[Yx,pe];exact⟨p,hp,dr p.1⟩),h2,?_⟩;by_cases hall:∀p∈caps,∃cs,Ac σ'.mem p.1=.raw cs
  ·rcases h3 with⟨p,hp,hq⟩|⟨rs,g1,g2⟩
   ·obtain⟨cs,e⟩:=hall p hp;have hr:=hc.rel p.1;unfold Gg at hr;rw[e]at hr;obtain⟨cs',hr⟩:=hr;rw[hr]at hq;exact hq.elim
   ·refine .inr ⟨rs,?_,g2⟩;rw[←g1,hc.E]
  ·refine .inl ?_;obtain⟨p,hp⟩:=jb.1 hall;obtain⟨hp,hn⟩:=jr.1 hp;refine⟨p,hp,?_⟩;cases e:Ac σ'.mem p.1 with
   |raw cs=>exact absurd ⟨cs,e⟩ hn
   |_=>trivial
theorem aDI(hc:Cut σ σ'):∀{l:List PC} {zs:List SC} {d:Wp l} {ys:List Value},V1 σ.mem σ'.mem.length l zs=some d->All2 (Az σ) zs ys->All2 (Az σ') (qW l d) ys
 | [],[],_,_,_,.nil=>.nil
 | [],_::_,_,_,h,_=>by simp[V1]at h
 |_::_,[],_,_,h,_=>by simp[V1]at h
 |c::r,z::zs,d,_,h,.cons h1 h2=>by
  simp only[V1]at h
  split at h
  ·rename_i e1 e2
   cases h
   exact .cons (aPo hc e1 h1) (aDI hc e2 h2)
  ·cases h
theorem bFo(hc:Cut σ σ'){v:PV}{x:TV}{d:v.D}{y:Value}(h:aDK σ.mem σ'.mem.length v x=some d)(hx:Bu σ x y):BF σ' (aLy v d) y:=by
 unfold aDK at h;split at h
 ·exact aPo hc h hx
 ·obtain⟨ys,e,ha⟩:=hx;exact⟨ys,e,aDI hc h ha⟩
 ·cases h
theorem aPq(hc:Cut σ σ'){s:St}(hm:σ.mem=s.mem){ys:Nat->Value}(ht:∀t,Bu σ (Bm s.tm t) (ys t)):∀{l:List (Nat×PV)} {d:ZQ l},tF s σ'.mem.length l=some d->∀t,Bu σ' (Bm (qX l d) t) (ys t)
 | [],_,_,t=>trivial
 |(n,v)::r,d,h,t=>by
  simp only[tF]at h
  split at h
  ·rename_i e1 e2
   cases h
   simp only[qX,Bm]
   cases hb:Nat.beq n t with
   |true=>
    have:=ah hb
    subst this
    rw[←hm]at e1
    exact bFo hc e1 (ht n)
   |false=>exact aPq hc hm ht e2 t
  ·cases h
theorem aLx:∀{l:List PB} {d:Wq l},(Xy l d).length=l.length
 | [],_=>rfl
 |_::r,d=>by simp[Xy,aLx]
theorem aPp{mem:Ag}{len:Nat}:∀{l:List PB} {zs:List Blk} {d:Wq l},jL mem len l zs=some d->∀b,b<l.length->∃(p:PB) (z:Blk) (x:p.D),zs[b]? = some z/\YR mem len p z=some x/\(Xy l d)[b]? = some (K6 p x)
 | [],_,_,_,b,hb=>by simp at hb
 |p::r,[],_,h,b,hb=>by simp[jL]at h
 |p::r,z::zs,d,h,b,hb=>by
  simp only[jL]at h
  split at h
  ·rename_i x xs e1 e2
   cases h
   cases b with
   |zero=>exact⟨p,z,x,rfl,e1,rfl⟩
   |succ b=>
    obtain⟨p',z',x',h1,h2,h3⟩:=aPp e2 b (by simpa using hb)
    exact⟨p',z',x',h1,h2,h3⟩
  ·cases h
theorem bFm{mem:Ag}{len:Nat}{p:PB}{z:Blk}{x:p.D}(h:YR mem len p z=some x):Gg z (K6 p x):=by
 unfold YR at h;split at h
 ·trivial
 ·exact⟨_,rfl⟩
 ·have:=aB3 h;simp only[Sigma.mk.injEq]at this;obtain⟨rfl,h2⟩:=this;cases h2;rfl
 ·have:=aB3 h;simp only[Sigma.mk.injEq]at this;obtain⟨rfl,h2⟩:=this;cases h2;rfl
 ·have:=aB3 h;simp only[Sigma.mk.injEq]at this;obtain⟨rfl,h2⟩:=this;cases h2;rfl
 ·cases h;rfl
 ·cases h
theorem tE{base:Base}{S0:Nat->Prop}{s:St}{a:Act}(ho:Ok base S0 σ)(hr:RelT σ s a){p:Pat}{x:p.D}{m:Nat}(h:Hv p s m=some x):
  ∃σ':Sit,σ'.w=σ.w/\Cut σ σ'/\Ok base S0 σ'/\RelT σ' (Oy p x m) a/\m<=σ'.mem.length:=by
 unfold Hv at h;obtain⟨hb,h⟩:=AJ h;simp only[ag]at hb;split at h
 ·rename_i x1 x2 e1 e2;cases h;let σ':Sit:={σ with mem:=Xy p.mem x2}
  have hlen:σ'.mem.length=p.mem.length:=aLx;have hat:∀b,b<p.mem.length->∃(q:PB) (x:q.D),YR σ.mem σ'.mem.length q (Ac σ.mem b)=some x/\Ac σ'.mem b=K6 q x:=fun b hb=>by
   obtain⟨q,z,x,h1,h2,h3⟩:=aPp e2 b hb;refine⟨q,x,?_,?_⟩
   ·rw[hr.mem,hlen];unfold Ac;rw[h1];exact h2
   ·unfold Ac;rw[h3];rfl
  have hout:∀b,¬b<p.mem.length->Ac σ'.mem b=.gone:=fun b hb=>aXe (by rw[hlen];omega);have hc:Cut σ σ':=⟨rfl,rfl,rfl,fun b=>by
   by_cases hb:b<p.mem.length
   ·obtain⟨q,x,h1,h2⟩:=hat b hb;rw[h2];exact bFm h1
   ·rw[hout b hb];trivial⟩
  have howned:∀b r,σ'.owned b r->σ.owned b r:=fun b r h=>by
   obtain⟨h1,h2⟩:=h;refine⟨?_,h2⟩;have hrel:=hc.rel b;unfold Gg at hrel;cases e:Ac σ'.mem b with
   |gone=>rw[e]at h1;exact h1.elim
   |raw cs=>rw[e]at hrel;obtain⟨cs',h⟩:=hrel;rw[h];trivial
   |arr τ xs=>rw[e]at hrel;rw[hrel];trivial
   |acc τ xs=>rw[e]at hrel;rw[hrel];trivial
   |froz τ xs=>rw[e]at h1;exact h1.elim
   |itr s p=>rw[e]at hrel;rw[hrel];trivial
  refine⟨σ',rfl,hc,⟨ho.below,ho.stab0,ho.stab,fun b=>?_,fun b r h=>ho.own b r (howned b r h),fun b b' r h h'=>ho.inj b b' r (howned b r h) (howned b' r h')⟩,?_,by rw[hlen];simpa using hb.2⟩
  ·have hent:=ho.ent b;unfold AD at hent⊢;have hrel:=hc.rel b;unfold Gg at hrel;cases e:Ac σ'.mem b with
   |gone=>trivial
   |froz τ xs=>trivial
   |itr s p=>rw[e]at hrel;rw[hrel]at hent;exact hent
   |arr τ xs=>rw[e]at hrel;rw[hrel]at hent;exact hent
   |acc τ xs=>rw[e]at hrel;rw[hrel]at hent;exact hent
   |raw cs=>
    have hb:b<p.mem.length:=Classical.byContradiction fun hb=>by rw[hout b hb]at e;cases e
    obtain⟨q,x,h1,h2⟩:=hat b hb;rw[e]at h2;rw[e]at hrel;obtain⟨cs',hcs⟩:=hrel;rw[hcs]at hent h1;obtain⟨r,vs,T,g1,g2,g3⟩:=hent;cases q with
    |raw l=>
     simp only[YR]at h1;simp only[K6,Blk.raw.injEq]at h2;subst h2;exact⟨r,vs,T,g1,g2,aDI hc h1 g3⟩
    |gone=>simp[K6]at h2
    |arr τ=>simp[K6]at h2
    |acc τ=>simp[K6]at h2
    |froz τ=>simp[K6]at h2
    |itr=>simp[K6]at h2
  ·refine⟨?_,hr.defers,rfl,fun t=>?_,fun d g q y hm=>by simp[Oy]at hm⟩
   ·rw[hr.size];exact ah hb.1.1
   ·rw[←hlen]at e1;exact aPq hc hr.mem hr.tm e1 t
 ·cases h
theorem bFn{p:Pat}{s:St}{x:p.D}{m:Nat}(h:Hv p s m=some x):s.m0=m:=by
 unfold Hv at h;have:=(AJ h).1;simp only[ag]at this;exact ah this.1.2
theorem rV{base:Base}{S0:Nat->Prop}{a:Act}{σ:Sit}{s:St}(ho:Ok base S0 σ)(hr:RelT σ s a)(hcs:s.cs=[])(x:Operand):∃σ':Sit,σ'.w=σ.w/\Ok base S0 σ'/\Goes σ σ'/\RelT σ' (FR s x) a/\(FR s x).m0=s.m0/\(FR s x).cs=[]:=by
 have same:∃σ':Sit,σ'.w=σ.w/\Ok base S0 σ'/\Goes σ σ'/\RelT σ' s a/\s.m0=s.m0/\s.cs=[]:=⟨σ,rfl,ho,Goes.refl σ,hr,rfl,hcs⟩
 cases x with
 |tmp t=>
  unfold FR;dsimp only;split
  ·rename_i b e;cases hf:C8 s.mem (.own b)with
   |mk c m=>
    dsimp only;rw[←hr.mem]at hf;obtain⟨σ1,a1,a2,a3,a4,a5,a6⟩:=Uf ho hf;refine⟨σ1,a2,a4,a5,⟨hr.size,hr.defers,a1,fun t'=>?_,fun d g p y hm=>by rw[hcs]at hm;simp at hm⟩,rfl,hcs⟩;simp only[Bm];cases hb:Nat.beq t t' with
    |false=>exact a5.repT (hr.tm t')
    |true=>
     have:=ah hb;subst this;have h1:=hr.tm t;rw[e]at h1;exact a6 _ h1
  ·exact same
 |_=>exact same
theorem fN{base:Base}{S0:Nat->Prop}{a:Act}:∀(l:List (Nat×Shape)) {σ:Sit} {s:St},Ok base S0 σ->RelT σ s a->s.cs=[]->∃σ':Sit,σ'.w=σ.w/\Ok base S0 σ'/\Goes σ σ'/\RelT σ' (K3 l s) a/\(K3 l s).m0=s.m0
 | [],σ,s,ho,hr,_=>⟨σ,rfl,ho,Goes.refl σ,hr,rfl⟩
 |(t,τ)::r,σ,s,ho,hr,hcs=>by
  unfold K3
  split
  ·obtain⟨σ1,a1,a2,a3,a4,a5,a6⟩:=rV ho hr hcs (.tmp t)
   obtain⟨σ',h1,h2,h3,h4,h5⟩:=fN r a2 a4 a6
   exact⟨σ',h1.trans a1,h2,a3.trans h3,h4,h5.trans a5⟩
  split
  ·rename_i e
   have hg:=aC8 σ (.acc τ [])
   have hr':RelT (σ.name (.acc τ [])) {s with tm:=(t,.val (.one (.own s.mem.length)))::s.tm,mem:=s.mem++[.acc τ []] } a:=by
    refine⟨hr.size,hr.defers,by simp[Sit.name,hr.mem],fun t'=>?_,fun d g p x hm=>by rw[hcs]at hm;simp at hm⟩
    simp only[Bm]
    cases hb:Nat.beq t t' with
    |false=>exact hg.repT (hr.tm t')
    |true=>
     have:=ah hb
     subst this
     have h1:=hr.tm t
     rw[e]at h1
     obtain⟨h1,_⟩:=h1
     rw[h1]
     refine⟨by simp[Sit.name,hr.mem],trivial,?_⟩
     rw[←hr.mem]
     simp only[Sit.name,IT]
     simp[AG]
   obtain⟨σ',h1,h2,h3,h4,h5⟩:=fN r (aOk ho τ) hr' hcs
   exact⟨σ',h1,h2,hg.trans h3,h4,h5⟩
  ·exact fN r ho hr hcs
theorem qO{σ0 σ σ':Sit}(hA:Adv σ0 σ)(hc:Cut σ σ')(hlen:σ0.mem.length<=σ'.mem.length):Adv σ0 σ':=by
 refine⟨fun r hr=>by rw[hc.S];exact hA.stab r hr,fun r hr=>by rw[hc.w];exact hA.heap r hr,fun c y hz=>?_,hlen,fun b hb ha=>hA.noacc b hb ?_⟩
 ·have h1:=hA.rep c y hz;refine aXw hc (fun b hb=>al ?_ hlen) h1;cases c with
  |own b' =>
   rcases VA (mem:=σ0.mem) (b:=b')with⟨e,_⟩|⟨e,_⟩
   ·rw[e]at hb;cases hb
   ·rw[e]at hb;have:b'=b:=ah hb;subst this;exact hz.1
  |ptr b' off=>have:b'=b:=ah hb;subst this;exact hz.1
  |eptr b' i off=>have:b'=b:=ah hb;subst this;exact hz.1
  |sub b' lo n=>have:b'=b:=ah hb;subst this;exact hz.1
  |fn f caps=>
   have hb:(caps.any fun p=>Nat.beq p.1 b)=true:=hb;rw[pe]at hb;obtain⟨p,hp,e⟩:=hb;have:p.1=b:=ah e;subst this;exact hz.1 p hp
  |undef=>cases hb
  |v x=>cases hb
  |fl k o=>cases hb
  |sl τ xs=>cases hb
  |iptr τ x off=>cases hb
  |gptr g=>cases hb
  |fnv o=>cases hb
  |ifv o=>cases hb
  |cx k x y=>cases hb
 ·have hr:=hc.rel b;unfold Gg at hr;cases e:Ac σ'.mem b with
  |acc τ xs=>rw[e]at hr;rw[hr];trivial
  |_=>rw[e]at ha;exact ha.elim
end Vx
namespace Vx
open Go Go.RowKit
def lR(C:Cfg)(d:Nat)(fid:FuncId)(body:Code)(sp:LoopSpec):Prop:=∀(R:Type) (ke:Nat->St->Option R) (kr:St->Option R) (r:R) (x:sp.pat.D),sp.run x ke kr=some r->∃n,CR (VM C d fid body sp ke kr) n x=some r
def Me(C:Cfg):Prop:=∀fid k sp,C.loop fid k=some sp->∀fn whole,C.P.funcs[fid]? = some fn->fn.body=some whole->∀body∈CE whole,C9 body=k->∀d,lR C (d+2) fid body sp
variable {C:Cfg}{base:Base}{S0:Nat->Prop}{R:Type}{r:R}
theorem aPy{d:Nat}{fid:FuncId}{body:Code}{sp:LoopSpec}{σ0:Sit}(h0:σ0.mem.length=sp.m0){kn:St->Option R}{ke:Nat->St->Option R}{kr:St->Option R}
  (hbody:∀(σ:Sit) (s:St) (a:Act) (kn':St->Option R) (ke':Nat->St->Option R) (kr':St->Option R),Ok base S0 σ->Adv σ0 σ->RelT σ s a->s.m0=σ0.mem.length ->
   C7 C (I3 C d) true fid body s kn' ke' kr'=some r->body.wp C.P (MR base S0 σ0 r kn' ke' kr') a σ.w) :
  ∀(n:Nat) (x:sp.pat.D) (σ:Sit) (a:Act),Ok base S0 σ->Adv σ0 σ->RelT σ (Oy sp.pat x sp.m0) a->CR (VM C d fid body sp ke kr) n x=some r->Code.rounds C.P body (MR base S0 σ0 r kn ke kr) n a σ.w
 |0,_,_,_,_,_,_,h=>by simp[CR]at h
 |n+1,x,σ,a,ho,hA,hr,h=>by
  simp only[CR]at h
  unfold VM at h
  have:=hbody σ _ a _ _ _ ho hA hr (by rw[h0];rfl) h
  rw[rounds_succ]
  refine wp_mono this fun e a' w' hp=>?_
  obtain⟨σ',s',rfl,k2,k3,k4,k5,k6⟩:=hp
  cases e with
  |normal=>
   simp only at k6
   split at k6
   ·rename_i y ey
    obtain⟨σ1,g1,g2,g3,g4,g5⟩:=fN sp.accs k2 k4.clear rfl
    obtain⟨σ2,q1,q2,q3,q4,q5⟩:=tE g2 g4 ey
    have hA2:Adv σ0 σ2:=qO (k3.trans g3.adv) q2 (by rw[h0];exact q5)
    have:=aPy (kn:=kn) h0 hbody n y σ2 a' q3 hA2 q4 k6
    rw[q1,g1]at this
    exact this
   ·cases k6
  |exit id=>
   simp only at k6
   unfold YE at k6
   split at k6
   ·split at k6
    ·rename_i y ey
     obtain⟨σ2,q1,q2,q3,q4,q5⟩:=tE k2 k4 ey
     exact⟨σ2,_,q1,q3,qO k3 q2 (by rw[h0];exact q5),q4,by rw[h0];rfl,k6⟩
    ·cases k6
   ·cases k6
  |ret=>
   simp only at k6
   unfold sR at k6
   split at k6
   ·split at k6
    ·rename_i y ey
     obtain⟨σ2,q1,q2,q3,q4,q5⟩:=tE k2 k4 ey
     exact⟨σ2,_,q1,q3,qO k3 q2 (by rw[h0];exact q5),q4,by rw[h0];rfl,k6⟩
    ·cases k6
   ·cases k6
  |_=>exact k6.elim
theorem aMD{a:Act}:∀(l:List Operand) {σ:Sit} {s:St},Ok base S0 σ->RelT σ s a->s.cs=[]->∃σ':Sit,σ'.w=σ.w/\Ok base S0 σ'/\Goes σ σ'/\RelT σ' (l.foldl FR s) a/\(l.foldl FR s).m0=s.m0/\(l.foldl FR s).cs=[]
 | [],σ,s,ho,hr,hcs=>⟨σ,rfl,ho,Goes.refl σ,hr,rfl,hcs⟩
 |x::l,σ,s,ho,hr,hcs=>by
  obtain⟨σ1,a1,a2,a3,a4,a5,a6⟩:=rV ho hr hcs x
  obtain⟨σ2,b1,b2,b3,b4,b5,b6⟩:=aMD l a2 a4 a6
  exact⟨σ2,b1.trans a1,b2,a3.trans b3,b4,b5.trans a5,b6⟩
theorem aCt{a:Act}(f:Bool):∀(l:List Oper) {σ:Sit} {s:St},Ok base S0 σ->RelT σ s a->s.cs=[]->∃σ':Sit,σ'.w=σ.w/\Ok base S0 σ'/\Goes σ σ'/\RelT σ' (l.foldl (Gz f) s) a/\(l.foldl (Gz f) s).m0=s.m0/\(l.foldl (Gz f) s).cs=[]
 | [],σ,s,ho,hr,hcs=>⟨σ,rfl,ho,Goes.refl σ,hr,rfl,hcs⟩
 |o::l,σ,s,ho,hr,hcs=>by
  have h1:∃σ':Sit,σ'.w=σ.w/\Ok base S0 σ'/\Goes σ σ'/\RelT σ' (Gz f s o) a/\(Gz f s o).m0=s.m0/\(Gz f s o).cs=[]:=by
   unfold Gz
   split
   ·split
    ·exact aMD _ ho hr hcs
    ·exact⟨σ,rfl,ho,Goes.refl σ,hr,rfl,hcs⟩
   ·cases f
    ·exact⟨σ,rfl,ho,Goes.refl σ,hr,rfl,hcs⟩
    ·exact rV ho hr hcs _
   ·cases f
    ·exact⟨σ,rfl,ho,Goes.refl σ,hr,rfl,hcs⟩
    ·exact rV ho hr hcs _
   ·exact⟨σ,rfl,ho,Goes.refl σ,hr,rfl,hcs⟩
  obtain⟨σ1,a1,a2,a3,a4,a5,a6⟩:=h1
  obtain⟨σ2,b1,b2,b3,b4,b5,b6⟩:=aCt f l a2 a4 a6
  exact⟨σ2,b1.trans a1,b2,a3.trans b3,b4,b5.trans a5,b6⟩
theorem aL6(hP:ProgOk C){inl:FuncId->List SV->Ag->(List SV->Ag->Option R)->Option R}(hI:Wn C inl){σ0:Sit}(hG0:GlobsOk C.globs σ0.w σ0.S){id:Nat}{ops:Array Oper}{n k:Nat}
  {σ:Sit} {s:St} {a:Act} {kn:St->Option R} {ke:Nat->St->Option R} {kr:St->Option R} (ho:Ok base S0 σ) (hA:Adv σ0 σ) (hr:RelT σ s a) (hm:s.m0=σ0.mem.length) (h:rK C inl ops.toList n k s kn=some r) :
  (Code.region id ops true).wp C.P (MR base S0 σ0 r kn ke kr) a σ.w:=by
 unfold rK at h;obtain⟨hc,h⟩:=AJ h;simp only[ag]at hc;obtain⟨⟨⟨_,hn⟩,hal⟩,hnd⟩:=hc;have hn:n+k<=ops.size:=by
  have:=jl hn;simpa using this
 split at h
 ·rename_i fps gs s' he;obtain⟨hd,h⟩:=AJ h;simp only[ag]at hd;obtain⟨hgs,h⟩:=aB5 h;split at h
  ·rename_i s2 hs2;obtain⟨σf,f1,f2,f3,f4,f5,f6⟩:=aCt false (ops.toList.take n) ho (aXm (ds:=FO ((ops.toList.drop n).take k)) hr.clear) rfl;rw[←f1];have hlen:(ops.toList.take n).length=n:=by simp;omega
   obtain⟨S,xs,fs,h0,h1,h2,h3⟩:=aD8 _ _ _ _ _ he hgs;have hR:Reg C (ops.toList.take n) _ S xs fs:=⟨⟨fps,hd.1,h0⟩,⟨h1,h3⟩,f6⟩
   rw[hlen]at h2;have hparts:=hR.parts n (by rw[hlen];exact bu _);rw[h2]at hparts;have hget:∀j,j<k->((ops.toList.drop n).take k)[j]? = ops[n+j]?:=fun j hj=>by
    rw[cr hj,dt];simp
   have hfacts:=aLh σf hs2 hal;have hAl:Allocs C ops ((ops.toList.take n).foldl (Gz false) (XB (FO ((ops.toList.drop n).take k)) {s with cs:=[] })) n k:=by
    refine⟨fun j hj=>?_,fun i i' o o' d hi hi' hio hio' hd hd' _=>?_⟩
    ·have hj2:ops[n+j]? = some (ops[n+j]'(by omega)):=by simp[show n+j<ops.size by omega]
     obtain⟨d,T,zv,g1,g2,g3,g4,g5,g6⟩:=hfacts j _ ((hget j hj).trans hj2);refine⟨_,d,T,zv,hj2,g1,g2,g3,g4,aMF _ ((aB6 d).1 (rO ((hget j hj).trans hj2) g3)),?_,g6⟩;rw[←hparts.1];exact g5
    ·refine aOp (l:=ops.toList.take (n+k)) hnd ?_ ?_ hd hd'
     ·rw[cr hi];simpa using hio
     ·rw[cr hi'];simpa using hio'
   obtain⟨k1,k2⟩:=aDi (n:=σf.w.drawn+1) f2;have hstart:=Inv.start hR k1 (show RelT _ _ a from⟨f4.size,f4.defers,f4.mem,fun t=>Bu.keep k2.moves.rep (f4.tm t),fun d g p x hm=>⟨fun h=>Bu.keep k2.moves.rep ((f4.cs d g p x hm).1 h),(f4.cs d g p x hm).2⟩⟩);have hAdv:Adv σ0 {σf with w:={σf.w with drawn:=σf.w.drawn+1} }:=(hA.trans f3.adv).trans k2.adv;have key:wpAny C.P .any ops (MR base S0 σ0 r (fun s''=>kn {s'' with cs:=[] }) ke kr) ops.size (jv ops.size false) a {σf.w with drawn:=σf.w.drawn+1}:=by
    refine aXL (S0:=S0) (base:=base) hP.sums hn hR hAl hd.2 (hG0.adv hAdv) (fun σ' a' b q q1 q2 q3 q4 q5=>?_) ops.size (jv ops.size false) {σf with w:={σf.w with drawn:=σf.w.drawn+1} } a base (fun _=>0) (by simp) ?_ (fun i _=>by simp[iw]) Sub.refl ?_ ?_
    ·rw[h2]at q4;obtain⟨σ2,m1,m2,m3,m4,m5⟩:=aOj (q:=q) ((ops.toList.drop n).take k) 0 (q1.back q2) q4.clear hs2 (fun j o ho=>by
      have hj:j<k:=by
       have:=(bf.1 ho).1;simp at this;omega
      rw[hget j hj]at ho;obtain⟨o',d,T,zv,g1,g2,g3,g4,g5,g6,g7⟩:=q5.1 j hj trivial;have:o'=o:=by rw[g1]at ho;cases ho;rfl
      subst this;obtain⟨u1,u2⟩:=g7.here q2;rw[de];refine⟨T,d,zv,g2,g3,g4,g5,⟨g6,u1,fun hs=>?_,fun c hc=>g7.old (q2.own c _ hc).1⟩,u2⟩;rcases(q2.stab _ hs).2 with h' | h'
      ·exact g7.s0 h'
      ·exact g7.old h') (fun j j' hj hj' hq=>by
      have e:((ops.toList.drop n).take k).length=k:=by simp;omega
      rw[de,de]at hq;exact q5.2 j j' (by omega) (by omega) trivial trivial hq)
     rw[←m1];exact V4 hP hI ops (kn:=fun s''=>kn {s'' with cs:=[] }) (ke:=ke) (kr:=kr) hG0 _ m2 ((hAdv.trans q3).trans m3.adv) m4 ((m5.trans (hparts.2.trans f5)).trans hm) h
    ·refine fy (nk) ?_;simp
    ·have:(fun i=>i<n/\(jv ops.size false).getD i false=true)=fun _=>False:=funext fun i=>by
      simp[iw]
     rw[this];exact hstart
    ·refine⟨fun j _ hL=>?_,fun j j' _ _ hL=>?_⟩
     ·simp[iw]at hL
     ·simp[iw]at hL
   refine wp_mono (wp_region_any hP.mixed key) fun e a' w' hp=>?_;obtain⟨σ',s',k1,k2,k3,k4,k5,k6⟩:=hp;cases e with
   |normal=>exact⟨σ',{s' with cs:=[] },k1,k2,k3,k4.clear,k5,k6⟩
   |exit id=>exact⟨σ',s',k1,k2,k3,k4,k5,k6⟩
   |ret=>exact⟨σ',s',k1,k2,k3,k4,k5,k6⟩
   |_=>exact k6.elim
  ·cases h
 ·cases h
theorem Ua(hP:ProgOk C)(hL:Me C){inl:FuncId->List SV->Ag->(List SV->Ag->Option R)->Option R}(hI:Wn C inl){lp:Bool}(hlp:lp=true->∃d,inl=I3 C (d+2))
  {σ0:Sit} (hG0:GlobsOk C.globs σ0.w σ0.S) {fid:FuncId} {fn:Func} {whole:Code} (hf:C.P.funcs[fid]? = some fn) (hb:fn.body=some whole) :
  ∀(c:Code),(∀b∈CE c,b∈CE whole)->∀(σ:Sit) (s:St) (a:Act) (kn:St->Option R) (ke:Nat->St->Option R) (kr:St->Option R),Ok base S0 σ->Adv σ0 σ->RelT σ s a->s.m0=σ0.mem.length ->
   C7 C inl lp fid c s kn ke kr=some r->c.wp C.P (MR base S0 σ0 r kn ke kr) a σ.w
 |.skip,_,σ,s,a,kn,ke,kr,ho,hA,hr,hm,h=>wp_skip ⟨σ,s,rfl,ho,hA,hr,hm,h⟩
 |.exit id,_,σ,s,a,kn,ke,kr,ho,hA,hr,hm,h=>wp_exit ⟨σ,s,rfl,ho,hA,hr,hm,h⟩
 |.ret,_,σ,s,a,kn,ke,kr,ho,hA,hr,hm,h=>wp_ret ⟨σ,s,rfl,ho,hA,hr,hm,h⟩
 |.region id ops false,_,σ,s,a,kn,ke,kr,ho,hA,hr,hm,h=>by
  simp only[C7]at h
  refine wp_mono (wp_region_list (V4 hP hI ops (ke:=ke) (kr:=kr) hG0 ops.toList ho hA hr.clear hm h)) fun e a' w' hp=>?_
  obtain⟨σ',s',k1,k2,k3,k4,k5,k6⟩:=hp
  cases e with
  |normal=>exact⟨σ',{s' with cs:=[] },k1,k2,k3,k4.clear,k5,k6⟩
  |exit id=>exact⟨σ',s',k1,k2,k3,k4,k5,k6⟩
  |ret=>exact⟨σ',s',k1,k2,k3,k4,k5,k6⟩
  |_=>exact k6.elim
 |.region id ops true,_,σ,s,a,kn,ke,kr,ho,hA,hr,hm,h=>by
  simp only[C7]at h
  generalize aL5 C ops.toList s=nf at h
  obtain⟨n,f⟩:=nf
  simp only at h
  split at h
  ·rename_i fps gs s' he
   cases hd:(Nat.ble n ops.toList.length&&(YC (ops.toList.take n) fps&&O7 (ops.toList.take n) n (ops.toList.drop n)))with
   |false=>
    rw[hd]at h
    exact aL6 hP hI hG0 ho hA hr hm h
   |true=>
    rw[hd]at h
    simp only[cond_true]at h
    simp only[ag]at hd
    obtain⟨hgs,h⟩:=aB5 h
    obtain⟨σf,f1,f2,f3,f4,f5,f6⟩:=aCt f (ops.toList.take n) ho hr.clear rfl
    rw[←f1]
    refine wp_mono (aXM hP (by have:=hd.1;simpa using this) hd.2.1 hd.2.2 he hgs f6 f2 f4 (hG0.adv (hA.trans f3.adv)) fun σ' a' k1 k2 k3 k4=>
     V4 hP hI ops (kn:=fun s''=>kn {s'' with cs:=[] }) (ke:=ke) (kr:=kr) hG0 _ k1 ((hA.trans f3.adv).trans k2) k3.clear ((k4.trans f5).trans hm) h) fun e a' w' hp=>?_
    obtain⟨σ',s',k1,k2,k3,k4,k5,k6⟩:=hp
    cases e with
    |normal=>exact⟨σ',{s' with cs:=[] },k1,k2,k3,k4.clear,k5,k6⟩
    |exit id=>exact⟨σ',s',k1,k2,k3,k4,k5,k6⟩
    |ret=>exact⟨σ',s',k1,k2,k3,k4,k5,k6⟩
    |_=>exact k6.elim
  ·exact aL6 hP hI hG0 ho hA hr hm h
 |.seq c1 c2,hl,σ,s,a,kn,ke,kr,ho,hA,hr,hm,h=>by
  simp only[C7]at h
  refine wp_seq (wp_mono (Ua hP hL hI hlp hG0 hf hb c1 (fun b hb'=>hl b (by simp[CE,hb'])) σ s a _ ke kr ho hA hr hm h) fun e a' w' hp=>?_)
  cases e with
  |normal=>
   obtain⟨σ',s',rfl,k2,k3,k4,k5,k6⟩:=hp
   exact Ua hP hL hI hlp hG0 hf hb c2 (fun b hb'=>hl b (by simp[CE,hb'])) σ' s' a' kn ke kr k2 k3 k4 k5 k6
  |exit id=>exact hp
  |ret=>exact hp
  |goto l=>exact hp
  |panic ch=>exact hp
  |outgrown=>exact hp
 |.cond c c1 c2,hl,σ,s,a,kn,ke,kr,ho,hA,hr,hm,h=>by
  simp only[C7]at h
  split at h
  ·rename_i t et
   obtain⟨hv,_⟩:=BJ hr (fun _ _ h=>by simp at h) et
   refine wp_cond (t:=t) hv ?_
   cases t with
   |true=>exact Ua hP hL hI hlp hG0 hf hb c1 (fun b hb'=>hl b (by simp[CE,hb'])) σ s a kn ke kr ho hA hr hm h
   |false=>exact Ua hP hL hI hlp hG0 hf hb c2 (fun b hb'=>hl b (by simp[CE,hb'])) σ s a kn ke kr ho hA hr hm h
  ·cases h
 |.block id c,hl,σ,s,a,kn,ke,kr,ho,hA,hr,hm,h=>by
  simp only[C7]at h
  refine wp_block (wp_mono (Ua hP hL hI hlp hG0 hf hb c (fun b hb'=>hl b (by simp[CE,hb'])) σ s a kn _ kr ho hA hr hm h) fun e a' w' hp=>?_)
  cases e with
  |normal=>exact hp
  |exit id' =>
   obtain⟨σ',s',k1,k2,k3,k4,k5,k6⟩:=hp
   simp only at k6
   simp only[Exit.inBlock]
   by_cases hid:id'=id
   ·subst hid
    rw[if_pos rfl]
    rw[dr]at k6
    exact⟨σ',s',k1,k2,k3,k4,k5,k6⟩
   ·rw[if_neg hid]
    have:Nat.beq id' id=false:=by
     cases hq:Nat.beq id' id with
     |false=>rfl
     |true=>exact absurd (ah hq) hid
    rw[this]at k6
    exact⟨σ',s',k1,k2,k3,k4,k5,k6⟩
  |ret=>exact hp
  |goto l=>exact hp
  |panic ch=>exact hp
  |outgrown=>exact hp
 |.loop c,hl,σ,s,a,kn,ke,kr,ho,hA,hr,hm,h=>by
  simp only[C7]at h
  split at h
  ·have key:∀(n:Nat) (σ:Sit) (s:St) (a:Act),Ok base S0 σ->Adv σ0 σ->RelT σ s a->s.m0=σ0.mem.length->CR (fun L s'=>C7 C inl lp fid c {s' with cs:=[] } L ke kr) n s=some r->Code.rounds C.P c (MR base S0 σ0 r kn ke kr) n a σ.w:=by
    intro n
    induction n with
    |zero=>intro σ s a ho hA hr hm h;simp[CR]at h
    |succ n ih=>
     intro σ s a ho hA hr hm h
     simp only[CR]at h
     have:=Ua hP hL hI hlp hG0 hf hb c (fun b hb'=>hl b (by simp[CE,hb'])) σ {s with cs:=[] } a _ ke kr ho hA hr.clear hm h
     rw[rounds_succ]
     refine wp_mono this fun e a' w' hp=>?_
     obtain⟨σ',s',rfl,k2,k3,k4,k5,k6⟩:=hp
     cases e with
     |normal=>exact ih σ' s' a' k2 k3 k4 k5 k6
     |exit id=>exact⟨σ',s',rfl,k2,k3,k4,k5,k6⟩
     |ret=>exact⟨σ',s',rfl,k2,k3,k4,k5,k6⟩
     |_=>exact k6.elim
   exact wp_loop_rounds _ (key _ σ s a ho hA hr hm h)
  ·rename_i sp esp
   obtain⟨hlpt,h1⟩:=AJ h
   clear h
   split at h1
   ·rename_i x ex
    obtain⟨d,rfl⟩:=hlp hlpt
    subst hlpt
    obtain⟨n,hn⟩:=hL fid _ sp esp fn whole hf hb c (hl c (by simp[CE])) rfl d R ke kr r x h1
    obtain⟨σ1,g1,g2,g3,g4,g5⟩:=fN sp.accs ho hr.clear rfl
    have h0:σ0.mem.length=sp.m0:=by rw[←hm];exact g5.symm.trans (bFn ex)
    obtain⟨σ2,q1,q2,q3,q4,q5⟩:=tE g2 g4 ex
    have hA2:Adv σ0 σ2:=qO (hA.trans g3.adv) q2 (by rw[h0];exact q5)
    have:=aPy (kn:=kn) h0 (fun σ s a kn' ke' kr'=>Ua hP hL hI hlp hG0 hf hb c (fun b hb'=>hl b (by simp[CE,hb'])) σ s a kn' ke' kr') n x σ2 a q3 hA2 q4 hn
    rw[q1,g1]at this
    exact wp_loop_rounds n this
   ·cases h1
 |.goto _,_,_,_,_,_,_,_,_,_,_,_,h=>by simp[C7]at h
 |.label _,_,_,_,_,_,_,_,_,_,_,_,h=>by simp[C7]at h
 |.rangeFunc _ _ _ _,_,_,_,_,_,_,_,_,_,_,_,h=>by simp[C7]at h
end Vx
namespace Vx
open Go Go.RowKit
variable {C:Cfg}{base:Base}{S0:Nat->Prop}{R:Type}{r:R}{σ:Sit}{s:St}{a:Act}
theorem aNx{P:Program}{T:TypeId}{p:Addr}{w:World}{v:Value}(h:(Instr.loadAt T (.pointer (some p))).run P w=.ok v w):(loadVar T p).run P w=.ok v w:=by
 unfold Instr.loadAt at h;simpa[Instr.sureAddr]using h
def jM(tmps:Array Value)(v:ResultVar):Sem Value:=
 match v with
 |.tmp t=>pure (tmps.getD t undef)
 |.cell c T=>do loadVar T (←asAddr (tmps.getD c undef))
theorem aDJ{P:Program}(ho:Ok base S0 σ)(hr:RelT σ s a):∀{l:List ResultVar} {rs:List SV},Uw P s l=some rs ->
  ∃zs,(l.mapM (jM a.tmps)).run P σ.w=.ok zs σ.w/\All2 (BF σ) rs zs
 | [],rs,h=>by
  simp only[Uw]at h;cases h
  exact⟨[],by simp,.nil⟩
 |.tmp t::l,rs,h=>by
  simp only[Uw]at h
  split at h
  ·rename_i x rs' e1 e2
   cases h
   obtain⟨zs,h1,h2⟩:=aDJ ho hr e2
   have ht:=hr.tm t
   rw[e1]at ht
   exact⟨_::zs,by simp[jM,h1],.cons ht h2⟩
  ·cases h
 |.cell c T::l,rs,h=>by
  simp only[Uw]at h
  split at h
  ·rename_i z rs' e1 e2
   obtain⟨zs,h1,h2⟩:=aDJ ho hr e2
   have ht:=hr.tm c
   rw[e1]at ht
   have ptr:∀{cs off},OA σ.mem z=some (cs,off)->∃p,a.tmps.getD c undef=.pointer (some p):=fun hc=>by
    obtain⟨r,o,vs,T',fz,ds,hy,_⟩:=gC ho ht hc
    exact⟨_,hy⟩
   rw[←hr.mem]at h
   split at h
   ·rename_i cs off hc hT
    split at h
    ·rename_i x hx
     cases h
     obtain⟨p,hp⟩:=ptr hc
     obtain⟨v,hv,hR⟩:=aNy (gC ho ht hc) hT hx
     rw[hp]at hv
     exact⟨v::zs,by simp[jM,hp,asAddr,aNx hv,h1],.cons hR h2⟩
    ·cases h
   ·rename_i cs off hc hT
    split at h
    ·rename_i x hx
     cases h
     obtain⟨p,hp⟩:=ptr hc
     obtain⟨v,hv,hR⟩:=aNz (gC ho ht hc) hT (by assumption)
     rw[hp]at hv
     exact⟨v::zs,by simp[jM,hp,asAddr,aNx hv,h1],.cons hR h2⟩
    ·cases h
   ·cases h
  ·cases h
theorem bFu{P:Program}{fn:Func}(ho:Ok base S0 σ)(hr:RelT σ s a){rs:List SV}(h:Uw P s fn.results.toList=some rs):
  ∃zs,(results fn a.tmps).run P σ.w=.ok (D9 zs) σ.w/\All2 (BF σ) rs zs:=by
 obtain⟨zs,h1,h2⟩:=aDJ ho hr h;refine⟨zs,?_,h2⟩;have he:results fn a.tmps=(do
   let vs ←fn.results.mapM (jM a.tmps)
   pure (if h:vs.size=1 then vs[0]else .tuple vs)):=rfl
 rw[he,Array.mapM_eq_mapM_toList];simp only[bind_map_left,Sem.run_bind,h1,Result.andThen_ok,Sem.run_pure];congr 1;unfold D9;split
 ·rename_i hs;simp at hs;match zs,hs with
  | [y],_=>rfl
 ·rename_i hs;split
  ·simp at hs
  ·rfl
theorem aLl:∀{l:List SV} {n t:Nat},Bm (Xx n l) t=(match l[t-n]? with|some x=>if n<=t then .val x else .un|none=>.un)
 | [],n,t=>by simp[Xx,Bm]
 |x::l,n,t=>by
  simp only[Xx,Bm]
  cases hb:Nat.beq n t with
  |true=>have:=ah hb;subst this;simp
  |false=>
   have hne:n≠t:=fun e=>by subst e;simp[dr]at hb
   simp only[cond_false]
   rw[aLl]
   rcases ax n t with hlt|hge
   ·have:t-n=(t-(n+1))+1:=by omega
    rw[this,List.getElem?_cons_succ]
    have h1:n+1<=t:=hlt
    have h2:n<=t:=by omega
    simp only[h1,h2,if_true]
   ·have h0:t-n=0:=by omega
    have h1:¬n+1<=t:=by omega
    have h2:¬n<=t:=by omega
    rw[h0,gd]
    simp only[h1,h2,if_false]
    split<;>rfl
theorem bGR{args:List SV}{ys:List Value}{n m0:Nat}(ha:All2 (BF σ) args ys)(hn:args.length<=n):
  RelT σ {n:=n,m0:=m0,tm:=Xx 0 args,mem:=σ.mem,cs:=[] } {tmps:=ys.toArray++jv (n-ys.toArray.size) undef,defers:=[] }:=by
 have hlen:=ha.length;refine⟨by simp;omega,rfl,rfl,fun t=>?_,fun d g p x hm=>by simp at hm⟩;rw[aLl];simp only[Nat.sub_zero];cases hx:args[t]? with
 |none=>trivial
 |some x=>
  obtain⟨y,hy,hxy⟩:=ha.get hx;simp only[dq,if_true];have:(ys.toArray++jv (n-ys.toArray.size) undef).getD t undef=y:=by
   have hlt:t<ys.length:=(bf.1 hy).1;rw[du,Array.getElem?_append_left (by simpa using hlt)];simp[hy]
  rw[this];exact hxy
theorem aBU(hP:ProgOk C)(hL:Me C){inl:FuncId->List SV->Ag->(List SV->Ag->Option R)->Option R}(hI:Wn C inl){lp:Bool}(hlp:lp=true->∃d,inl=I3 C (d+2))
  {f:FuncId} {fn:Func} (hf:C.P.funcs[f]? = some fn) {m0:Nat} {args:List SV} {mem:Ag} {k:List SV->Ag->Option R} (h:gB C inl lp f fn m0 args mem k=some r) {ys:List Value}
  {σ0:Sit} (h0:m0=σ0.mem.length) (hA:Adv σ0 σ) (ho:Ok base S0 σ) (hm:σ.mem=mem) (hG:GlobsOk C.globs σ0.w σ0.S) (ha:All2 (BF σ) args ys) :
  (∃ fn, C.P.funcs[f]? = some fn /\ fn.body.isNone = false /\ (fn.name == "runtime.NumGoroutine") = false) /\
  Calls C.P f ys.toArray σ.w fun e w'=>∃(σ':Sit) (rs:List SV) (zs:List Value),e=.returned (D9 zs)/\σ'.w=w'/\Ok base S0 σ'/\Adv σ0 σ'/\All2 (BF σ') rs zs/\k rs σ'.mem=some r:=by
 unfold gB at h;split at h
 ·rename_i c hc;obtain⟨hb,h⟩:=AJ h;simp only[ag,dx]at hb;subst hm;refine⟨⟨fn,hf,by simp[hc],hb.2⟩,?_⟩;refine calls_of_wp hf hc (wp_mono (Ua hP hL hI hlp hG hf hc c (fun _ h=>h) σ _ _ _ _ _ ho hA (bGR ha (by simpa using hb.1)) h0 h) fun e a' w' hp=>?_);obtain⟨σ',s',rfl,k2,k3,k4,k5,k6⟩:=hp;have hfin:CC C.P fn k s'=some r->a'.defers=[]/\∃v,(results fn a'.tmps).run C.P σ'.w=.ok v σ'.w /\
    ∃(σ'':Sit) (rs:List SV) (zs:List Value),Ending.returned v=.returned (D9 zs)/\σ''.w=σ'.w/\Ok base S0 σ''/\Adv σ0 σ''/\All2 (BF σ'') rs zs/\k rs σ''.mem=some r:=fun h=>by
   unfold CC at h;split at h
   ·rename_i rs ers;obtain⟨zs,h1,h2⟩:=bFu k2 k4 ers;exact⟨k4.defers,_,h1,σ',rs,zs,rfl,rfl,k2,k3,h2,by rw[k4.mem];exact h⟩
   ·cases h
  cases e with
  |normal=>exact hfin k6
  |ret=>exact hfin k6
  |exit id=>cases k6
  |_=>exact k6.elim
 ·cases h
theorem aCU(hP:ProgOk C)(hL:Me C):∀d,Wn C (I3 (R:=R) C d)
 |0,f,args,mem,k,r,h=>by simp[I3]at h
 |d+1,f,args,mem,k,r,h=>by
  intro base S0 σ ys ho hm hG ha
  simp only[I3]at h
  split at h
  ·rename_i fn hf
   obtain⟨_,h⟩:=AJ h
   subst hm
   refine aBU hP hL (aCU hP hL d) (fun hl=>?_) hf h rfl (Adv.refl σ) ho rfl hG ha
   have:2<=d:=by simpa using hl
   exact⟨d-2,by rw[show d-2+2=d by omega]⟩
  ·cases h
theorem bGQ{w:World}{St:Nat->Prop}(M:Nat->Prop)(h:∀q,St q->q<w.heap.size):Ok ⟨w,M⟩ St {E:=⟨fun _=>none,fun _=>0⟩,mem:=[],w:=w,S:=St}:=
 ⟨⟨rfl,rfl,rfl,bu _,fun _ _ _=>rfl⟩,fun _ h=>h,fun r hr=>⟨h r hr,.inl hr⟩,fun b=>by unfold AD;simp[Ac],fun b r hb=>by obtain⟨h1,_⟩:=hb;simp[Ac,Lq]at h1,fun b b' r hb=>by obtain⟨h1,_⟩:=hb;simp[Ac,Lq]at h1⟩
theorem bFG(hP:ProgOk C)(hL:Me C){d:Nat}{f:FuncId}{fn:Func}(hf:C.P.funcs[f]? = some fn){I O:Aa}{x:DenS I}{y:DenS O}(h:run C d f fn I O x=some y)
  {w:World} {St:Nat->Prop} {ys:List Value} {rs:List Nat} (hSt:∀q,St q->q<w.heap.size) (hG:GlobsOk C.globs w St) (hx:Cs w St I x ys rs) (hn:rs.Nodup) (hr:∀r∈rs,¬St r/\r<w.heap.size) :
  Calls C.P f ys.toArray w fun e w'=>∃zs rs',e=.returned (D9 zs)/\Low ⟨w,fun r=>r∈rs⟩ w'/\(∀r∈rs',Base.new ⟨w,fun r=>r∈rs⟩ r/\r<w'.heap.size)/\rs'.Nodup /\
   Cs w' (fun q=>(St q∨(Base.new ⟨w,fun r=>r∈rs⟩ q/\q<w'.heap.size))/\q∉rs') O y zs rs':=by
 unfold run at h
 split at h
 ·rename_i args m0 ea
  have hok:=bGQ (w:=w) (fun r=>r∈rs) hSt
  obtain⟨σ1,c1,c2,c3,c4,c5,c6⟩:=iE (σ:={E:=⟨fun _=>none,fun _=>0⟩,mem:=[],w:=w,S:=St}) hok hx hn (fun r h=>⟨.inr h,(hr r h).2,(hr r h).1,fun b hb=>by obtain⟨h1,_⟩:=hb;simp[Ac,Lq]at h1⟩) ea
  obtain⟨_,hc⟩:=aBU hP hL (aCU hP hL d) (lp:=Nat.ble 2 d) (fun hl=>by
   have:2<=d:=by simpa using hl
   exact⟨d-2,by rw[show d-2+2=d by omega]⟩) hf h (σ0:={E:=⟨fun _=>none,fun _=>0⟩,mem:=[],w:=w,S:=St}) rfl c5.adv c4 c1 hG c6
  rw[c2]at hc
  refine hc.mono fun e w' he=>?_
  obtain⟨σ',rs0,zs,rfl,rfl,k1,k2,k3,k4⟩:=he
  cases hz:Bz σ'.mem O rs0 with
  |mk rs1 m1=>
   rw[hz]at k4
   simp only at k4
   obtain⟨σ2,a1,a2,a3,a4,a5,a6⟩:=VF k1 hz
   split at k4
   ·rename_i y' m2 ey
    cases k4
    rw[←a1]at ey
    obtain⟨σ3,rs',b1,b2,b3,b4,b5,b6,b7,b8,b9,b10⟩:=j1 a4 (a6 _ k3) ey
    have hown:∀r∈rs',Base.new ⟨w,fun r=>r∈rs⟩ r/\r<σ'.w.heap.size/\¬σ2.S r:=fun r hr=>by
     obtain⟨⟨b,hb⟩,_⟩:=b9 r hr
     have:=a4.own b r hb
     rw[a2]at this
     exact this
    refine⟨zs,rs',rfl,k1.below,fun r hr=>⟨(hown r hr).1,(hown r hr).2.1⟩,b8,?_⟩
    rw[a2]at b7
    refine b7.mono (fun q hq=>?_) (fun _ _=>rfl) (fun _ _=>rfl)
    have hq':=a4.stab q hq
    rw[a2]at hq'
    refine⟨?_,fun h=>(hown q h).2.2 hq⟩
    rcases hq'.2 with h|h
    ·exact .inl h
    ·exact .inr ⟨h,hq'.1⟩
   ·cases k4
 ·cases h
theorem bAO{w w':World}{S S':Nat->Prop}{e e':Shape}{xs:List (Ab e)}{xs':List (Ab e')}{y:Value}{rs rs':List Nat}(h:Ga w S e xs y rs)(h':Ga w' S' e' xs' y rs'):rs=rs':=by
 obtain⟨k,_,_,h3⟩:=h;obtain⟨k',_,_,h3'⟩:=h';rcases h3 with⟨h4,_,rfl⟩|⟨r,_,_,h4,rfl,_⟩<;>rcases h3' with⟨h5,_,rfl⟩|⟨r',_,_,h5,rfl,_⟩
 ·rfl
 ·rw[h4]at h5;simp at h5
 ·rw[h4]at h5;simp at h5
 ·rw[h4]at h5;simp at h5;rw[h5.1]
theorem bGP{w:World}{St:Nat->Prop}{k:LK}{x:k.D}{y y0:Value}{rl:List Nat}(M:Nat->Prop)(h:∀q,St q->q<w.heap.size)(hx:UF w St k x y y0 rl)(hr:∀r∈rl,¬St r/\r<w.heap.size/\M r):
  ∃σ1:Sit,σ1.mem=(iC k x).2/\σ1.w=w/\σ1.S=St/\Ok ⟨w,M⟩ St σ1/\BF σ1 (iC k x).1 y/\(∀b r,σ1.owned b r->r∈rl)/\(iC k x).2.length=1 /\
   Az σ1 (match k with|.win _=>.own 0|.ref _=>.ptr 0 0) y0/\¬Hh (Ac σ1.mem 0):=by
 have hblk:∀b,Ac [Blk.gone] b=.gone:=fun b=>by cases b<;>simp[Ac]
 have hok:Ok ⟨w,M⟩ St {E:=⟨fun _=>none,fun _=>0⟩,mem:=[.gone],w:=w,S:=St}:=
  ⟨⟨rfl,rfl,rfl,bu _,fun _ _ _=>rfl⟩,fun _ h=>h,fun r hr=>⟨h r hr,.inl hr⟩,fun b=>by unfold AD;simp only[hblk],fun b r hb=>by obtain⟨h1,_⟩:=hb;simp only[hblk]at h1;exact h1.elim,fun b b' r hb=>by obtain⟨h1,_⟩:=hb;simp only[hblk]at h1;exact h1.elim⟩
 have hnone:∀b r,¬Sit.owned {E:=⟨fun _=>none,fun _=>0⟩,mem:=[.gone],w:=w,S:=St} b r:=fun b r hb=>by obtain⟨h1,_⟩:=hb;simp only[hblk]at h1;exact h1
 have hl:∀r∈rl,EJ ⟨w,M⟩ {E:=⟨fun _=>none,fun _=>0⟩,mem:=[.gone],w:=w,S:=St} r:=fun r h=>⟨.inr (hr r h).2.2,(hr r h).2.1,(hr r h).1,fun b=>hnone b r⟩
 cases k with
 |win e=>
  obtain⟨⟨k0,h1,h2,h3⟩,q1,A0,c,hy,q2,q3,q4⟩:=hx;obtain⟨A,hy0,hA,hc⟩:∃A:Option Nat,y0=.slice (A.map fun r=>⟨r,0,none⟩) x.1.length k0/\(∀r,A=some r->r∈rl)/\((A=none/\k0=0)∨∃r vs T,A=some r/\w.heap[r]? = some (.cells vs T (0,0))/\vs.size=k0*e.width/\Rows w St e vs 0 x.1):=by
   rcases h3 with⟨g1,g2,g3⟩|⟨r,vs,T,g1,g2,g3,g4,g5⟩
   ·exact⟨none,g1,(fun r h=>by cases h),.inl ⟨rfl,g2⟩⟩
   ·subst g2;exact⟨some r,g1,(fun r' h=>by cases h;simp),.inr ⟨r,vs,T,rfl,g3,g4,g5⟩⟩
  obtain⟨σ1,c1,c2,c3,c4,c5,c6,c7,c8,c9⟩:=aPi hok (b:=0) (by simp) (hblk 0) (by rfl) (.arr e x.1) A k0 (fun r hr=>hl r (hA r hr)) (fun σ' m1 m2 m3 m4 m5 m6=>by
   unfold AD;rw[m4,m5,m6,m2,m3];exact⟨h1,h2,hc⟩)
  refine⟨σ1,c1,c2,c3,c4,⟨by rw[c1];simp,by rw[hy];trivial,?_⟩,fun b r h=>?_,rfl,⟨by rw[c1];simp,by rw[hy0];trivial,?_⟩,by rw[c5];exact fun h=>h⟩
  ·rw[c5];refine⟨q1,A0,c,hy,q2,q3,fun hn=>?_⟩;obtain⟨r,k1,g1,g2⟩:=q4 hn;rw[hy0]at g1;refine⟨r,?_,g2⟩;rw[c6];cases A with
   |none=>simp at g1
   |some r'=>simp at g1;rw[g1.1]
  ·rcases c9 b r h with g|g
   ·exact(hnone b r g).elim
   ·exact hA r g
  ·rw[c5,c6,c7];exact hy0
 |ref τ=>
  obtain⟨rfl,r,vs,T,h1,rfl,h2,h3⟩:=hx;obtain⟨σ1,c1,c2,c3,c4,c5,c6,c7,c8,c9⟩:=aPi hok (b:=0) (by simp) (hblk 0) (by rfl) (.raw (cellsOf τ x)) (some r) 0 (fun r' hr=>by cases hr;exact hl r (by simp)) (fun σ' m1 m2 m3 m4 m5 m6=>by
   unfold AD;rw[m4];exact⟨r,vs,T,m5,by rw[m2];exact h2,OB (by rw[m2,m3];exact h3)⟩)
  have hrep:Az σ1 (.ptr 0 0) y0:=⟨by rw[c1];simp,by rw[h1];exact⟨_,rfl⟩,by rw[c5];exact⟨r,c6,h1⟩⟩
  exact⟨σ1,c1,c2,c3,c4,hrep,fun b r' h=>by
   rcases c9 b r' h with g|g
   ·exact(hnone b r' g).elim
   ·cases g;simp,rfl,hrep,by rw[c5];exact fun h=>h⟩
theorem bFF(hP:ProgOk C)(hL:Me C){d:Nat}{f:FuncId}{fn:Func}(hf:C.P.funcs[f]? = some fn){k:LK}{I O:Aa}{x:k.D×DenS I}{y:k.B×DenS O}(h:C2 C d f fn k I O x=some y)
  {w:World} {St:Nat->Prop} {y1 y0:Value} {ys:List Value} {rl rs:List Nat} (hSt:∀q,St q->q<w.heap.size) (hG:GlobsOk C.globs w St) (hx0:UF w St k x.1 y1 y0 rl) (hx:Cs w St I x.2 ys rs) (hn:(rl++rs).Nodup) (hr:∀r∈rl++rs,¬St r/\r<w.heap.size) :
  Calls C.P f (y1::ys).toArray w fun e w'=>∃zs rs',e=.returned (D9 zs)/\Low ⟨w,fun r=>r∈rl++rs⟩ w'/\(∀r∈rs',Base.new ⟨w,fun r=>r∈rl++rs⟩ r/\r<w'.heap.size)/\(rl++rs').Nodup /\
   Cs w' (fun q=>(St q∨(Base.new ⟨w,fun r=>r∈rl++rs⟩ q/\q<w'.heap.size))/\q∉rl++rs') O y.2 zs rs' /\
   LA w' (fun q=>(St q∨(Base.new ⟨w,fun r=>r∈rl++rs⟩ q/\q<w'.heap.size))/\q∉rl++rs') k y.1 y0 rl:=by
 obtain⟨n1,n2,n3⟩:=ju.1 hn
 obtain⟨σ1,s1,s2,s3,s4,s5,s6,s7,s8,s9⟩:=bGP (fun r=>r∈rl++rs) hSt hx0 (fun r h=>⟨(hr r (cw.2 (.inl h))).1,(hr r (cw.2 (.inl h))).2,cw.2 (.inl h)⟩)
 unfold C2 at h
 cases hgl:iC k x.1 with
 |mk z m=>
  rw[hgl]at h s1 s5 s7
  simp only at h s1 s5 s7
  split at h
  ·rename_i args m0 ea
   rw[←s1]at ea
   have hx1:Cs σ1.w σ1.S I x.2 ys rs:=by rw[s2,s3];exact hx
   obtain⟨σ2,c1,c2,c3,c4,c5,c6⟩:=iE s4 hx1 n2 (fun r h=>⟨.inr (cw.2 (.inr h)),by rw[s2];exact(hr r (cw.2 (.inr h))).2,by rw[s3];exact(hr r (cw.2 (.inr h))).1,fun b hb=>n3 r (s6 b r hb) r h rfl⟩) ea
   obtain⟨_,hc⟩:=aBU hP hL (aCU hP hL d) (lp:=Nat.ble 2 d) (fun hl=>by
    have:2<=d:=by simpa using hl
    exact⟨d-2,by rw[show d-2+2=d by omega]⟩) hf h (σ0:=σ1) (by rw[s1,s7]) c5.adv c4 c1 (by rw[s2,s3];exact hG) (.cons (c5.repV s5) c6)
   rw[c2,s2]at hc
   refine hc.mono fun e w' he=>?_
   obtain⟨σ',rs0,zs,rfl,rfl,k1,k2,k3,k4⟩:=he
   obtain⟨σp,p1,p2,p3,p4,p5⟩:=aPf k1 k (.one (.ptr 0 0))
   cases hz:Bz (Lu σ'.mem k (.one (.ptr 0 0))) O rs0 with
   |mk rs1 m1=>
    rw[hz]at k4
    simp only at k4
    rw[←p1]at hz
    obtain⟨σ2',a1,a2,a3,a4,a5,a6⟩:=VF p4 hz
    split at k4
    ·rename_i y' m2 ey
     rw[←a1]at ey
     obtain⟨σ3,rs',b1,b2,b3,b4,b5,b6,b7,b8,b9,b10⟩:=j1 a4 (a6 _ (k3.mono fun _ _=>p5.repV)) ey
     split at k4
     ·rename_i bk ed
      cases k4
      have hw3:σ3.w=σ'.w:=b2.trans (a2.trans p2)
      have hgo:Goes σ' σ3:=p5.trans (a5.trans b6)
      have hown:∀r∈rs',Base.new ⟨w,fun r=>r∈rl++rs⟩ r/\r<σ'.w.heap.size/\¬σ2'.S r:=fun r hr=>by
       obtain⟨⟨b,hb⟩,_⟩:=b9 r hr
       have:=a4.own b r hb
       rw[a2,p2]at this
       exact this
      have hrep:Az σ3 (match k with|.win _=>.own 0|.ref _=>.ptr 0 0) y0:=by
       have h1:=k2.rep _ _ s8
       cases k with
       |win e=>
        simp only at h1⊢
        rcases VA (mem:=σ1.mem) (b:=0)with⟨_,ha⟩|⟨e,_⟩
        ·exact absurd ha s9
        ·rw[e]at h1;exact hgo.repC h1
       |ref τ=>exact hgo.repC h1
      have key:∀(SB:Prop),((∀r∈rl,∃b,σ3.owned b r)->LA σ3.w σ3.S k bk y0 rl->SB)->SB:=fun SB hSB=>by
       rw[←b1]at ed
       cases k with
       |win e=>
        simp only[aCd]at ed
        split at ed
        ·rename_i τ xs eb
         obtain⟨hττ,hxs⟩:=IV ed
         subst hττ
         simp only at hxs
         subst hxs
         obtain⟨σ4,rl',l1,l2,l3,l4,l5,l6,l7,l8,l9,l10⟩:=Yu b5 (.inl eb) hrep
         have:rl=rl':=bAO hx0.1 l7
         subst this
         exact hSB (fun r hr=>(l9 r hr).1) l7
        ·cases ed
       |ref τ=>
        obtain⟨rfl,r,vs0,T0,h1,rfl,_,_⟩:=hx0
        simp only[aCd]at ed
        split at ed
        ·rename_i cs eb
         split at ed
         ·rename_i x' ep
          cases ed
          obtain⟨_,_,hm⟩:=hrep
          rw[eb]at hm
          obtain⟨r',hβ,hy⟩:=hm
          rw[h1]at hy
          have:r=r':=by simpa using hy
          subst this
          have he:=b5.ent 0
          unfold AD at he
          rw[eb]at he
          obtain⟨r2,vs,T,g1,g2,g3⟩:=he
          rw[hβ]at g1;cases g1
          obtain⟨y1',y2',hyy,q1,q2⟩:=OZ g3 ep
          cases q2
          rw[dk]at hyy
          exact hSB (fun r' hr'=>by simp at hr';subst hr';exact⟨0,by rw[eb];trivial,hβ⟩) ⟨r,vs,T,h1,rfl,g2,by rw[hyy];exact q1⟩
         ·cases ed
        ·cases ed
      refine key _ fun hro hbk=>?_
      have hdis:∀r∈rl,∀r'∈rs',r≠r':=fun r h1 r' h2 e=>by
       subst e
       obtain⟨b,hb⟩:=hro r h1
       exact(b9 r h2).2 b hb
      have hstab:∀q,σ2'.S q->(St q∨(Base.new ⟨w,fun r=>r∈rl++rs⟩ q/\q<σ'.w.heap.size))/\q∉rl++rs':=fun q hq=>by
       have hq':=a4.stab q hq
       rw[a2,p2]at hq'
       refine⟨?_,fun h=>?_⟩
       ·rcases hq'.2 with h|h
        ·exact .inl h
        ·exact .inr ⟨h,hq'.1⟩
       ·rcases cw.1 h with h|h
        ·obtain⟨b,hb⟩:=hro q h
         exact(b5.own b q hb).2.2 (by rw[b4];exact hq)
        ·exact(hown q h).2.2 hq
      refine⟨zs,rs',rfl,k1.below,fun r hr=>⟨(hown r hr).1,(hown r hr).2.1⟩,ju.2 ⟨n1,b8,hdis⟩,?_,?_⟩
      ·rw[a2,p2]at b7
       exact b7.mono hstab (fun _ _=>rfl) (fun _ _=>rfl)
      ·rw[hw3]at hbk
       exact LA.mono (fun q hq=>hstab q (by rw[←b4];exact hq)) hbk
     ·cases k4
    ·cases k4
  ·cases h
theorem bGI (hP : ProgOk C) (hL : Me C) (d : Nat) (f : FuncId) (fn : Func) (hf : C.P.funcs[f]? = some fn) (hb : fn.body.isNone = false) (hn : (fn.name == "runtime.NumGoroutine") = false) (L : SumL)
  (h:∀x,L.pre x=true->C2 C d f fn L.lend L.ins L.outs x=some (L.F x)):SoundL C.P C.globs f L:=
 ⟨fun x hx0 _ _ _ _ _ _ _ hSt hG hl hx hnd hr=>.inl ⟨⟨fn,hf,hb,hn⟩,bFF hP hL hf (h x hx0) hSt hG hl hx hnd hr⟩⟩
theorem bGJ (hP : ProgOk C) (hL : Me C) (d : Nat) (f : FuncId) (fn : Func) (hf : C.P.funcs[f]? = some fn) (hb : fn.body.isNone = false) (hn : (fn.name == "runtime.NumGoroutine") = false) (S : Sum)
  (h:∀x,S.pre x=true->run C d f fn S.ins S.outs x=some (S.F x)):Sound C.P C.globs f S:=
 ⟨fun x hx0 _ _ _ _ hSt hG hx hnd hr=>.inl ⟨⟨fn,hf,hb,hn⟩,bFG hP hL hf (h x hx0) hSt hG hx hnd hr⟩⟩
end Vx
namespace Vx
open Go Go.RowKit
@[reducible] def Ad:List (Nat×Pat)->Option Pat->Type
 | [],none=>Empty
 | [],some p=>p.D
 |(_,p)::r,o=>p.D ⊕ Ad r o
@[reducible] def Ba{A R:Type}(o:Option A)(f:A->Option R):Option R:=match o with
 |some y=>f y
 |none=>none
@[reducible] def A9{A A' R:Type}(o:A ⊕ A')(f:A->Option R)(g:A'->Option R):Option R:=match o with
 |.inl y=>f y
 |.inr y=>g y
def I9{R:Type}(m:Nat):(l:List (Nat×Pat))->(o:Option Pat)->(Nat->St->Option R)->(St->Option R)->Ad l o->Option R
 | [],none,_,_=>fun _=>none
 | [],some p,_,kr=>fun y=>kr (Oy p y m)
 |(i,p)::r,o,ke,kr=>fun z=>A9 z (fun y=>ke i (Oy p y m)) (fun z=>I9 m r o ke kr z)
def iT{R:Type}(m:Nat):(l:List (Nat×Pat))->(o:Option Pat)->(Ad l o->Option R)->Nat->St->Option R
 | [],_,_,_,_=>none
 |(i,p)::r,o,e,id,s=>bif Nat.beq i id then(match Hv p s m with|some y=>e (.inl y)|none=>none)else iT m r o (fun z=>e (.inr z)) id s
def iU{R:Type}(m:Nat):(l:List (Nat×Pat))->(o:Option Pat)->(Ad l o->Option R)->St->Option R
 | [],none,_,_=>none
 | [],some p,e,s=>match Hv p s m with|some y=>e y|none=>none
 |_::r,o,e,s=>iU m r o (fun z=>e (.inr z)) s
def Br(C:Cfg)(d:Nat)(fid:FuncId)(body:Code)(pat:Pat)(accs:List (Nat×Shape))(exits:List (Nat×Pat))(ret:Option Pat){R:Type}(L:pat.D->Option R)(e:Ad exits ret->Option R)(x:pat.D)(m:Nat:=0):Option R:=
 C7 C (I3 C d) true fid body (Oy pat x m) (fun s'=>match Hv pat (K3 accs {s' with cs:=[] }) m with
  |some y=>L y
  |none=>none) (iT m exits ret e) (iU m exits ret e)
theorem aOC{R:Type}(m:Nat)(ke:Nat->St->Option R)(kr:St->Option R):∀(l:List (Nat×Pat)) (o:Option Pat) (id:Nat) (s:St),YE l ke id s m=iT m l o (I9 m l o ke kr) id s
 | [],_,_,_=>rfl
 |(i,p)::r,o,id,s=>by
  unfold YE
  simp only[aCl,iT]
  cases hb:Nat.beq i id with
  |true=>
   have:=ah hb
   subst this
   rfl
  |false=>
   simp only[cond_false]
   have ih:=aOC m ke kr r o id s
   unfold YE at ih
   rw[ih]
   rfl
theorem aOD{R:Type}(m:Nat)(ke:Nat->St->Option R)(kr:St->Option R):∀(l:List (Nat×Pat)) (o:Option Pat) (s:St),sR o kr s m=iU m l o (I9 m l o ke kr) s
 | [],none,_=>rfl
 | [],some p,s=>rfl
 |(i,p)::r,o,s=>by
  simp only[iU]
  rw[aOD m ke kr r o s]
  rfl
def Bf{D Y:Type}(φ:(D->Option Y)->D->Option Y)(x:D):Option Y:=open Classical in if h:∃y,∃n,CR φ n x=some y then some (Classical.choose h)else none
theorem aZz{D Y:Type}{φ:(D->Option Y)->D->Option Y}{x:D}{y:Y}(h:Bf φ x=some y):∃n,CR φ n x=some y:=by
 unfold Bf at h;split at h
 ·rename_i hex;cases h;exact nl hex
 ·cases h
def Bo{D Y:Type}(Φ:{R:Type}->(D->Option R)->(Y->Option R)->D->Option R):Prop:=∀(A B:Type) (rel:Option A->Option B->Prop) (L:D->Option A) (L':D->Option B) (e:Y->Option A) (e':Y->Option B),rel none none->(∀x,rel (L x) (L' x))->(∀y,rel (e y) (e' y))->∀x,rel (Φ L e x) (Φ L' e' x)
theorem BB{A B:Type}{rel:Option A->Option B->Prop}{c:Bool}{a a':Option A}{b b':Option B}(h:rel a b)(h':rel a' b'):rel (bif c then a else a') (bif c then b else b'):=by
 cases c
 ·exact h'
 ·exact h
theorem BC{A B T:Type}{rel:Option A->Option B->Prop}(h0:rel none none){o:Option T}{f:T->Option A}{g:T->Option B}(h:∀y,rel (f y) (g y)):rel (Ba o f) (Ba o g):=by
 cases o with
 |none=>exact h0
 |some y=>exact h y
theorem BD{A B T T':Type}{rel:Option A->Option B->Prop}{o:T ⊕ T'}{f:T->Option A}{g:T->Option B}{f':T'->Option A}{g':T'->Option B}(h:∀y,rel (f y) (g y))(h':∀y,rel (f' y) (g' y)):
  rel (A9 o f f') (A9 o g g'):=by
 cases o with
 |inl y=>exact h y
 |inr y=>exact h' y
section
variable {D Y:Type}{Φ:{R:Type}->(D->Option R)->(Y->Option R)->D->Option R}
theorem aCZ(hp:Bo Φ):∀(n m:Nat) (x:D) (y:Y),CR (fun L=>Φ L some) n x=some y->n<=m->CR (fun L=>Φ L some) m x=some y
 |0,_,_,_,h,_=>by simp[CR]at h
 |n+1,0,_,_,_,h=>by omega
 |n+1,m+1,x,y,h,hm=>by
  simp only[CR]at h⊢
  exact hp Y Y (fun a b=>∀y,a=some y->b=some y) _ _ _ _ (fun _ h=>h) (fun x y h=>aCZ hp n m x y h (by omega)) (fun _ _ h=>h) x y h
theorem aNu(hp:Bo Φ){n:Nat}{x:D}{y:Y}(h:CR (fun L=>Φ L some) n x=some y):Bf (fun L=>Φ L some) x=some y:=by
 have hex:∃y,∃n,CR (fun L=>Φ L some) n x=some y:=⟨y,n,h⟩
 unfold Bf;rw[dif_pos hex];obtain⟨m,hm⟩:=nl hex;have h1:=aCZ hp n (max n m) x y h (by omega);have h2:=aCZ hp m (max n m) x _ hm (by omega);rw[h1]at h2;rw[←h2]
theorem CD(hp:Bo Φ)(μ:D->Nat)(I:D->Prop)(post:D->Y)(h:∀(L:D->Option Y) x,I x->(∀x',I x'->μ x'<μ x->L x'=some (post x'))->Φ L some x=some (post x)):∀x,I x->Bf (fun L=>Φ L some) x=some (post x):=by
 have key:∀m x,I x->μ x<m->CR (fun L=>Φ L some) m x=some (post x):=by
  intro m;induction m with
  |zero=>intro x _ h;omega
  |succ m ih=>
   intro x hx hm;simp only[CR];exact h _ x hx fun x' hx' hlt=>ih x' hx' (by omega)
 intro x hx;exact aNu hp (key (μ x+1) x hx (by omega))
end
@[reducible] def LoopSpec.of(pat:Pat)(accs:List (Nat×Shape))(exits:List (Nat×Pat))(ret:Option Pat)(V3:pat.D->Option (Ad exits ret))(m:Nat:=0):LoopSpec:=
 {pat,accs,exits,ret,m0:=m,run:=fun x ke kr=>match V3 x with
   |some z=>I9 m exits ret ke kr z
   |none=>none}
theorem aZo{C:Cfg}{d:Nat}{fid:FuncId}{body:Code}(sp:LoopSpec){R:Type}(ke:Nat->St->Option R)(kr:St->Option R)(L:sp.pat.D->Option R)(x:sp.pat.D):
  VM C d fid body sp ke kr L x=Br C d fid body sp.pat sp.accs sp.exits sp.ret L (I9 sp.m0 sp.exits sp.ret ke kr) x sp.m0:=by
 have h1:(fun id s=>YE sp.exits ke id s sp.m0)=iT sp.m0 sp.exits sp.ret (I9 sp.m0 sp.exits sp.ret ke kr):=funext fun id=>funext fun s=>aOC sp.m0 ke kr sp.exits sp.ret id s;have h2:(fun s=>sR sp.ret kr s sp.m0)=iU sp.m0 sp.exits sp.ret (I9 sp.m0 sp.exits sp.ret ke kr):=funext fun s=>aOD sp.m0 ke kr sp.exits sp.ret s;unfold VM Br;rw[←h1,←h2];congr 1;funext s';cases Hv sp.pat (K3 sp.accs {s' with cs:=[] }) sp.m0<;>rfl
theorem BA{C:Cfg}{d:Nat}{fid:FuncId}{body:Code}{pat:Pat}{accs:List (Nat×Shape)}{exits:List (Nat×Pat)}{ret:Option Pat}{m:Nat}(Φ:{R:Type}->(pat.D->Option R)->(Ad exits ret->Option R)->pat.D->Option R)(hp:Bo Φ)
  (hs:∀(R:Type) (L:pat.D->Option R) (e:Ad exits ret->Option R) x,Br C d fid body pat accs exits ret L e x m=Φ L e x) :
  lR C d fid body (LoopSpec.of pat accs exits ret (Bf fun L=>Φ L some) m):=by
 intro R ke kr r x h;have hbody:∀(L:pat.D->Option R) (x:pat.D),VM C d fid body (LoopSpec.of pat accs exits ret (Bf fun L=>Φ L some) m) ke kr L x=Φ L (I9 m exits ret ke kr) x:=fun L x=>
  (aZo (LoopSpec.of pat accs exits ret (Bf fun L=>Φ L some) m) ke kr L x).trans (hs R L (I9 m exits ret ke kr) x)
 simp only[LoopSpec.of]at h;split at h
 ·rename_i z hz;obtain⟨n,hn⟩:=aZz hz;refine⟨n,?_⟩;have key:∀n (x:pat.D) z,CR (fun L=>Φ L some) n x=some z->CR (VM C d fid body (LoopSpec.of pat accs exits ret (Bf fun L=>Φ L some) m) ke kr) n x=I9 m exits ret ke kr z:=by
   intro n;induction n with
   |zero=>intro x z h;simp[CR]at h
   |succ n ih=>
    intro x z h;simp only[CR]at h;exact(hbody _ x).trans <| hp _ R (fun a b=>∀z,a=some z->b=I9 m exits ret ke kr z) _ _ _ _ (fun _ h=>by cases h) (fun x z h=>ih x z h) (fun y z h=>by cases h;rfl) x z h
  exact(key n x z hn).trans h
 ·cases h
def Ah(I O:Aa)(t:DenS I->Option (DenS O))(dflt:DenS O):Sum:={ins:=I,outs:=O,pre:=fun x=>(t x).isSome,F:=fun x=>(t x).getD dflt}
theorem bGZ {C : Cfg} (hP : ProgOk C) (hL : Me C) (d : Nat) (f : FuncId) (fn : Func) (hf : C.P.funcs[f]? = some fn) (hb : fn.body.isNone = false) (hn : (fn.name == "runtime.NumGoroutine") = false) (I O : Aa) (t : DenS I -> Option (DenS O)) (dflt : DenS O)
  (h:∀x,run C d f fn I O x=t x):Sound C.P C.globs f (Ah I O t dflt):=
 bGJ hP hL d f fn hf hb hn _ fun x hx=>by
  refine(h x).trans ?_
  simp only[Ah]at hx⊢
  cases ht:t x with
  |none=>rw[ht]at hx;cases hx
  |some y=>rfl
def DenS.dflt:(S:Aa)->DenS S
 | []=>()
 |(_,τ)::r=>(τ.dflt,DenS.dflt r)
def Bq(fn:Func)(k:Nat):Code:=match fn.body with
 |some c=>((CE c).find? fun b=>Nat.beq (C9 b) k).getD .skip
 |none=>.skip
def I8:List Nat->Bool
 | []=>true
 |n::r=>!(Ho n r)&&I8 r
theorem aMp:∀{l:List Code},I8 (l.map C9)=true->∀{b:Code} {k:Nat},b∈l->C9 b=k->l.find? (fun b=>Nat.beq (C9 b) k)=some b
 | [],_,b,k,h,_=>by simp at h
 |c::l,hn,b,k,hb,hk=>by
  simp only[fu,I8,ag,dx]at hn
  rw[List.find?_cons]
  rcases cy.1 hb with rfl|hb
  ·subst hk;simp[dr]
  ·have:Nat.beq (C9 c) k=false:=by
    cases hq:Nat.beq (C9 c) k with
    |false=>rfl
    |true=>
     have e:=ah hq
     have:Ho (C9 c) (l.map C9)=true:=OU.2 (by rw[e,←hk];exact List.mem_map_of_mem hb)
     rw[this]at hn;cases hn.1
   rw[this]
   exact aMp hn.2 hb hk
theorem aXf{fn:Func}{whole:Code}(hw:fn.body=some whole)(hn:I8 ((CE whole).map C9)=true){b:Code}{k:Nat}(hb:b∈CE whole)(hk:C9 b=k):b=Bq fn k:=by
 unfold Bq;rw[hw];simp only[aMp hn hb hk,lw]
def Wg(P:Program)(G:List (Nat×Sigma fun τ=>List (Ab τ))):List (FuncId×Sum)->Prop
 | []=>True
 |(f,S)::r=>Sound P G f S/\Wg P G r
theorem aD1{P:Program}{G:List (Nat×Sigma fun τ=>List (Ab τ))}:∀{l:List (FuncId×Sum)},Wg P G l->∀f mem args S,IY l f mem args=some S->Sound P G f S
 | [],_,f,mem,args,S,h=>by simp[IY]at h
 |(g,T)::r,ha,f,mem,args,S,h=>by
  simp only[IY]at h
  cases hb:Nat.beq g f&&OJ mem T.ins args with
  |true=>
   rw[hb]at h
   simp only[cond_true,ae]at h
   subst h
   simp only[ag]at hb
   have:=ah hb.1
   subst this
   exact ha.1
  |false=>rw[hb]at h;exact aD1 ha.2 f mem args S h
def Wh(P:Program)(G:List (Nat×Sigma fun τ=>List (Ab τ))):List (FuncId×SumL)->Prop
 | []=>True
 |(f,S)::r=>SoundL P G f S/\Wh P G r
def We(P:Program)(G:List (Nat×Sigma fun τ=>List (Ab τ))):List (TypeId×SumF)->Prop
 | []=>True
 |(_,S)::r=>LC P G S/\We P G r
theorem aCp{P:Program}{G:List (Nat×Sigma fun τ=>List (Ab τ))}:∀{l:List (TypeId×SumF)},We P G l->∀T S,(T,S)∈l->LC P G S
 | [],_,T,S,h=>by simp at h
 |(T',S')::r,ha,T,S,h=>by
  rcases cy.1 h with h|h
  ·cases h;exact ha.1
  ·exact aCp ha.2 T S h
def Wf(P:Program)(G:List (Nat×Sigma fun τ=>List (Ab τ))):List (String×SumM)->Prop
 | []=>True
 |(m,S)::r=>yF P G m S/\Wf P G r
theorem aC5{P:Program}{G:List (Nat×Sigma fun τ=>List (Ab τ))}:∀{l:List (String×SumM)},Wf P G l->∀m S,(m,S)∈l->yF P G m S
 | [],_,m,S,h=>by simp at h
 |(m',S')::r,ha,m,S,h=>by
  rcases cy.1 h with h|h
  ·cases h;exact ha.1
  ·exact aC5 ha.2 m S h
theorem aC3{P:Program}{G:List (Nat×Sigma fun τ=>List (Ab τ))}:∀{l:List (FuncId×SumL)},Wh P G l->∀f mem args S,Gy l f mem args=some S->SoundL P G f S
 | [],_,f,mem,args,S,h=>by simp[Gy]at h
 |(g,T)::r,ha,f,mem,args,S,h=>by
  simp only[Gy]at h
  cases hb:Nat.beq g f&&Ld mem T.lend args with
  |true=>
   rw[hb]at h
   simp only[cond_true,ae]at h
   subst h
   simp only[ag]at hb
   have:=ah hb.1
   subst this
   exact ha.1
  |false=>rw[hb]at h;exact aC3 ha.2 f mem args S h
def UC(C:Cfg)(fid:FuncId)(fn:Func):List (FuncId×Nat×LoopSpec)->Prop
 | []=>True
 |(f,k,sp)::r=>f=fid/\(∀d,lR C (d+2) fid (Bq fn k) sp)/\UC C fid fn r
theorem aMl{C:Cfg}{fid:FuncId}{fn:Func}:∀{l:List (FuncId×Nat×LoopSpec)},UC C fid fn l->∀{f k sp},gO l f k=some sp->f=fid/\∀d,lR C (d+2) fid (Bq fn k) sp
 | [],_,f,k,sp,h=>by simp[gO]at h
 |(g,j,T)::r,ha,f,k,sp,h=>by
  simp only[gO]at h
  cases hb:(Nat.beq g f&&Nat.beq j k)with
  |true=>
   rw[hb]at h
   simp only[cond_true,ae]at h
   subst h
   simp only[ag]at hb
   have e1:=ah hb.1
   have e2:=ah hb.2
   subst e1 e2
   exact⟨ha.1,ha.2.1⟩
  |false=>rw[hb]at h;exact aMl ha.2.2 h
theorem aNA{C:Cfg}{fid:FuncId}{fn:Func}(hf:C.P.funcs[fid]? = some fn)(hn:∀whole,fn.body=some whole->I8 ((CE whole).map C9)=true)(ha:UC C fid fn C.loops):Me C:=by
 intro f k sp h fn' whole hf' hw body hb hk d;obtain⟨rfl,hl⟩:=aMl ha h;rw[hf]at hf';cases hf';rw[aXf hw (hn whole hw) hb hk];exact hl d
theorem aX8 (C : Cfg) (d : Nat) (f : FuncId) (fn : Func) (hm : C.P.follows .mixedOrders = true) (hf : C.P.funcs[f]? = some fn) (hb : (match fn.body with | some c => I8 ((CE c).map C9) | none => false) = true) (hn : (fn.name == "runtime.NumGoroutine") = false)
  (hs:Wg C.P C.globs C.sums) (hl:UC C f fn C.loops) (I O:Aa) (t:DenS I->Option (DenS O)) (dflt:DenS O) (h:∀x,run C d f fn I O x=t x) (hls:Wh C.P C.globs C.lsums:=by exact trivial) (hfs:We C.P C.globs C.fns:=by exact trivial) (hms:Wf C.P C.globs C.meths:=by exact trivial):Sound C.P C.globs f (Ah I O t dflt):=by
 have hb':∃c,fn.body=some c/\I8 ((CE c).map C9)=true:=by
  cases e:fn.body with
  |none=>rw[e]at hb;cases hb
  |some c=>rw[e]at hb;exact⟨c,rfl,hb⟩
 obtain⟨c,e,hc⟩:=hb'
 exact bGZ ⟨⟨fun g mem args S=>aD1 hs g mem args S,fun g mem args S=>aC3 hls g mem args S,fun T S=>aCp hfs T S,fun m S=>aC5 hms m S⟩,hm⟩ (aNA hf (fun w hw=>by rw[e]at hw;cases hw;exact hc) hl) d f fn hf (by rw[e];rfl) hn I O t dflt h
def LK.dflt:(k:LK)->k.B
 |.win _=>[]
 |.ref τ=>τ.dflt
def C3(k:LK)(I O:Aa)(t:k.D×DenS I->Option (k.B×DenS O))(dflt:k.B×DenS O):SumL:={lend:=k,ins:=I,outs:=O,pre:=fun x=>(t x).isSome,F:=fun x=>(t x).getD dflt}
theorem aX9 (C : Cfg) (d : Nat) (f : FuncId) (fn : Func) (hm : C.P.follows .mixedOrders = true) (hf : C.P.funcs[f]? = some fn) (hb : (match fn.body with | some c => I8 ((CE c).map C9) | none => false) = true) (hn : (fn.name == "runtime.NumGoroutine") = false)
  (hs:Wg C.P C.globs C.sums) (hl:UC C f fn C.loops) (k:LK) (I O:Aa) (t:k.D×DenS I->Option (k.B×DenS O)) (dflt:k.B×DenS O) (h:∀x,C2 C d f fn k I O x=t x) (hls:Wh C.P C.globs C.lsums:=by exact trivial) (hfs:We C.P C.globs C.fns:=by exact trivial) (hms:Wf C.P C.globs C.meths:=by exact trivial):SoundL C.P C.globs f (C3 k I O t dflt):=by
 have hb':∃c,fn.body=some c/\I8 ((CE c).map C9)=true:=by
  cases e:fn.body with
  |none=>rw[e]at hb;cases hb
  |some c=>rw[e]at hb;exact⟨c,rfl,hb⟩
 obtain⟨c,e,hc⟩:=hb'
 refine bGI ⟨⟨fun g mem args S=>aD1 hs g mem args S,fun g mem args S=>aC3 hls g mem args S,fun T S=>aCp hfs T S,fun m S=>aC5 hms m S⟩,hm⟩ (aNA hf (fun w hw=>by rw[e]at hw;cases hw;exact hc) hl) d f fn hf (by rw[e];rfl) hn _ fun x hx=>?_
 refine(h x).trans ?_
 simp only[C3]at hx⊢
 cases ht:t x with
 |none=>rw[ht]at hx;cases hx
 |some y=>rfl
theorem SoundL.more{P:Program}{G G':List (Nat×Sigma fun τ=>List (Ab τ))}{f:FuncId}{S:SumL}(hs:SoundL P G f S)(h:∀g x,OI G g=some x->OI G' g=some x):SoundL P G' f S:=
 ⟨fun x hp w St y y0 ys rl rs a hG b c d e=>hs.calls x hp w St y y0 ys rl rs a (fun g τ xs e=>hG g τ xs (h g _ e)) b c d e⟩
theorem Sound.more{P:Program}{G G':List (Nat×Sigma fun τ=>List (Ab τ))}{f:FuncId}{S:Sum}(hs:Sound P G f S)(h:∀g x,OI G g=some x->OI G' g=some x):Sound P G' f S:=
 ⟨fun x hp w St ys rs a hG b c d=>hs.calls x hp w St ys rs a (fun g τ xs e=>hG g τ xs (h g _ e)) b c d⟩
def YW{τ:Shape}:(I:Aa)->DenS I->Ab τ->DenS (I++[(false,τ)])
 | [],_,d=>(d,())
 |_::r,x,d=>(x.1,YW r x.2 d)
theorem aDX{w:World}{S:Nat->Prop}{τ:Shape}{d:Ab τ}{p:Value}(hd:FZ w S false τ d p []):∀{I:Aa} {x:DenS I} {ys:List Value} {rs:List Nat},Cs w S I x ys rs->Cs w S (I++[(false,τ)]) (YW I x d) (ys++[p]) rs
 | [],_,ys,rs,⟨h1,h2⟩=>by
  subst h1;subst h2
  exact⟨p,[],[],[],rfl,rfl,hd,rfl,rfl⟩
 |(a,σ)::I,x,_,_,⟨y,ys',r1,r2,h1,h2,h3,h4⟩=>by
  subst h1;subst h2
  exact⟨y,ys'++[p],r1,r2,rfl,rfl,h3,aDX hd h4⟩
def Jh(I O:Aa)(pre:DenS (I++[(false,.box .pfn)])->Bool)(F:DenS (I++[(false,.box .pfn)])->DenS O)(g:Nat):Sum:=
 ⟨I,O,fun x=>pre (YW (τ:=.box .pfn) I x g),fun x=>F (YW (τ:=.box .pfn) I x g)⟩
def aEd(I O:Aa)(pre:DenS (I++[(false,.box .bool)])->Bool)(F:DenS (I++[(false,.box .bool)])->DenS O)(b:Bool):Sum:=
 ⟨I,O,fun x=>pre (YW (τ:=.box .bool) I x b),fun x=>F (YW (τ:=.box .bool) I x b)⟩
theorem DI{P:Program}{G:List (Nat×Sigma fun τ=>List (Ab τ))}{f:FuncId}{S:Sum}(h:Sound P G f S):FnSound P G f [] S:=
 ⟨fun x hp w St ys rs ps h1 h2 h3 h4 h5 h6=>by
  have:ps=[]:=cq h6.1
  subst this
  rw[dk]
  exact h.calls x hp w St ys rs h1 h2 h3 h4 h5⟩
theorem aLF{w:World}{S:Nat->Prop}{n:Nat}{ps:List Value}(h:Wj w S [n] ps):∃r vs T fz,ps=[.pointer (some ⟨r,0,none⟩)]/\S r/\w.heap[r]? = some (.cells vs T fz)/\vs[0]? = some (Oz n):=by
 obtain⟨h1,h2⟩:=h;obtain⟨r,vs,T,fz,e1,e2,e3,e4⟩:=h2 0 n rfl;cases ps with
 |nil=>simp at e1
 |cons p ps=>
  have:ps=[]:=cq (by simpa using h1);subst this;simp at e1;subst e1;exact⟨r,vs,T,fz,rfl,e2,e3,e4⟩
theorem aLw{w:World}{S:Nat->Prop}{τ:Shape}{d:Ab τ}{v:Value}(hd:A8 w S τ d [v]){r:Nat}{vs:Array Value}{T:TypeId}{fz:Nat×Nat}(h1:S r)(h2:w.heap[r]? = some (.cells vs T fz))(h3:vs[0]? = some v):FZ w S false (.box τ) d (.pointer (some ⟨r,0,none⟩)) []:=
 ⟨rfl,r,0,vs,T,fz,[v],rfl,h1,h2,hd,fun j d hj=>by
  cases j with
  |zero=>simp at hj;subst hj;exact h3
  |succ j=>simp at hj⟩
theorem Le{P:Program}{G:List (Nat×Sigma fun τ=>List (Ab τ))}{f:FuncId}{I O:Aa}{pre:DenS (I++[(false,.box .pfn)])->Bool}{F:DenS (I++[(false,.box .pfn)])->DenS O}(h:Sound P G f ⟨I++[(false,.box .pfn)],O,pre,F⟩)(g:Nat):FnSound P G f [g+2] (Jh I O pre F g):=
 ⟨fun x hp w St ys rs ps h1 h2 h3 h4 h5 h6=>by
  obtain⟨r,vs,T,fz,rfl,e2,e3,e4⟩:=aLF h6
  have hb:FZ w St false (.box .pfn) g (.pointer (some ⟨r,0,none⟩)) []:=aLw (τ:=.pfn) (d:=g) (v:=.func (.func g) #[] #[]) rfl e2 e3 e4
  exact h.calls _ hp w St _ rs h1 h2 (aDX (τ:=.box .pfn) hb h3) h4 h5⟩
theorem aMv{P:Program}{G:List (Nat×Sigma fun τ=>List (Ab τ))}{f:FuncId}{I O:Aa}{pre:DenS (I++[(false,.box .bool)])->Bool}{F:DenS (I++[(false,.box .bool)])->DenS O}(h:Sound P G f ⟨I++[(false,.box .bool)],O,pre,F⟩)(b:Bool):FnSound P G f [bif b then 1 else 0] (aEd I O pre F b):=
 ⟨fun x hp w St ys rs ps h1 h2 h3 h4 h5 h6=>by
  obtain⟨r,vs,T,fz,rfl,e2,e3,e4⟩:=aLF h6
  have hb:FZ w St false (.box .bool) b (.pointer (some ⟨r,0,none⟩)) []:=aLw (τ:=.bool) (d:=b) (v:=.bool b) rfl e2 e3 (by rw[e4];cases b<;>rfl)
  exact h.calls _ hp w St _ rs h1 h2 (aDX (τ:=.box .bool) hb h3) h4 h5⟩
end Vx
namespace Vx
open Go
abbrev V6:Aa:=[(false,.int .u64),(false,.int .u64),(false,.int .u64)]
abbrev YV:Aa:=[(false,.int .u64),(false,.int .u64)]
def aLb:Sum:={ins:=V6,outs:=YV,pre:=fun x=>decide (0<=x.2.2.1)&&decide (x.2.2.1<=1),F:=fun x=>((x.1+x.2.1+x.2.2.1)%18446744073709551616,(x.1+x.2.1+x.2.2.1)/18446744073709551616,())}
def aDZ:Array Value->Sem Value:=fun args=>do
 let (x, y, b) ← Extern.MathBitsCarry.three "Sub64" args
 pure (Extern.MathBitsCarry.pair ((x+Extern.MathBitsCarry.m64-y-b)%Extern.MathBitsCarry.m64) (if x<y+b then 1 else 0))
theorem bFN{P:Program}(x y c:Int)(hx:0<=x)(hy:0<=y)(hyl:y<=18446744073709551615)(hc0:0<=c)(hc:c<=1)(w:World):
  (aDZ #[.int .u64 x,.int .u64 y,.int .u64 c]).run P w =
   .ok (.tuple #[.int .u64 ((x-y-c)%18446744073709551616),.int .u64 (if x<y+c then 1 else 0)]) w:=by
 have key:∀k:Nat,k<=1->(aDZ #[.int .u64 x,.int .u64 y,.int .u64 (k:Int)]).run P w =
   .ok (Extern.MathBitsCarry.pair ((x.toNat+Extern.MathBitsCarry.m64-y.toNat-k)%Extern.MathBitsCarry.m64) (if x.toNat<y.toNat+k then 1 else 0)) w:=by
  intro k hk;have:k=0∨k=1:=by omega
  rcases this with rfl|rfl<;>rfl
 obtain⟨k,rfl⟩:=cd hc0;rw[key k (by omega)];obtain⟨X,rfl⟩:=cd hx;obtain⟨Y,rfl⟩:=cd hy;simp only[Extern.MathBitsCarry.pair,Extern.MathBitsCarry.m64,Int.toNat_natCast];have e1:(((X+18446744073709551616-Y-k)%18446744073709551616:Nat):Int)=((X:Int)-Y-k)%18446744073709551616:=by omega
 have e2:(((if X<Y+k then 1 else 0:Nat)):Int)=if(X:Int)<Y+k then 1 else 0:=by
  by_cases h:X<Y+k
  ·rw[if_pos h,if_pos (by omega)];rfl
  ·rw[if_neg h,if_neg (by omega)];rfl
 show Result.ok (Value.tuple #[.int .u64 (((X+18446744073709551616-Y-k)%18446744073709551616:Nat):Int),.int .u64 (((if X<Y+k then 1 else 0:Nat)):Int)]) w=_;rw[e1,e2]
def aPN:Sum:={ins:=V6,outs:=YV,pre:=fun x=>decide (0<=x.2.2.1)&&decide (x.2.2.1<=1),F:=fun x=>((x.1-x.2.1-x.2.2.1)%18446744073709551616,(if x.1<x.2.1+x.2.2.1 then 1 else 0),())}
theorem aMg {P : Program} {G : List (Nat × Sigma fun τ => List (Ab τ))} {f : FuncId} {fn : Func} {e : Array Value -> Sem Value} (hf : P.funcs[f]? = some fn) (hname : (fn.name == "runtime.NumGoroutine") = false)
  (hb:fn.body.isNone=true) (hn:Extern.findNext fn=none) (he:Extern.find fn=some e) {pre:DenS V6->Bool} {F:DenS V6->DenS YV}
  (h:∀x y c:Int,pre (x,y,c,())=true->0<=x->x<=18446744073709551615->0<=y->y<=18446744073709551615->∀w,(e #[.int .u64 x,.int .u64 y,.int .u64 c]).run P w=.ok (.tuple #[.int .u64 (F (x,y,c,())).1,.int .u64 (F (x,y,c,())).2.1]) w /\
   (0<=(F (x,y,c,())).1/\(F (x,y,c,())).1<=18446744073709551615)/\0<=(F (x,y,c,())).2.1/\(F (x,y,c,())).2.1<=18446744073709551615):Sound P G f {ins:=V6,outs:=YV,pre,F}:=by
 refine⟨fun z hz w St ys rs hSt _ hr hnd hrs=>.inr ?_⟩
 obtain⟨y1,l1,r1,q1,rfl,rfl,⟨rfl,h1⟩,y2,l2,r2,q2,rfl,rfl,⟨rfl,h2⟩,y3,l3,r3,q3,rfl,rfl,⟨rfl,h3⟩,rfl,rfl⟩:=hr
 obtain⟨x,y,c,⟨⟩⟩:=z
 obtain⟨e1,b1⟩:=h1
 obtain⟨e2,b2⟩:=h2
 obtain⟨e3,b3⟩:=h3
 cases e1;cases e2;cases e3
 obtain⟨g1,g2,g3⟩:=h x y c hz b1.1 b1.2 b2.1 b2.2 w
 refine⟨_,by rw[run_callFunc_extern hf hname hb hn he];show((e #[_,_,_]).run P w).andThen _=_;rw[g1];rfl,[.int .u64 (F (x,y,c,())).1,.int .u64 (F (x,y,c,())).2.1],[],rfl,⟨rfl,rfl,rfl,bu _,fun _ _ _=>rfl⟩,fun r hr=>by simp at hr,List.nodup_nil,?_⟩
 exact⟨_,_,[],[],rfl,rfl,⟨rfl,rfl,g2⟩,_,_,[],[],rfl,rfl,⟨rfl,rfl,g3⟩,rfl,rfl⟩
theorem aWU {P : Program} {G : List (Nat × Sigma fun τ => List (Ab τ))} {f : FuncId} {fn : Func} (hf : P.funcs[f]? = some fn) (hname : (fn.name == "runtime.NumGoroutine") = false)
  (hb:fn.body.isNone=true) (hn:Extern.findNext fn=none) (he:Extern.find fn=some add64Entry):Sound P G f aLb:=
 aMg hf hname hb hn he fun x y c hp hx hx' hy hy' w=>by
  have hp:(decide (0<=c)&&decide (c<=1))=true:=hp
  simp only[ag,decide_eq_true_eq]at hp
  refine⟨run_add64 x y c hx hy hp.1 hp.2 w,?_,?_⟩
  ·show 0<=(x+y+c)%18446744073709551616/\(x+y+c)%18446744073709551616<=18446744073709551615
   omega
  ·show 0<=(x+y+c)/18446744073709551616/\(x+y+c)/18446744073709551616<=18446744073709551615
   omega
theorem bGX {P : Program} {G : List (Nat × Sigma fun τ => List (Ab τ))} {f : FuncId} {fn : Func} (hf : P.funcs[f]? = some fn) (hname : (fn.name == "runtime.NumGoroutine") = false)
  (hb:fn.body.isNone=true) (hn:Extern.findNext fn=none) (he:Extern.find fn=some aDZ):Sound P G f aPN:=
 aMg hf hname hb hn he fun x y c hp hx hx' hy hy' w=>by
  have hp:(decide (0<=c)&&decide (c<=1))=true:=hp
  simp only[ag,decide_eq_true_eq]at hp
  refine⟨bFN x y c hx hy hy' hp.1 hp.2 w,?_,?_⟩
  ·show 0<=(x-y-c)%18446744073709551616/\(x-y-c)%18446744073709551616<=18446744073709551615
   omega
  ·show 0<=(if x<y+c then(1:Int)else 0)/\(if x<y+c then(1:Int)else 0)<=18446744073709551615
   split<;>omega
end Vx
end
