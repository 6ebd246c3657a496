/- Part 2 of the proof. What is proved: symbolic execution of the functions, proved sound; what each function of the program computes, and that every run ends with it; what these functions compute, in plain numbers. Conditions: each theorem bears its own. -/
import Derived.Test.YthajbkcpnbiobaaGreatDoorVxG1
set_option linter.all false
set_option exponentiation.threshold 1000000
noncomputable section
open Array renaming getD_eq_getD_getElem?->dj,getElem?_append->nm,size_append->ot,toList_inj->fu
open Bool renaming and_eq_true->af,not_eq_true'->dp,or_eq_true->dz
open Go.Builtin renaming append_->lg,copy_->my,firstCells->ic,growBy->qj,len_->mo,nextslicecap->ks,zeroCells->mw
open Go.IntKind renaming bits->gy,max->lk,min->mh,signed->im
open Go.Program renaming bytesOf->pp
open Go.Region renaming wanted->fx
open Go.Result renaming andThen->oa,andThen_ok->ax
open Go.Sem renaming run_bind->bu,run_pure->de
open Go.Value renaming int->mf,pointer->il
open Go.Value.slice renaming injEq->qu
open Int renaming le_refl->ob,le_trans->lm,mul_comm->nk,mul_le_mul_of_nonneg_left->lw,natCast_mul->lh
open List renaming all_eq_true->kw,append_assoc->fc,append_nil->df,drop_of_length_le->ir,eq_nil_of_length_eq_zero->cg,getD_eq_getElem?_getD->al,getElem?_append_left->cd,getElem?_append_right->bv,getElem?_cons_succ->gc,getElem?_cons_zero->fk,getElem?_drop->di,getElem?_eq_getElem->ay,getElem?_eq_some_iff->au,getElem?_replicate->le,getElem?_take_of_lt->ck,getElem?_toArray->fi,getElem_mem->iw,length_append->dx,length_take->gj,map_cons->fe,map_nil->ja,mem_append->cv,mem_cons->cn,mem_cons_of_mem->gm,mem_map->lq,nodup_append->ji,nodup_nil->ll,replicate->ar,size_toArray->ou,take->kc,take_length->dk,take_of_length_le->cw
open Nat renaming add_mul->bw,beq_refl->dh,eq_of_beq_eq_true->ah,eq_zero_or_pos->bd,le_refl->bj,le_total->nl,le_trans->fw,lt_of_le_of_lt->ao,lt_of_lt_of_le->ak,lt_or_ge->aq,min_eq_left->gz,min_eq_right->pj,min_le_left->lf,min_le_right->lv,mod_lt->bp,mul_le_mul_right->aw,succ_mul->jl,zero_add->dm,zero_le->dt
open Option renaming map_some->jh
open Option.some renaming inj->jz,injEq->ab
open Prod.mk renaming injEq->cu
namespace Vx
open Go Go.RowKit
variable {C:Cfg}{base:Base}{S0:Nat->Prop}{σ:Sit}{s:St}{a:Act}{ctx:List (Nat×Bool)}{o:Oper}{x:TV}{mem':Ai}
theorem Sf{P:Program}{e:TypeId}{τ:Shape}(eτ:CS P e=some τ):∃i,P.info? e=some i:=by
 have:Nx P 12 e=some τ:=by
  unfold CS at eτ;split at eτ
  ·rename_i τ' e';cases hb:Nat.beq (P.cellsOf e) τ'.width with
   |false=>rw[hb]at eτ;cases eτ
   |true=>rw[hb]at eτ;cases eτ;exact e'
  ·cases eτ
 unfold Nx at this;cases hu:P.underlying e with
 |none=>rw[hu]at this;cases this
 |some d=>exact aM hu
theorem aJI{P:Program}{T e:TypeId}{n:Nat}{τ:Shape}(hT:P.underlying T=some (.array n e))(eτ:CS P e=some τ){r q:Nat}{k:IntKind}{i:Int}(h0:0<=i)(h1:i<(n:Int))(w:World):
  (Instr.indexAt T (.pointer (some ⟨r,q,none⟩)) (.int k i)).run P w=.ok (.pointer (some ⟨r,q+i.toNat*τ.width,none⟩)) w:=by
 unfold Instr.indexAt;simp[Cz hT,asIntOf,Instr.sureAddr,h0,h1,E6 (Sf eτ),Kt eτ,Kl]
theorem w0{P:Program}{T e:TypeId}{n c:Nat}{τ:Shape}(hT:P.underlying T=some (.slice e))(eτ:CS P e=some τ){r q:Nat}{k:IntKind}{i:Int}(h0:0<=i)(h1:i<(n:Int))(w:World):
  (Instr.indexAt T (.slice (some ⟨r,q,none⟩) n c) (.int k i)).run P w=.ok (.pointer (some ⟨r,q+i.toNat*τ.width,none⟩)) w:=by
 unfold Instr.indexAt;simp[Cz hT,asIntOf,h0,h1,E6 (Sf eτ),Kt eτ,Kl]
theorem getD_some{α:Type}{xs:List α}{i:Nat}{d:α}(h:i<xs.length):xs[i]? = some (xs.getD i d):=by
 rw[al,ay h];rfl
theorem aJR{τ:Shape}{xs:List (Ab τ)}{r q:Nat}{vs:Array Value}{T:TypeId}{fz:Nat×Nat}{i:Nat}(hS:σ.S r)(hh:σ.w.heap[r]? = some (.cells vs T fz))(hrow:Rows σ.w σ.S τ vs q xs)(hi:i<xs.length):
  Ay σ (.iptr τ (xs.getD i τ.dflt) 0) (.pointer (some ⟨r,q+i*τ.width,none⟩)):=by
 obtain⟨ds,d1,d2⟩:=hrow i _ (getD_some (d:=τ.dflt) hi);exact⟨r,q+i*τ.width,vs,T,fz,ds,rfl,hS,hh,d1,d2⟩
theorem xA{P:Program}{T e:TypeId}{τ:Shape}{xs:List (Ab τ)}{y:Value}(hT:P.underlying T=some (.slice e))(eτ:CS P e=some τ)(hd:AM σ.w σ.S (.slice τ) xs [y]){k:IntKind}{i:Int}(h0:0<=i)(h1:i<(xs.length:Int))(w:World):
  ∃v,(Instr.indexAt T y (.int k i)).run P w=.ok v w/\Ay σ (.iptr τ (xs.getD i.toNat τ.dflt) 0) v:=by
 obtain⟨A,c,hy,hc,hl,hne⟩:=hd;cases hy;have hlt:i.toNat<xs.length:=by omega
 obtain⟨r,q,vs,T',fz,rfl,g1,g2,g3⟩:=hne (fun e=>by subst e;simp at hlt);exact⟨_,w0 hT eτ h0 h1 w,aJR g1 g2 g3 hlt⟩
theorem aXI(ho:Ok base S0 σ)(hr:RelT σ s a)(hx:Bb a ctx)(hG:aAl C σ.w σ.S){T:TypeId}{y z:Operand}(hop:o.op=.indexAddr T y z)(h:As C s ctx o=some (.ok true x mem')):By C base S0 id σ a o x mem':=by
 unfold As at h;rw[hop]at h;simp only at h;have hex:∀{v:Value},(Instr.indexAt T (a.eval y) (a.eval z)).run C.P σ.w=.ok v σ.w->(execOp a.eval o).run C.P σ.w=.ok (.value v) σ.w:=fun hv=>by
  simp only[execOp,hop];exact Bx hv
 split at h
 ·rename_i n e g i hT ec ei;obtain⟨k,hi,_⟩:=Sp hr hx ei;have hc:a.eval y=.pointer (some ⟨g,0,none⟩):=Bk hr hx ec;split at h
  ·rename_i τ xs τ' eg eτ;split at h
   ·rename_i hττ;subst hττ;cases hb:Nat.beq xs.length n with
    |false=>rw[hb]at h;cases h
    |true=>
     rw[hb]at h;simp only[cond_true,ab,Res.ok.injEq,bDc,af,decide_eq_true_eq]at h;obtain⟨⟨g1,g2⟩,rfl,rfl⟩:=h;have hn:xs.length=n:=ah hb;obtain⟨hS,vs,T',fz,hh,hrow⟩:=hG g _ _ eg;refine AO (σ':=σ) (hex (by rw[hc,hi];exact aJI hT eτ g1 g2 σ.w)) ho (Goes.refl σ).moves hr.mem ?_;exact aJR (q:=0) hS hh hrow (by omega)
   ·cases h
  ·cases h
 ·rename_i n e b i hT ec ei;obtain⟨k,hi,_⟩:=Sp hr hx ei;have hc:=Bk hr hx ec;split at h
  ·rename_i τ xs τ' eb eτ;split at h
   ·rename_i hττ;subst hττ;simp only[ab,Res.ok.injEq,af,decide_eq_true_eq]at h;obtain⟨⟨⟨g1,g2⟩,g3⟩,rfl,rfl⟩:=h;rw[←hr.mem]at eb;obtain⟨hlt,_,hm⟩:=hc;rw[eb]at hm;obtain⟨r,hβ,hy⟩:=hm;refine AO (σ':=σ) (hex (by rw[hy,hi];exact aJI hT eτ g1 g2 σ.w)) ho (Goes.refl σ).moves hr.mem ?_;refine⟨hlt,trivial,?_⟩;rw[eb];exact⟨by omega,r,hβ,by simp⟩
   ·cases h
  ·cases h
 ·rename_i e c i hT ec ei;obtain⟨k,hi,_⟩:=Sp hr hx ei;have hc:=Bk hr hx ec;split at h
  ·rename_i τ eτ;split at h
   ·rename_i b;split at h
    ·rename_i τ' xs eb;split at h
     ·rename_i hττ;subst hττ;simp only[ab,Res.ok.injEq,af,decide_eq_true_eq]at h;obtain⟨⟨g1,g2⟩,rfl,rfl⟩:=h;rw[←hr.mem]at eb;obtain⟨hlt,_,hm⟩:=hc;rw[eb]at hm;obtain⟨r,hβ⟩:=uZ (ho.ent b) eb (by omega);simp only[hβ,jh]at hm;have hy:=hm;refine AO (σ':=σ) (hex (by rw[hy,hi];exact w0 hT eτ g1 g2 σ.w)) ho (Goes.refl σ).moves hr.mem ?_;refine⟨hlt,trivial,?_⟩;rw[eb];exact⟨by omega,r,hβ,by simp⟩
     ·cases h
    ·rename_i τ' xs eb;split at h
     ·rename_i hττ;subst hττ;simp only[ab,Res.ok.injEq,af,decide_eq_true_eq]at h;obtain⟨⟨g1,g2⟩,rfl,rfl⟩:=h;rw[←hr.mem]at eb;obtain⟨σ1,a1,a2,a3,a4,a5⟩:=kC ho (.inr eb);have hc1:=a5.repC hc;obtain⟨_,_,hm⟩:=hc1;rw[a1,B4 (Dr (by rw[eb];simp)),if_pos rfl]at hm;obtain⟨v,h1,h2⟩:=xA hT eτ hm (k:=k) g1 g2 σ.w;refine AO (σ':=σ1) (v:=v) (by rw[a2];exact hex (by rw[hi];exact h1)) a4 a5.moves (by rw[a1,hr.mem]) h2
     ·cases h
    ·rename_i τ' xs eb;split at h
     ·rename_i hττ;subst hττ;simp only[ab,Res.ok.injEq,af,decide_eq_true_eq]at h;obtain⟨⟨g1,g2⟩,rfl,rfl⟩:=h;rw[←hr.mem]at eb;obtain⟨_,_,hm⟩:=hc;rw[eb]at hm;obtain⟨v,h1,h2⟩:=xA hT eτ hm (k:=k) g1 g2 σ.w;exact AO (σ':=σ) (v:=v) (hex (by rw[hi];exact h1)) ho (Goes.refl σ).moves hr.mem h2
     ·cases h
    ·cases h
   ·rename_i τ' xs;split at h
    ·rename_i hττ;subst hττ;simp only[ab,Res.ok.injEq,af,decide_eq_true_eq]at h;obtain⟨⟨g1,g2⟩,rfl,rfl⟩:=h;obtain⟨v,h1,h2⟩:=xA hT eτ hc (k:=k) g1 g2 σ.w;exact AO (σ':=σ) (v:=v) (hex (by rw[hi];exact h1)) ho (Goes.refl σ).moves hr.mem h2
    ·cases h
   ·rename_i b lo n;split at h
    ·rename_i τ' xs eb;split at h
     ·rename_i hττ;subst hττ;simp only[ab,Res.ok.injEq,af,decide_eq_true_eq]at h;obtain⟨⟨g1,g2⟩,rfl,rfl⟩:=h;rw[←hr.mem]at eb;obtain⟨hlt,_,hm⟩:=hc;rw[eb]at hm;obtain⟨q1,A,cc,hy,q2,q3,q4⟩:=hm;obtain⟨r,hβ,rfl⟩:=q4 (by omega);refine AO (σ':=σ) (hex (by rw[hy,hi];exact w0 hT eτ g1 g2 σ.w)) ho (Goes.refl σ).moves hr.mem ?_;refine⟨hlt,trivial,?_⟩;rw[eb];exact⟨by omega,r,hβ,by rw[bw];simp⟩
     ·cases h
    ·cases h
   ·cases h
  ·cases h
 ·cases h
theorem aKx{τ:Shape}{d:Ab τ}{z:Array Value}(hd:AM σ.w σ.S τ d z.toList)(_hw:0<z.size)(n:Nat):Rows σ.w σ.S τ (madeCells z (n*z.size)) 0 (ar n d):=by
 have hl:=hd.len;simp at hl;intro i x hi;rw[le]at hi;split at hi
 ·rename_i hin;cases hi;refine⟨z.toList,hd,fun j v hj=>?_⟩;have hjl:j<z.size:=by simpa using(au.1 hj).1
  rw[←hl,dm];refine aKw ?_ ?_
  ·have:=aw z.size (show i+1<=n by omega);rw[jl]at this;omega
  ·rw[Nat.add_comm,Nat.add_mul_mod_self_right,Nat.mod_eq_of_lt hjl];simpa using hj
 ·cases hi
theorem bDa{a:Act}{l c:Operand}(h:mA l c=true){n m:Int}{kn km:IntKind}(hn:a.eval l=.int kn n)(hm:a.eval c=.int km m):kn=km/\n=m:=by
 unfold mA at h;split at h
 ·rename_i t t';have:=ah h;subst this;rw[hn]at hm;cases hm;exact⟨rfl,rfl⟩
 ·simp only[af,decide_eq_true_eq]at h;obtain⟨rfl,rfl⟩:=h;have h1:=hn.symm.trans hm;cases h1;exact⟨rfl,rfl⟩
 ·cases h
theorem aXP(ho:Ok base S0 σ)(hr:RelT σ s a)(hx:Bb a ctx){T:TypeId}{l c:Operand}(hop:o.op=.makeSlice T l c)(h:As C s ctx o=some (.ok true x mem')):By C base S0 id σ a o x mem':=by
 unfold As at h;rw[hop]at h;simp only at h;split at h
 ·rename_i e n m hT en em;obtain⟨kn,hn,_⟩:=Sp hr hx en;obtain⟨km,hm,_⟩:=Sp hr hx em;split at h
  ·rename_i τ z eτ hz;split at h
   ·rename_i d ep;obtain⟨ie,zv,hi,hzv,hzr⟩:=qF hz;obtain⟨y1,y2,hyy,p1,p2⟩:=Ns (hzr σ).cells ep;cases p2;rw[df]at hyy;rw[←hyy]at p1;have hw:=Kt eτ;have hzl:=p1.len;have hsz:ie.size=C.P.cellsOf e:=by simp[Program.cellsOf,hi]
    have hby:(ie.bytes:Int)=(C.P.bytesOf e:Int):=by simp[pp,hi]
    cases hb0:(mA l c&&Nat.blt 0 (C.P.cellsOf e)&&Nat.blt 0 (C.P.bytesOf e))with
    |true=>
     rw[hb0]at h;simp only[af]at hb0;simp only[cond_true,ab,Res.ok.injEq,af,decide_eq_true_eq]at h;obtain⟨⟨g1,g2⟩,rfl,rfl⟩:=h;have hnm:kn=km/\n=m:=bDa hb0.1.1 hn hm;obtain⟨rfl,rfl⟩:=hnm;have hpos:0<C.P.cellsOf e:=by simpa using hb0.1.2
     have hbpos:0<C.P.bytesOf e:=by simpa using hb0.2
     have hnle:n<=EV:=by
      refine lm ?_ g2;have:=lw (a:=1) (b:=(C.P.bytesOf e:Int)) (c:=n) (by omega) g1;omega
     have hrun:=run_make (P:=C.P) σ.w T e ie zv hT hi hzv kn kn n n g1 (ob _) (by rw[hby,nk];unfold EV at g2;omega) (by unfold EV at hnle;omega);have hzs:zv.cells.size=C.P.cellsOf e:=by simpa[hw]using hzl
     obtain⟨k1,k2,k3,k4,k5⟩:=uY ho (T:=e) (τ:=τ) (xs:=ar n.toNat d) (vs:=madeCells zv.cells (n.toNat*ie.size)) (k:=n.toNat) (by simp) (by unfold BJ;unfold EV at hnle;omega) (by rw[size_madeCells,hsz,hw])
      (by rw[hsz,←hzs];exact aKx p1 (by omega) n.toNat)
     refine AO (σ':=σ.push (.arr τ (ar n.toNat d)) (.cells (madeCells zv.cells (n.toNat*ie.size)) e) n.toNat) ?_ k1 k2.moves (by simp[Sit.push,hr.mem]) ?_ (v:=.slice (some ⟨σ.w.heap.size,0,none⟩) n.toNat n.toNat)
     ·simp only[execOp,hop,hn,hm];exact Bx hrun
     ·rw[←hr.mem];refine⟨by simp[Sit.push],trivial,?_⟩;rw[k3];simp only[k4,k5,jh,List.length_replicate]
    |false=>
     rw[hb0]at h;simp only[cond_false]at h;cases hb:(Nat.blt 0 (C.P.cellsOf e)&&Nat.blt 0 (C.P.bytesOf e))with
     |false=>rw[hb]at h;cases h
     |true=>
      rw[hb]at h;simp only[af]at hb;simp only[cond_true,ab,Res.ok.injEq,af,decide_eq_true_eq]at h;obtain⟨⟨⟨g0,g1⟩,g2⟩,rfl,rfl⟩:=h;have hpos:0<C.P.cellsOf e:=by simpa using hb.1
      have hbpos:0<C.P.bytesOf e:=by simpa using hb.2
      have hnle:m<=EV:=by
       refine lm ?_ g2;have:=lw (a:=1) (b:=(C.P.bytesOf e:Int)) (c:=m) (by omega) (lm g0 g1);omega
      have hrun:=run_make (P:=C.P) σ.w T e ie zv hT hi hzv kn km n m g0 g1 (by rw[hby,nk];unfold EV at g2;omega) (by unfold EV at hnle;omega);have hzs:zv.cells.size=C.P.cellsOf e:=by simpa[hw]using hzl
      have hg:=WK ho (.acc τ (ar n.toNat d)) (.cells (madeCells zv.cells (m.toNat*ie.size)) e) m.toNat;have hblk:Ac (σ.push (.acc τ (ar n.toNat d)) (.cells (madeCells zv.cells (m.toNat*ie.size)) e) m.toNat).mem σ.mem.length=.acc τ (ar n.toNat d):=Is;have hrows:Rows σ.w σ.S τ (madeCells zv.cells (m.toNat*ie.size)) 0 (ar n.toNat d):=by
       have:=aKx p1 (by omega) m.toNat;rw[hsz,←hzs];intro i x hi;refine this i x ?_;rw[le]at hi⊢;split at hi
       ·rw[if_pos (by omega)];exact hi
       ·cases hi
      have hok:Ok base S0 (σ.push (.acc τ (ar n.toNat d)) (.cells (madeCells zv.cells (m.toNat*ie.size)) e) m.toNat):=by
       refine bF ho _ _ _ ?_;unfold AA;rw[hblk];refine⟨by simp[Sit.push,AD];omega,by simp[Sit.push,AD];unfold BJ;unfold EV at hnle;omega,.inr ⟨σ.w.heap.size,_,e,by simp[Sit.push,AD],So,?_,hrows.mono hg.stab hg.heap⟩⟩;rw[size_madeCells,hsz,hw];simp[Sit.push,AD]
      refine AO (σ':=σ.push (.acc τ (ar n.toNat d)) (.cells (madeCells zv.cells (m.toNat*ie.size)) e) m.toNat) ?_ hok hg.moves (by simp[Sit.push,hr.mem]) ?_ (v:=.slice (some ⟨σ.w.heap.size,0,none⟩) n.toNat m.toNat)
      ·simp only[execOp,hop,hm,hn];exact Bx hrun
      ·rw[←hr.mem];refine⟨by simp[Sit.push],trivial,?_⟩;rw[hblk];simp[Sit.push,AD]
   ·cases h
  ·cases h
 ·cases h
theorem aXC(ho:Ok base S0 σ)(hr:RelT σ s a)(hx:Bb a ctx){y:Operand}{i:Nat}(hop:o.op=.extract y i)(h:As C s ctx o=some (.ok true x mem')):By C base S0 id σ a o x mem':=by
 unfold As at h;rw[hop]at h;simp only at h;split at h
 ·rename_i l e;split at h
  ·rename_i v ev;simp only[ab,Res.ok.injEq,true_and]at h;obtain⟨rfl,rfl⟩:=h;obtain⟨_,ys,hy,ha⟩:=VC hr hx e;obtain⟨u,hu,hR⟩:=ha.get ev;refine AO (σ':=σ) (v:=u) ?_ ho (Goes.refl σ).moves hr.mem hR;simp only[execOp,hop,hy];refine Bx ?_;simp[Instr.extract,hu]
  ·cases h
 ·rename_i c j r e;have hR:=VC hr hx e;split at h
  ·simp only[ab,Res.ok.injEq,true_and]at h;obtain⟨rfl,rfl⟩:=h;refine AO (σ':=σ) (v:=.bool c) ?_ ho (Goes.refl σ).moves hr.mem ⟨rfl,trivial⟩;simp only[execOp,hop];refine Bx ?_;cases c with
   |true=>rw[hR.1];rfl
   |false=>rw[show _=_ from hR];rfl
  ·simp only[ab,Res.ok.injEq]at h;obtain⟨rfl,rfl,rfl⟩:=h;refine AO (σ':=σ) (v:=.int .i64 j) ?_ ho (Goes.refl σ).moves hr.mem ⟨rfl,hR.2.1⟩;simp only[execOp,hop];refine Bx ?_;rw[hR.1];rfl
  ·simp only[ab,Res.ok.injEq]at h;obtain⟨rfl,rfl,rfl⟩:=h;refine AO (σ':=σ) (v:=.int .i32 r) ?_ ho (Goes.refl σ).moves hr.mem ⟨rfl,hR.2.2⟩;simp only[execOp,hop];refine Bx ?_;rw[hR.1];rfl
  ·cases h
 ·cases h
theorem aXH(ho:Ok base S0 σ)(hr:RelT σ s a)(hx:Bb a ctx){T:TypeId}{y z:Operand}(hop:o.op=.index T y z)(h:As C s ctx o=some (.ok true x mem')):By C base S0 id σ a o x mem':=by
 unfold As at h;rw[hop]at h;simp only at h;split at h
 ·rename_i str i hT ec ei;obtain⟨k,hi,_⟩:=Sp hr hx ei;obtain⟨hy,_⟩:=Bk hr hx ec;simp only[ab,Res.ok.injEq,af,decide_eq_true_eq]at h;obtain⟨⟨g1,g2⟩,rfl,rfl⟩:=h;have hlt:i.toNat<str.size:=by omega
  have hb:str.data.toList.getD i.toNat 0=str[i.toNat]:=by
   rw[al,ay (by simpa using hlt)];rfl
  refine AO (σ':=σ) (v:=.int .u8 ((str.data.toList.getD i.toNat 0).toNat:Int)) ?_ ho (Goes.refl σ).moves hr.mem ⟨rfl,?_⟩
  ·simp only[execOp,hop,hy,hi];refine Bx ?_;unfold Instr.index;simp only[bu,asIntOf,de,ax,Cz hT];rw[if_pos g1,getElem?_pos str i.toNat hlt];rw[hb];rfl
  ·generalize str.data.toList.getD i.toNat 0=u;have:=u.toNat_lt;simp only[IQ,mh,lk,im,gy];simp;omega
 ·cases h
theorem aXD(ho:Ok base S0 σ)(hr:RelT σ s a)(hx:Bb a ctx){T:TypeId}{y:Operand}{i:Nat}(hop:o.op=.field T y i)(h:As C s ctx o=some (.ok true x mem')):By C base S0 id σ a o x mem':=by
 unfold As at h;rw[hop]at h;simp only at h;split at h
 ·rename_i cs d ft ec ef;obtain⟨ys,hy,ha⟩:=He hr hx ec;have hfd:∃fs f,C.P.underlying T=some (.struct fs)/\fs[i]? = some f/\f.offset=d/\f.type=ft:=by
   unfold ZY at ef;split at ef
   ·rename_i fs e;split at ef
    ·rename_i f eff;cases hb:Nat.beq (C.P.cellsOf f.type) 0 with
     |true=>rw[hb]at ef;cases ef
     |false=>rw[hb]at ef;cases ef;exact⟨fs,f,e,by simpa using eff,rfl,rfl⟩
    ·cases ef
   ·cases ef
  obtain⟨fs,f,hu,hf,rfl,rfl⟩:=hfd;have hex:∀{v:Value},(part f.type ys.toArray f.offset).run C.P σ.w=.ok v σ.w->(execOp a.eval o).run C.P σ.w=.ok (.value v) σ.w:=fun hv=>by
   simp only[execOp,hop,hy];refine Bx ?_;unfold Instr.field;simp[Cz hu,hf,asAgg,hv]
  split at h
  ·rename_i hT;split at h
   ·rename_i l et;simp only[ab,Res.ok.injEq,true_and]at h;obtain⟨rfl,rfl⟩:=h;obtain⟨v,h1,h2⟩:=x7 ha hT et σ.w;exact AO (σ':=σ) (v:=v) (hex h1) ho (Goes.refl σ).moves hr.mem h2
   ·cases h
  ·rename_i hT;split at h
   ·rename_i c l et;simp only[ab,Res.ok.injEq,true_and]at h;obtain⟨rfl,rfl⟩:=h;obtain⟨v,h1,h2⟩:=x8 ha hT et σ.w;exact AO (σ':=σ) (v:=v) (hex h1) ho (Goes.refl σ).moves hr.mem h2
   ·cases h
  ·cases h
 ·cases h
end Vx
namespace Vx
open Go Go.RowKit
variable {C:Cfg}{base:Base}{S0:Nat->Prop}{σ:Sit}{s:St}{a:Act}{ctx:List (Nat×Bool)}{o:Oper}{x:TV}{mem':Ai}
theorem aN6{c:Nat}(h:Utf8.valid (c:Int)=true):c<=1114111:=by
 unfold Utf8.valid at h;simp only[dz,af,decide_eq_true_eq]at h;omega
theorem aUY(str:ByteArray)(i:Nat):(Utf8.decode str i).1<=1114111:=by
 unfold Utf8.decode;dsimp only;split
 ·simp only;omega
 ·split
  ·split
   ·simp only;omega
   ·simp[Utf8.runeError]
  ·split
   ·split
    ·rename_i h;simp only[af]at h;exact aN6 h.2
    ·simp[Utf8.runeError]
   ·split
    ·split
     ·rename_i h;simp only[af]at h;exact aN6 h.2
     ·simp[Utf8.runeError]
    ·simp[Utf8.runeError]
def Sit.iterAt(σ:Sit)(b r:Nat)(str:ByteArray)(p:Nat):Sit:={E:=σ.E,mem:=σ.mem.set b (.itr str p),w:=CX σ.w r (.stringIter str p),S:=σ.S}
theorem aWC(ho:Ok base S0 σ){b r p q:Nat}{str:ByteArray}(e:Ac σ.mem b=.itr str p)(hb:σ.owned b r):
  Ok base S0 (σ.iterAt b r str q)/\Goes σ (σ.iterAt b r str q):=by
 have hlt:b<σ.mem.length:=Dr (by rw[e];simp);have hrs:=ho.own b r hb;have hset:∀b',Ac (σ.iterAt b r str q).mem b'=if b'=b then .itr str q else Ac σ.mem b':=fun b'=>B4 hlt;have hg:Goes σ (σ.iterAt b r str q):=by
  refine⟨fun _ h=>h,fun r' hr'=>Nm (fun e=>hrs.2.2 (e▸hr')),by simp[Sit.iterAt],fun b' hb'=>?_⟩;by_cases hbb:b'=b
  ·subst hbb;unfold Bm;rw[e];exact .inl ⟨rfl,str,q,by rw[hset,if_pos rfl]⟩
  ·exact Bm.refl (by rw[hset,if_neg hbb]) rfl rfl
 have hold:∀b' r',(σ.iterAt b r str q).owned b' r'->σ.owned b' r':=fun b' r' h=>by
  obtain⟨h1,h2⟩:=h;rw[hset]at h1;split at h1
  ·rename_i hbb;subst hbb;exact⟨hb.1,h2⟩
  ·exact⟨h1,h2⟩
 refine⟨⟨ho.below.step rfl rfl rfl (by simp[Sit.iterAt,CX]) (fun k _ hn=>Nm (fun e=>hn (e▸hrs.1))),ho.stab0,fun r' h=>?_,fun b'=>?_,fun b' r' h=>?_,fun b1 b2 r' h1 h2=>ho.inj b1 b2 r' (hold _ _ h1) (hold _ _ h2)⟩,hg⟩
 ·have:=ho.stab r' h;exact⟨by simp only[Sit.iterAt,bR];exact this.1,this.2⟩
 ·by_cases hbb:b'=b
  ·subst hbb;have he:=ho.ent b';unfold AA at he⊢;rw[e]at he;rw[hset,if_pos rfl];exact⟨he.1,r,hb.2,TN hrs.2.1⟩
  ·refine AA.keep hg (by rw[hset,if_neg hbb]) rfl rfl (fun r' hr'=>Nm (fun e=>hbb (ho.inj b' b r (e▸hr') hb))) (ho.ent b')
 ·have:=ho.own b' r' (hold _ _ h);exact⟨this.1,by simp only[Sit.iterAt,bR];exact this.2.1,this.2.2⟩
theorem aXV(ho:Ok base S0 σ)(hr:RelT σ s a)(hx:Bb a ctx){T:TypeId}{y:Operand}(hop:o.op=.range T y)(h:As C s ctx o=some (.ok true x mem')):By C base S0 id σ a o x mem':=by
 unfold As at h;rw[hop]at h;simp only at h;split at h
 ·rename_i str hT ec;simp only[ab,Res.ok.injEq,true_and]at h;obtain⟨rfl,rfl⟩:=h;obtain⟨hy,hw⟩:=Bk hr hx ec;have hg:=WK ho (.itr str 0) (.stringIter str 0) 0;have hblk:Ac (σ.push (.itr str 0) (.stringIter str 0) 0).mem σ.mem.length=.itr str 0:=Is;have hheap:(σ.push (.itr str 0) (.stringIter str 0) 0).w.heap[σ.w.heap.size]? = some (.stringIter str 0):=So;refine AO (σ':=σ.push (.itr str 0) (.stringIter str 0) 0) (v:=.pointer (some ⟨σ.w.heap.size,0,none⟩)) ?_ (bF ho _ _ _ ?_) hg.moves (by simp[Sit.push,hr.mem]) ?_
  ·simp only[execOp,hop,hy];refine Bx ?_;unfold Instr.range;simp only[bu,Cz hT,ax,de];simp[newObj,Sem.run,Sit.push]
  ·unfold AA;rw[hblk];exact⟨hw,σ.w.heap.size,by simp[Sit.push,AD],hheap⟩
  ·rw[←hr.mem];refine⟨by simp[Sit.push],⟨_,rfl⟩,?_⟩;rw[hblk];exact⟨σ.w.heap.size,by simp[Sit.push,AD],rfl⟩
 ·cases h
theorem aXS(ho:Ok base S0 σ)(hr:RelT σ s a)(hx:Bb a ctx){y:Operand}{st:Bool}(hop:o.op=.next y st)(h:As C s ctx o=some (.ok true x mem')):By C base S0 id σ a o x mem':=by
 unfold As at h;rw[hop]at h;simp only at h;split at h
 ·rename_i b ec;split at h
  ·rename_i str pos eb;simp only[ab,Res.ok.injEq,true_and]at h;obtain⟨rfl,rfl⟩:=h;obtain⟨_,_,hm⟩:=Bk hr hx ec;rw[←hr.mem]at eb⊢;rw[eb]at hm;obtain⟨r,hβ,hy⟩:=hm;have he:=ho.ent b;unfold AA at he;rw[eb]at he;obtain⟨hsz,r',hβ',hheap⟩:=he;rw[hβ]at hβ';cases hβ';have hown:σ.owned b r:=⟨by rw[eb];trivial,hβ⟩
   cases hp:Nat.blt pos str.size with
   |true=>
    have hlt:pos<str.size:=by simpa using hp
    obtain⟨k1,k2⟩:=aWC ho (q:=pos+(Utf8.decode str pos).2) eb hown;refine AO (σ':=σ.iterAt b r str (pos+(Utf8.decode str pos).2)) (v:=.tuple #[.bool true,.int .i64 pos,.int .i32 (Utf8.decode str pos).1]) ?_ k1 k2.moves (by simp[Sit.iterAt]) ?_
    ·simp only[execOp,hop,hy];refine Bx ?_;simp only[Instr.next,getObj,setObj,bu,Sem.run,hheap,oa];rw[if_pos hlt];simp only[bu,setObj,Sem.run,hheap,oa,de];rfl
    ·have h1:=aUY str pos;refine⟨rfl,?_,?_⟩
     ·unfold BJ at hsz;simp only[IQ,mh,lk,im,gy];simp;omega
     ·simp only[IQ,mh,lk,im,gy];simp;omega
   |false=>
    have hlt:¬pos<str.size:=fun h=>by rw[show Nat.blt pos str.size=true by simpa using h]at hp;cases hp
    have hmem:σ.mem.set b (.itr str pos)=σ.mem:=bP eb (by simp);refine AO (σ':=σ) (v:=.tuple #[.bool false]) ?_ ho (Goes.refl σ).moves (by show σ.mem=σ.mem.set b (.itr str pos);exact hmem.symm) rfl;simp only[execOp,hop,hy];refine Bx ?_;simp only[Instr.next,getObj,setObj,bu,Sem.run,hheap,oa];rw[if_neg hlt];rfl
  ·cases h
 ·cases h
end Vx
namespace Vx
open Go Go.RowKit
variable {C:Cfg}{base:Base}{S0:Nat->Prop}{σ:Sit}{s:St}{a:Act}{ctx:List (Nat×Bool)}{o:Oper}{x:TV}{mem':Ai}
theorem IM{P:Program}{c:Call}{b:Builtin}(hop:o.op=.call c)(hc:c.callee=.builtin b)(w:World):
  ∃cs:Array Bool,(execOp a.eval o).run P w=(builtin b c.argTypes o.type cs (c.args.map a.eval)).run P w:=by
 simp only[execOp,hop,resolve,hc];simp only[bu,de,ax,invoke];exact⟨_,rfl⟩
theorem Ip{c:Call}{l:List Operand}(h:c.args.toList=l):c.args.map a.eval=(l.map a.eval).toArray:=by
 apply fu.1;simp[h]
theorem W5{c:Call}{l:List TypeId}(h:c.argTypes.toList=l):c.argTypes=l.toArray:=by
 apply fu.1;simp[h]
theorem Sq{n:Nat}(h:n<BJ):IQ (.int .i64 (n:Int)):=by
 simp only[IQ,mh,lk,im,gy];unfold BJ at h;simp;omega
theorem aXK(ho:Ok base S0 σ)(hr:RelT σ s a)(hx:Bb a ctx){c:Call}(hop:o.op=.call c)(hc:c.callee=.builtin .len)(h:As C s ctx o=some (.ok true x mem')):By C base S0 id σ a o x mem':=by
 unfold As at h;rw[hop]at h;simp only[hc]at h;have hex:∀{y:Operand} {T:TypeId} {v:Value},c.args.toList=[y]->c.argTypes.toList=[T]->(mo #[T] o.type #[a.eval y]).run C.P σ.w=.ok v σ.w->(execOp a.eval o).run C.P σ.w=.ok (.value v) σ.w:=
  fun h1 h2 hv=>by
   obtain⟨cs,hcs⟩:=IM (a:=a) (P:=C.P) hop hc σ.w;rw[hcs,Ip h1,W5 h2];simp only[builtin];exact Bx hv
 split at h
 ·rename_i y T e1 e2;split at h
  ·rename_i n e hT;cases hb:Nat.blt n 9223372036854775808 with
   |false=>rw[hb]at h;cases h
   |true=>
    rw[hb]at h;simp only[cond_true,ab,Res.ok.injEq,true_and]at h;obtain⟨rfl,rfl⟩:=h;refine AO (σ':=σ) (v:=.int .i64 (n:Int)) (hex e1 e2 ?_) ho (Goes.refl σ).moves hr.mem ⟨rfl,Sq (by simpa[BJ]using hb)⟩;unfold mo;simp[Cz hT,goInt]
  ·rename_i e hT;split at h
   ·rename_i q eq;split at h
    ·cases h
    ·rename_i b lo n;split at h
     ·rename_i τ' xs eb;simp only[ab,Res.ok.injEq,true_and]at h;obtain⟨rfl,rfl⟩:=h;have hq:=Bk hr hx eq;rw[←hr.mem]at eb;obtain⟨_,_,hm⟩:=hq;rw[eb]at hm;obtain⟨q1,A,cc,hy,q2,q3,q4⟩:=hm;refine AO (σ':=σ) (v:=.int .i64 (n:Int)) (hex e1 e2 ?_) ho (Goes.refl σ).moves hr.mem ⟨rfl,Sq (by omega)⟩;rw[hy];unfold mo;simp[Cz hT,goInt]
     ·cases h
    ·rename_i hns hns2;split at h
     ·rename_i n en;simp only[ab,Res.ok.injEq,true_and]at h;obtain⟨rfl,rfl⟩:=h;have hq:=Bk hr hx eq;rw[←hr.mem]at en;obtain⟨A,k,hy⟩:=aWK hq (fun str e=>hns str e) en;refine AO (σ':=σ) (v:=.int .i64 (n:Int)) (hex e1 e2 ?_) ho (Goes.refl σ).moves hr.mem ⟨rfl,Sq (aWJ ho hq en)⟩;rw[hy];unfold mo;simp[Cz hT,goInt]
     ·cases h
   ·cases h
  ·rename_i hT;split at h
   ·rename_i str es;simp only[ab,Res.ok.injEq,true_and]at h;obtain⟨rfl,rfl⟩:=h;obtain⟨hy,hl⟩:=Bk hr hx es;refine AO (σ':=σ) (v:=.int .i64 (str.size:Int)) (hex e1 e2 ?_) ho (Goes.refl σ).moves hr.mem ⟨rfl,Sq hl⟩;rw[hy];unfold mo;simp[Cz hT,goInt]
   ·cases h
  ·cases h
 ·cases h
theorem aXR(ho:Ok base S0 σ)(hr:RelT σ s a)(hx:Bb a ctx){c:Call}(hop:o.op=.call c)(hc:c.callee=.builtin .min)(h:As C s ctx o=some (.ok true x mem')):By C base S0 id σ a o x mem':=by
 unfold As at h;rw[hop]at h;simp only[hc]at h;split at h
 ·rename_i y z e1;split at h
  ·rename_i k p k' q ep eq;split at h
   ·rename_i hk;subst hk;simp only[ab,Res.ok.injEq,true_and]at h;obtain⟨rfl,rfl⟩:=h;obtain⟨hp,wp⟩:=Bk hr hx ep;obtain⟨hq,wq⟩:=Bk hr hx eq;refine AO (σ':=σ) (v:=.int k' (if q<p then q else p)) ?_ ho (Goes.refl σ).moves hr.mem ⟨rfl,?_⟩
    ·obtain⟨cs,hcs⟩:=IM (a:=a) (P:=C.P) hop hc σ.w;rw[hcs,Ip e1];simp only[builtin];refine Bx ?_;simp only[Builtin.min_,fe,ja,hp,hq];simp[Builtin.min2]
    ·split
     ·exact wq
     ·exact wp
   ·cases h
  ·cases h
 ·cases h
theorem aXQ(ho:Ok base S0 σ)(hr:RelT σ s a)(hx:Bb a ctx){c:Call}(hop:o.op=.call c)(hc:c.callee=.builtin .max)(h:As C s ctx o=some (.ok true x mem')):By C base S0 id σ a o x mem':=by
 unfold As at h;rw[hop]at h;simp only[hc]at h;split at h
 ·rename_i y z e1;split at h
  ·rename_i k p k' q ep eq;split at h
   ·rename_i hk;subst hk;simp only[ab,Res.ok.injEq,true_and]at h;obtain⟨rfl,rfl⟩:=h;obtain⟨hp,wp⟩:=Bk hr hx ep;obtain⟨hq,wq⟩:=Bk hr hx eq;refine AO (σ':=σ) (v:=.int k' (if q>p then q else p)) ?_ ho (Goes.refl σ).moves hr.mem ⟨rfl,?_⟩
    ·obtain⟨cs,hcs⟩:=IM (a:=a) (P:=C.P) hop hc σ.w;rw[hcs,Ip e1];simp only[builtin];refine Bx ?_;simp only[Builtin.max_,fe,ja,hp,hq];simp[Builtin.max2]
    ·split
     ·exact wq
     ·exact wp
   ·cases h
  ·cases h
 ·cases h
theorem aXz(ho:Ok base S0 σ)(hr:RelT σ s a)(hx:Bb a ctx){c:Call}(hop:o.op=.call c)(hc:c.callee=.builtin .complex)(h:As C s ctx o=some (.ok true x mem')):By C base S0 id σ a o x mem':=by
 unfold As at h;rw[hop]at h;simp only[hc]at h;split at h
 ·rename_i y z e1;split at h
  ·rename_i k p k' q ep eq;split at h
   ·rename_i hk;subst hk;simp only [ab,Res.ok.injEq,true_and] at h;obtain ⟨rfl,rfl⟩:=h;obtain ⟨b1,hp,wp⟩:=Bk hr hx ep;obtain ⟨b2,hq,wq⟩:=Bk hr hx eq;refine AO (σ':=σ) (v:=.complex k' b1 b2) ?_ ho (Goes.refl σ).moves hr.mem ⟨b1,b2,rfl,⟨b1,rfl,wp⟩,⟨b2,rfl,wq⟩⟩;obtain ⟨cs,hcs⟩:=IM (a:=a) (P:=C.P) hop hc σ.w;rw [hcs,Ip e1];simp only [builtin];refine Bx ?_;simp only [fe,ja,hp,hq];show ((if k' = k' then pure (.complex k' b1 b2) else stuck "complex: parts of different kinds" : Sem Value)).run C.P σ.w = _;rw [if_pos rfl]; rfl
   ·cases h
  ·cases h
 ·cases h
theorem aXW(ho:Ok base S0 σ)(hr:RelT σ s a)(hx:Bb a ctx){c:Call}(hop:o.op=.call c)(hc:c.callee=.builtin .real)(h:As C s ctx o=some (.ok true x mem')):By C base S0 id σ a o x mem':=by
 unfold As at h;rw[hop]at h;simp only[hc]at h;split at h
 ·rename_i y e1;split at h
  ·rename_i k p q ep;simp only[ab,Res.ok.injEq,true_and]at h;obtain⟨rfl,rfl⟩:=h;obtain⟨b1,b2,hp,wp,wq⟩:=Bk hr hx ep;refine AO (σ':=σ) (v:=.float k b1) ?_ ho (Goes.refl σ).moves hr.mem wp;obtain⟨cs,hcs⟩:=IM (a:=a) (P:=C.P) hop hc σ.w;rw[hcs,Ip e1];simp only[builtin];refine Bx ?_;simp only[fe,ja,hp];rfl
  ·cases h
 ·cases h
theorem aXG(ho:Ok base S0 σ)(hr:RelT σ s a)(hx:Bb a ctx){c:Call}(hop:o.op=.call c)(hc:c.callee=.builtin .imag)(h:As C s ctx o=some (.ok true x mem')):By C base S0 id σ a o x mem':=by
 unfold As at h;rw[hop]at h;simp only[hc]at h;split at h
 ·rename_i y e1;split at h
  ·rename_i k p q ep;simp only[ab,Res.ok.injEq,true_and]at h;obtain⟨rfl,rfl⟩:=h;obtain⟨b1,b2,hp,wp,wq⟩:=Bk hr hx ep;refine AO (σ':=σ) (v:=.float k b2) ?_ ho (Goes.refl σ).moves hr.mem wq;obtain⟨cs,hcs⟩:=IM (a:=a) (P:=C.P) hop hc σ.w;rw[hcs,Ip e1];simp only[builtin];refine Bx ?_;simp only[fe,ja,hp];rfl
  ·cases h
 ·cases h
theorem aLH:∀{l:List SV} {ys:List Value} {cl:List (Nat×Nat)},All2 (Be σ) l ys->DX σ.mem l=some cl ->
  (∀p∈cl,p.1<σ.mem.length)/\∃rs:List Nat,cl.map (fun p=>σ.E.β p.1)=rs.map some/\ys=(cl.zip rs).map fun q=>il (some ⟨q.2,q.1.2,none⟩)
 | [],_,cl,.nil,h=>by simp[DX]at h;subst h;exact⟨by simp,[],rfl,rfl⟩
 |.one (.ptr b off)::r,_,cl,.cons hc ht,h=>by
  simp only[DX]at h
  split at h
  ·rename_i cs l e1 e2
   cases h
   obtain⟨g1,rs,g2,g3⟩:=aLH ht e2
   obtain⟨q,hq,hy⟩:=Ay.ptr_raw hc e1
   refine⟨?_,q::rs,?_,?_⟩
   ·intro p hp
    rcases cn.1 hp with rfl|hp
    ·exact hc.1
    ·exact g1 p hp
   ·simp[hq,g2]
   ·simp[hy,g3]
  ·cases h
 |.one .undef::_,_,_,_,h=>by simp[DX]at h
 |.one (.v _)::_,_,_,_,h=>by simp[DX]at h
 |.one (.fl _ _)::_,_,_,_,h=>by simp[DX]at h
 |.one (.sl _ _)::_,_,_,_,h=>by simp[DX]at h
 |.one (.own _)::_,_,_,_,h=>by simp[DX]at h
 |.one (.eptr _ _ _)::_,_,_,_,h=>by simp[DX]at h
 |.one (.iptr _ _ _)::_,_,_,_,h=>by simp[DX]at h
 |.one (.sub _ _ _)::_,_,_,_,h=>by simp[DX]at h
 |.one (.gptr _)::_,_,_,_,h=>by simp[DX]at h
 |.one (.fnv _)::_,_,_,_,h=>by simp[DX]at h
 |.one (.ifv _)::_,_,_,_,h=>by simp[DX]at h
 |.one (.cx _ _ _)::_,_,_,_,h=>by simp[DX]at h
 |.one (.fn _ _)::_,_,_,_,h=>by simp[DX]at h
 |.agg _::_,_,_,_,h=>by simp[DX]at h
theorem aXN(ho:Ok base S0 σ)(hr:RelT σ s a)(hx:Bb a ctx){fn:Fn}{first captured:Array Operand}(hop:o.op=.makeFunc fn first captured)(h:As C s ctx o=some (.ok true x mem')):By C base S0 id σ a o x mem':=by
 unfold As at h;rw[hop]at h;simp only at h;split at h
 ·rename_i f hf;split at h
  ·rename_i vs ev;split at h
   ·rename_i cl ecl;simp only[ab,Res.ok.injEq,true_and]at h;obtain⟨rfl,rfl⟩:=h;rw[←hr.mem]at ecl;obtain⟨g1,rs,g2,g3⟩:=aLH (TE hr hx ev) ecl;have e1:first.map a.eval=#[]:=by apply fu.1;simp[hf]
    have e2:captured.map a.eval=((cl.zip rs).map fun q=>il (some ⟨q.2,q.1.2,none⟩)).toArray:=by
     apply fu.1;simpa using g3
    refine AO (σ':=σ) (v:=.func (.func f) #[] ((cl.zip rs).map fun q=>il (some ⟨q.2,q.1.2,none⟩)).toArray) ?_ ho (Goes.refl σ).moves hr.mem ⟨g1,trivial,.inr ⟨rs,g2,rfl⟩⟩;simp only[execOp,hop,e1,e2];exact Bx rfl
   ·cases h
  ·cases h
 ·cases h
end Vx
namespace Vx
open Go Go.RowKit
variable {C:Cfg}{base:Base}{S0:Nat->Prop}{σ:Sit}{s:St}{a:Act}{ctx:List (Nat×Bool)}{o:Oper}{x:TV}{mem':Ai}
theorem yP:∀(L:List Value) (vs:Array Value) (p q:Nat),p+L.length<=vs.size->(CK vs p L)[q]? = if p<=q/\q<p+L.length then L[q-p]? else vs[q]?:=by
 intro L vs p q h;rw[←Array.getElem?_toList,WL L vs p h,fc];split
 ·rename_i hq;rw[bv (by simp;omega)];have:(kc p vs.toList).length=p:=by simp;omega
  rw[this,cd (by omega)]
 ·rename_i hq;rcases aq q p with hlt|hge
  ·rw[cd (by simp;omega),ck hlt];simp
  ·rw[bv (by simp;omega)];have:(kc p vs.toList).length=p:=by simp;omega
   rw[this,bv (by omega),di];rw[show p+L.length+(q-p-L.length)=q by omega];simp
def Ut(w:World)(S:Nat->Prop)(e:Shape)(L:List Value)(xs:List (Ab e)):Prop:=∀i x,xs[i]? = some x->∃ds,AM w S e x ds/\∀j d,ds[j]? = some d->L[i*e.width+j]? = some d
theorem SH{i k w j:Nat}(h:i<k)(hj:j<w):i*w+j<k*w:=by
 have:=aw w (show i+1<=k by omega);rw[jl]at this;omega
theorem aIN{P:Program}{w:World}{S:Nat->Prop}{e:Shape}{ys:List (Ab e)}{A:Option Addr}{m c:Nat}(hne:ys≠[]->∃r q vs T fz,A=some ⟨r,q,none⟩/\w.heap[r]? = some (.cells vs T fz)/\Rows w S e vs q ys){n:Nat}(hn:n<=ys.length):
  ∃L:List Value,(ic e.width n (.slice A m c)).run P w=.ok L.toArray w/\L.length=n*e.width/\Ut w S e L (ys.take n)/\(∀v∈L,scalar v):=by
 rcases bd n with h0|hpos
 ·subst h0;refine⟨[],?_,by simp,fun i x hi=>by simp at hi,by simp⟩;cases A with
  |none=>simp[ic]
  |some ad=>simp[ic,loadCells,loadCellsFrom]
 ·have hys:ys≠[]:=by intro e;subst e;simp at hn;omega
  obtain⟨r,q,vs,T,fz,rfl,hh,hrow⟩:=hne hys;have hsz:q+n*e.width<=vs.size∨e.width=0:=by
   rcases bd e.width with hw|hw
   ·exact .inr hw
   ·left;obtain⟨ds,d1,d2⟩:=hrow (n-1) (ys.getD (n-1) e.dflt) (getD_some (by omega));have hdl:=d1.len;obtain⟨v,hv⟩:∃v,ds[e.width-1]? = some v:=⟨ds[e.width-1]'(by omega),ay (by omega)⟩
    have:=(Array.getElem?_eq_some_iff.1 (d2 _ _ hv)).1;have h1:(n-1)*e.width+e.width=n*e.width:=by
     rw[←jl];congr 1;omega
    omega
  have hfirst:(ys.take n).length=n:=by simp;omega
  rcases hsz with hsz|hw0
  ·refine⟨(vs.toList.drop q).take (n*e.width),by simp[ic,bCu hh hsz],by simp;omega,fun i x hi=>?_,?_⟩
   ·have hin:=(au.1 hi).1;rw[hfirst]at hin;rw[ck hin]at hi;obtain⟨ds,d1,d2⟩:=hrow i x hi;refine⟨ds,d1,fun j d hj=>?_⟩;have hjl:=(au.1 hj).1;rw[d1.len]at hjl;rw[ck (SH hin hjl),di];have:=d2 j d hj;rw[←Nat.add_assoc];simpa using this
   ·intro v hv;obtain⟨k,hk⟩:=List.mem_iff_getElem?.1 hv;have hkl:=(au.1 hk).1;have hkn:k<n*e.width:=by simp at hkl;omega
    rw[ck hkn,di]at hk;have hw:0<e.width:=by
     rcases bd e.width with h|h
     ·rw[h]at hkn;simp at hkn
     ·exact h
    have hi:k/e.width<ys.length:=ak ((Nat.div_lt_iff_lt_mul hw).2 hkn) hn;obtain⟨ds,d1,d2⟩:=hrow (k/e.width) _ (getD_some (d:=e.dflt) hi);have hdl:=d1.len;have hjl:k%e.width<ds.length:=by rw[hdl];exact bp _ hw
    have h2:=d2 (k%e.width) _ (ay hjl);have h3:q+k/e.width*e.width+k%e.width=q+k:=by
     have:=Nat.div_add_mod k e.width;rw[Nat.mul_comm]at this;omega
    rw[h3]at h2;have h4:vs.toList[q+k]? = some ds[k%e.width]:=by simpa using h2
    rw[hk]at h4;cases h4;exact d1.scalar _ (iw _)
  ·refine⟨[],by rw[hw0];simp[ic,loadCells,loadCellsFrom],by rw[hw0];simp,fun i x hi=>?_,by simp⟩;have hin:=(au.1 hi).1;rw[hfirst]at hin;rw[ck hin]at hi;obtain⟨ds,d1,d2⟩:=hrow i x hi;refine⟨ds,d1,fun j d hj=>?_⟩;have hjl:=(au.1 hj).1;rw[d1.len,hw0]at hjl;omega
theorem Z0{P:Program}{e:Shape}{ys:List (Ab e)}{y:Value}(hd:AM σ.w σ.S (.slice e) ys [y]){n:Nat}(hn:n<=ys.length):
  ∃L:List Value,(ic e.width n y).run P σ.w=.ok L.toArray σ.w/\L.length=n*e.width/\Ut σ.w σ.S e L (ys.take n)/\(∀v∈L,scalar v):=by
 obtain⟨A,c,hy,hc,hl,hne⟩:=hd;cases hy;exact aIN (fun h=>by obtain⟨r,q,vs,T,fz,h1,_,h2,h3⟩:=hne h;exact⟨r,q,vs,T,fz,h1,h2,h3⟩) hn
theorem zE{w:World}{S:Nat->Prop}{e:Shape}{vs:Array Value}{xs ys:List (Ab e)}{L:List Value}{k:Nat}(hx:Rows w S e vs 0 xs)(hy:Ut w S e L ys)(hl:L.length=ys.length*e.width)(hk:k<=xs.length)
  (hfit:k*e.width+L.length<=vs.size):Rows w S e (CK vs (k*e.width) L) 0 (xs.take k++ys++xs.drop (k+ys.length)):=by
 intro i x hi;rw[fc]at hi;have hkl:(xs.take k).length=k:=by simp;omega
 rcases aq i k with h1|h1
 ·rw[cd (by omega),ck h1]at hi;obtain⟨ds,d1,d2⟩:=hx i x hi;refine⟨ds,d1,fun j d hj=>?_⟩;have hjl:=(au.1 hj).1;rw[d1.len]at hjl;have:=SH h1 hjl;rw[yP _ _ _ _ hfit,if_neg (by omega)];exact d2 j d hj
 ·rw[bv (by omega),hkl]at hi;rcases aq (i-k) ys.length with h2|h2
  ·rw[cd h2]at hi;obtain⟨ds,d1,d2⟩:=hy (i-k) x hi;refine⟨ds,d1,fun j d hj=>?_⟩;have hjl:=(au.1 hj).1;rw[d1.len]at hjl;have h3:=SH h2 hjl;have h4:(i-k)*e.width+k*e.width=i*e.width:=by rw[←bw];congr 1;omega
   rw[yP _ _ _ _ hfit,if_pos (by omega)];rw[show 0+i*e.width+j-k*e.width=(i-k)*e.width+j by omega];exact d2 j d hj
  ·rw[bv h2,di]at hi;rw[show k+ys.length+(i-k-ys.length)=i by omega]at hi;obtain⟨ds,d1,d2⟩:=hx i x hi;refine⟨ds,d1,fun j d hj=>?_⟩;have h3:=aw e.width (show k+ys.length<=i by omega);rw[bw]at h3;rw[yP _ _ _ _ hfit,if_neg (by omega)];exact d2 j d hj
theorem Ut.mono{w w':World}{S S':Nat->Prop}(hS:∀r,S r->S' r)(hH:∀r,S r->w'.heap[r]? = w.heap[r]?){e:Shape}{L:List Value}{xs:List (Ab e)}
  (h:Ut w S e L xs):Ut w' S' e L xs:=fun i x hi=>by
 obtain⟨ds,h1,h2⟩:=h i x hi
 exact⟨ds,h1.mono hS hH,h2⟩
theorem TR{P:Program}{e:Shape}{ys:List (Ab e)}{y:Value}(hd:AM σ.w σ.S (.slice e) ys [y])(w:World):(Builtin.lenOf y).run P w=.ok ys.length w:=by
 obtain⟨A,c,hy,_⟩:=hd;cases hy;rfl
theorem aXB(ho:Ok base S0 σ)(hr:RelT σ s a)(hx:Bb a ctx){c:Call}(hop:o.op=.call c)(hc:c.callee=.builtin .copy)(h:As C s ctx o=some (.ok true x mem')):By C base S0 id σ a o x mem':=by
 unfold As at h;rw[hop]at h;simp only[hc]at h;split at h
 ·rename_i y z T Ts e1 e2;split at h
  ·rename_i e b yc hT eb ey;split at h
   ·rename_i τ eτ;cases hf:Da s.mem yc with
    |mk yc' m1=>
     rw[hf]at h;simp only at h;rw[←hr.mem]at hf;obtain⟨σ1,a1,a2,a3,a4,a5,a6⟩:=Sl ho hf;split at h
     ·rename_i ys τ' xs0 eys exs;split at h
      ·rename_i xs ecast;obtain⟨hττ,hxs⟩:=Iu ecast;subst hττ;simp only at hxs;subst hxs;simp only[ab,Res.ok.injEq,true_and]at h;obtain⟨rfl,rfl⟩:=h;have hd:=ZM (a6 _ (Bk hr hx ey)) (Z3 hf) (by rw[a1];exact eys);have hb:=a5.repC (Bk hr hx eb);rw[←a1]at exs;obtain⟨hlt,_,hm⟩:=hb;rw[exs]at hm;simp only at hm;cases hβ:σ1.E.β b with
       |none=>
        have hnil:xs=[]/\σ1.E.κ b=0:=by
         have he:=a4.ent b;unfold AA at he;rw[exs]at he;obtain⟨q1,q2,q3⟩:=he;rcases q3 with⟨_,q4⟩|⟨r,_,_,q4,_⟩
         ·exact⟨cg (by omega),q4⟩
         ·rw[hβ]at q4;cases q4
        obtain⟨rfl,hκ⟩:=hnil;rw[hβ,hκ]at hm;have hset:m1.set b (.arr τ' (ys.take ([]:List (Ab τ')).length++([]:List (Ab τ')).drop ys.length))=m1:=by
         have e0:(ys.take ([]:List (Ab τ')).length++([]:List (Ab τ')).drop ys.length)=[]:=by simp
         rw[e0,←a1];exact bP exs (by simp)
        rw[hset];obtain⟨L,f1,f2,f3,f4⟩:=Z0 (P:=C.P) hd (n:=0) (dt _);refine AO (σ':=σ1) (v:=.int .i64 ((min ys.length 0:Nat):Int)) ?_ a4 a5.moves a1 ⟨rfl,Sq (n:=min ys.length 0) (ao (lv _ _) (by decide))⟩;obtain⟨cs,hcs⟩:=IM (a:=a) (P:=C.P) hop hc σ.w;rw[hcs,Ip e1,W5 e2];simp only[builtin];refine Bx ?_;unfold my;simp only[fe,ja,fi,fk,gc,hm,Option.map_none,List.length_nil];have hmz:Nat.min ys.length 0=0:=Nat.min_zero _;simp only[bu,Cz hT,ax,TR hd,E6 (Sf eτ),Kt eτ,hmz];rw[←a2,f1];simp[goInt]
       |some r=>
       rw[hβ]at hm;have hy:=hm;simp only[jh]at hy;obtain⟨hl0,hl1,vs,T',h2,h3,h4⟩:=jE (a4.ent b) exs hβ;have hown:σ1.owned b r:=⟨by rw[exs];trivial,hβ⟩
       have hrl:=(a4.own b r hown).2.1;obtain⟨L,f1,f2,f3,f4⟩:=Z0 (P:=C.P) hd (n:=Nat.min ys.length xs.length) (lf _ _);have hmin:(ys.take (Nat.min ys.length xs.length)).length=Nat.min ys.length xs.length:=by simp
       have hnle:Nat.min ys.length xs.length<=xs.length:=lv _ _;have hfit:0*τ'.width+L.length<=vs.size:=by
        rw[f2,h3];have:=aw τ'.width (fw hnle hl0);omega
       have hrows:=zE (k:=0) h4 f3 (by rw[hmin];exact f2) (dt _) hfit;have hres:xs.take 0++ys.take (Nat.min ys.length xs.length)++xs.drop (0+(ys.take (Nat.min ys.length xs.length)).length)=ys.take xs.length++xs.drop ys.length:=by
        rw[hmin];simp only[List.take_zero,List.nil_append,dm];rcases nl ys.length xs.length with hle|hle
        ·have:Nat.min ys.length xs.length=ys.length:=gz hle;rw[this,cw (bj _),cw hle]
        ·have:Nat.min ys.length xs.length=xs.length:=pj hle;rw[this,ir (bj _),ir hle]
       rw[hres]at hrows;have hlen:(ys.take xs.length++xs.drop ys.length).length=xs.length:=by simp;omega
       obtain⟨g1,g2⟩:=mH a4 hown (e:=.arr τ' (ys.take xs.length++xs.drop ys.length)) (vs:=CK vs (0*τ'.width) L) (T:=T') (by rw[exs];exact⟨_,rfl,hlen⟩) (fun hg=>by
        unfold AA;simp only[Sit.store];rw[B4 hlt,if_pos rfl];exact⟨by rw[hlen];exact hl0,hl1,.inr ⟨r,_,T',hβ,TN hrl,by rw[bG,h3],hrows.mono hg.stab hg.heap⟩⟩)
       refine AO (σ':=σ1.store b r (.arr τ' (ys.take xs.length++xs.drop ys.length)) (CK vs (0*τ'.width) L) T') (v:=.int .i64 ((min ys.length xs.length:Nat):Int)) ?_ g1 (a5.trans g2).moves (by simp[Sit.store,a1]) ⟨rfl,Sq (by omega)⟩;obtain⟨cs,hcs⟩:=IM (a:=a) (P:=C.P) hop hc σ.w;rw[hcs,Ip e1,W5 e2];simp only[builtin];refine Bx ?_;unfold my;simp only[fe,ja,fi,fk,gc,hy];simp only[bu,Cz hT,ax,TR hd,E6 (Sf eτ),Kt eτ];rw[←a2,f1];simp only[ax];have h0:=bN (P:=C.P) (r:=r) (o:=0) (T:=T') L 0 σ1.w vs h2 (by simpa using hfit) f4;rw[h0];simp[goInt,Sit.store]
      ·cases h
     ·cases h
   ·cases h
  ·rename_i e b lo n yc hT eb ey;split at h
   ·rename_i τ eτ;cases hf:Da s.mem yc with
    |mk yc' m1=>
     rw[hf]at h;simp only at h;rw[←hr.mem]at hf;obtain⟨σ1,a1,a2,a3,a4,a5,a6⟩:=Sl ho hf;split at h
     ·rename_i ys τ' xs0 eys exs;split at h
      ·rename_i xs ecast;obtain⟨hττ,hxs⟩:=Iu ecast;subst hττ;simp only at hxs;subst hxs;simp only[ab,Res.ok.injEq,true_and]at h;obtain⟨rfl,rfl⟩:=h;have hd:=ZM (a6 _ (Bk hr hx ey)) (Z3 hf) (by rw[a1];exact eys);have hb:=a5.repC (Bk hr hx eb);rw[←a1]at exs;obtain⟨hlt,_,hm⟩:=hb;rw[exs]at hm;obtain⟨p1,A,cc,hy,p2,p3,p4⟩:=hm;obtain⟨L,f1,f2,f3,f4⟩:=Z0 (P:=C.P) hd (n:=Nat.min ys.length n) (lf _ _);have hmin:(ys.take (Nat.min ys.length n)).length=Nat.min ys.length n:=by
        rw[gj];exact gz (lf _ _)
       have hmn:Nat.min ys.length n<=n:=lv _ _;have htake:ys.take (Nat.min ys.length n)=ys.take n:=by
        rcases nl ys.length n with hle|hle
        ·have:Nat.min ys.length n=ys.length:=gz hle;rw[this,cw (bj _),cw hle]
        ·have:Nat.min ys.length n=n:=pj hle;rw[this]
       have hlen:(xs.take lo++ys.take n++xs.drop (lo+min ys.length n)).length=xs.length:=by
        rw[←htake];simp only[dx,hmin,gj,List.length_drop];show min lo xs.length+Nat.min ys.length n+(xs.length-(lo+Nat.min ys.length n))=_;omega
       by_cases hz:Nat.min ys.length n=0
       ·have e0:xs.take lo++ys.take n++xs.drop (lo+min ys.length n)=xs:=by
         have e1:ys.take n=[]:=by rw[←htake,hz];simp
         have e2:min ys.length n=0:=hz;rw[e1,e2];simp
        have hL:L=[]:=cg (by rw[f2,hz];simp);rw[e0];refine AO (σ':=σ1) (v:=.int .i64 ((min ys.length n:Nat):Int)) ?_ a4 a5.moves (by rw[←a1];exact(bP exs (by simp)).symm) ⟨rfl,Sq (n:=min ys.length n) (ao (show Nat.min ys.length n<=0 by omega) (by decide))⟩;obtain⟨cs,hcs⟩:=IM (a:=a) (P:=C.P) hop hc σ.w;rw[hcs,Ip e1,W5 e2];simp only[builtin];refine Bx ?_;unfold my;simp only[fe,ja,fi,fk,gc,hy];simp only[bu,Cz hT,ax,TR hd,E6 (Sf eτ),Kt eτ];rw[←a2,f1,hL];cases A<;>simp[goInt,storeCells]
       ·obtain⟨r,hβ,rfl⟩:=p4 (by omega);obtain⟨hl0,hl1,vs,T',h2,h3,h4⟩:=jE (a4.ent b) exs hβ;have hown:σ1.owned b r:=⟨by rw[exs];trivial,hβ⟩
        have hrl:=(a4.own b r hown).2.1;have hfit:lo*τ'.width+L.length<=vs.size:=by
         rw[f2,h3,←bw];exact aw τ'.width (by omega)
        have hrows:=zE (k:=lo) h4 f3 (by rw[hmin];exact f2) (by omega) hfit;rw[hmin,htake]at hrows;obtain⟨g1,g2⟩:=mH a4 hown (e:=.arr τ' (xs.take lo++ys.take n++xs.drop (lo+min ys.length n))) (vs:=CK vs (lo*τ'.width) L) (T:=T') (by rw[exs];exact⟨_,rfl,hlen⟩) (fun hg=>by
         unfold AA;simp only[Sit.store];rw[B4 hlt,if_pos rfl];exact⟨by rw[hlen];exact hl0,hl1,.inr ⟨r,_,T',hβ,TN hrl,by rw[bG,h3],hrows.mono hg.stab hg.heap⟩⟩)
        refine AO (σ':=σ1.store b r (.arr τ' (xs.take lo++ys.take n++xs.drop (lo+min ys.length n))) (CK vs (lo*τ'.width) L) T') (v:=.int .i64 ((min ys.length n:Nat):Int)) ?_ g1 (a5.trans g2).moves (by simp[Sit.store,a1]) ⟨rfl,Sq (by show Nat.min ys.length n<BJ;omega)⟩;obtain⟨cs,hcs⟩:=IM (a:=a) (P:=C.P) hop hc σ.w;rw[hcs,Ip e1,W5 e2];simp only[builtin];refine Bx ?_;unfold my;simp only[fe,ja,fi,fk,gc,hy];simp only[bu,Cz hT,ax,TR hd,E6 (Sf eτ),Kt eτ];rw[←a2,f1];simp only[ax];have h0:=bN (P:=C.P) (r:=r) (o:=lo*τ'.width) (T:=T') L 0 σ1.w vs h2 (by simpa using hfit) f4;rw[h0];simp[goInt,Sit.store]
      ·cases h
     ·cases h
   ·cases h
  ·cases h
 ·cases h
end Vx
namespace Vx
open Go Go.RowKit
variable {C:Cfg}{base:Base}{S0:Nat->Prop}{σ:Sit}{s:St}{a:Act}{ctx:List (Nat×Bool)}{o:Oper}{x:TV}{mem':Ai}
theorem aJE:∀(r newLen c:Nat),256<=c->c<=2*newLen->qj newLen r c<=2*newLen
 |0,newLen,c,_,h=>h
 |r+1,newLen,c,h1,h2=>by
  unfold qj
  split
  ·exact h2
  ·exact aJE r newLen _ (by omega) (by omega)
theorem aXo{need cap:Nat}(h:cap<need):ks need cap<=2*need:=by
 unfold ks;split
 ·omega
 ·split
  ·omega
  ·exact aJE 4 need cap (by omega) (by omega)
theorem Moves.of_acc{σ σ':Sit}{b:Nat}(stab:∀r,σ.S r->σ'.S r)(heap:∀r,σ.S r->σ'.w.heap[r]? = σ.w.heap[r]?)(len:σ.mem.length<=σ'.mem.length)
  (turns:∀b',b'<σ.mem.length->b'≠b->Bm σ σ' b') (hb:∃τ xs τ' xs',Ac σ.mem b=.acc τ xs/\Ac σ'.mem b=.acc τ' xs'):Moves (D8 b) σ σ':=by
 refine⟨stab,heap,fun c y hc=>?_,len,fun b' hb' ha=>by
  by_cases h:b'=b
  ·subst h;obtain⟨_,_,_,_,e,_⟩:=hb;rw[e];trivial
  ·have ht:=turns b' hb' h;unfold Bm at ht;cases e:Ac σ.mem b' with
   |gone=>rw[e]at ht;simp only at ht;rw[ht]at ha;exact ha
   |raw cs=>rw[e]at ht;rcases ht with⟨_,cs',h2⟩|h2<;>(rw[h2]at ha;exact ha)
   |arr τ xs=>
    rw[e]at ht;rcases ht with⟨_,_,xs',h2,_⟩|⟨xs',h2,_⟩|h2
    ·rw[h2]at ha;exact ha
    ·rw[h2]at ha;exact ha
    ·rw[h2]at ha;exact ha
   |acc τ xs=>trivial
   |froz τ xs=>rw[e]at ht;simp only at ht;rw[ht]at ha;exact ha
   |itr s p=>rw[e]at ht;rcases ht with⟨_,_,_,h2⟩|h2<;>(rw[h2]at ha;exact ha)⟩
 have key:(∀b',c=.own b'->¬b'=b)->Ay σ' c y:=fun hne=>aLO stab heap len (fun b'=>b'=b) (fun b' hb'=>by
  by_cases h:b'=b
  ·subst h;exact .inr ⟨rfl,hb⟩
  ·exact .inl (turns b' hb' h)) hc hne
 cases c with
 |own b' =>
  simp only[D8];cases hbb:Nat.beq b b' with
  |true=>exact hc.2.1
  |false=>exact key fun b'' e=>by cases e;intro e;subst e;simp[dh]at hbb
 |undef=>exact key fun _ e=>by cases e
 |v _=>exact key fun _ e=>by cases e
 |fl _ _=>exact key fun _ e=>by cases e
 |sl _ _=>exact key fun _ e=>by cases e
 |ptr _ _=>exact key fun _ e=>by cases e
 |eptr _ _ _=>exact key fun _ e=>by cases e
 |iptr _ _ _=>exact key fun _ e=>by cases e
 |sub _ _ _=>exact key fun _ e=>by cases e
 |gptr _=>exact key fun _ e=>by cases e
 |fnv _=>exact key fun _ e=>by cases e
 |ifv _=>exact key fun _ e=>by cases e
 |cx _ _ _=>exact key fun _ e=>by cases e
 |fn _ _=>exact key fun _ e=>by cases e
def Sit.grow(σ:Sit)(b:Nat)(e:Blk)(r:Option Nat)(k:Nat)(w':World):Sit:={E:={β:=AD σ.E.β b r,κ:=AD σ.E.κ b k},mem:=(σ.mem.set b e).map (Se b),w:=w',S:=σ.S}
theorem u6{mem:Ai}{f:Blk->Blk}(hf:f .gone=.gone){b:Nat}:Ac (mem.map f) b=f (Ac mem b):=by
 unfold Ac;rw[List.getElem?_map];cases mem[b]?<;>simp[hf]
theorem VP{b:Nat}{τ:Shape}{zs:List (Ab τ)}{r:Option Nat}{k:Nat}{w':World}(hb:b<σ.mem.length)(b':Nat):
  Ac (σ.grow b (.acc τ zs) r k w').mem b'=if b'=b then .acc τ zs else Se b (Ac σ.mem b'):=by
 simp only[Sit.grow];rw[u6 rfl,B4 hb];split<;>rfl
theorem aX8{b:Nat}{e:Blk}:KF (Se b e)↔KF e:=by
 cases e<;>exact Iff.rfl
theorem wX(ho:Ok base S0 σ){b:Nat}{τ:Shape}{xs zs:List (Ab τ)}(hb:Ac σ.mem b=.acc τ xs){r:Option Nat}{k:Nat}{w':World}
  (hw:Low base w') (hsz:σ.w.heap.size<=w'.heap.size) (hheap:∀q,q<σ.w.heap.size->σ.E.β b≠some q->w'.heap[q]? = σ.w.heap[q]?)
  (hr:∀q,r=some q->base.new q/\q<w'.heap.size/\(σ.E.β b=some q∨σ.w.heap.size<=q))
  (hlen:zs.length<=k) (hk:k<BJ)
  (hat:(r=none/\k=0)∨∃q vs T,r=some q/\w'.heap[q]? = some (.cells vs T (0,0))/\vs.size=k*τ.width/\Rows w' σ.S τ vs 0 zs) :
  Ok base S0 (σ.grow b (.acc τ zs) r k w')/\Moves (D8 b) σ (σ.grow b (.acc τ zs) r k w')/\Ay (σ.grow b (.acc τ zs) r k w') (.own b) (.slice (r.map fun q=>⟨q,0,none⟩) zs.length k):=by
 have hlt:b<σ.mem.length:=Dr (by rw[hb];simp);have hS:∀q,σ.S q->w'.heap[q]? = σ.w.heap[q]?:=fun q hq=>hheap q (ho.stab q hq).1 (fun e=>(ho.own b q ⟨by rw[hb];trivial,e⟩).2.2 hq);have hturn:∀b',b'<σ.mem.length->b'≠b->Bm σ (σ.grow b (.acc τ zs) r k w') b':=fun b' hb' hne=>by
  have e1:Ac (σ.grow b (.acc τ zs) r k w').mem b'=Se b (Ac σ.mem b'):=by rw[VP hlt,if_neg hne]
  have e2:(σ.grow b (.acc τ zs) r k w').E.β b'=σ.E.β b':=by simp[Sit.grow,AD,hne]
  have e3:(σ.grow b (.acc τ zs) r k w').E.κ b'=σ.E.κ b':=by simp[Sit.grow,AD,hne]
  unfold Bm;cases e:Ac σ.mem b' with
  |gone=>simp only;rw[e1,e];rfl
  |raw cs=>exact .inl ⟨e2,_,by rw[e1,e];rfl⟩
  |arr τ' ys=>exact .inl ⟨e2,e3,ys,by rw[e1,e];rfl,rfl⟩
  |acc τ' ys=>exact .inl ⟨e2,e3,by rw[e1,e];rfl⟩
  |froz τ' ys=>simp only;rw[e1,e];rfl
  |itr s p=>exact .inl ⟨e2,s,p,by rw[e1,e];rfl⟩
 have hmv:Moves (D8 b) σ (σ.grow b (.acc τ zs) r k w'):=
  Moves.of_acc (fun _ h=>h) (fun q hq=>hS q hq) (by simp[Sit.grow]) hturn ⟨τ,xs,τ,zs,hb,by rw[VP hlt,if_pos rfl]⟩
 have hold:∀b' q,b'≠b->(σ.grow b (.acc τ zs) r k w').owned b' q->σ.owned b' q:=fun b' q hne ⟨h1,h2⟩=>by
  rw[VP hlt,if_neg hne]at h1;exact⟨aX8.1 h1,by simpa[Sit.grow,AD,hne]using h2⟩
 have hnew:∀q,(σ.grow b (.acc τ zs) r k w').owned b q->r=some q:=fun q h=>by simpa[Sit.grow,AD]using h.2
 have hbown:∀q,σ.E.β b=some q->σ.owned b q:=fun q e=>⟨by rw[hb];trivial,e⟩
 refine⟨⟨hw,ho.stab0,fun q hq=>⟨ak (ho.stab q hq).1 hsz,(ho.stab q hq).2⟩,fun b'=>?_,fun b' q h=>?_,fun b1 b2 q h1 h2=>?_⟩,hmv,?_⟩
 ·by_cases hbb:b'=b
  ·subst hbb;unfold AA;rw[VP hlt,if_pos rfl];refine⟨by simpa[Sit.grow,AD]using hlen,by simpa[Sit.grow,AD]using hk,?_⟩;rcases hat with⟨h1,h2⟩|⟨q,vs,T,h1,h2,h3,h4⟩
   ·exact .inl ⟨by simp[Sit.grow,AD,h1],by simp[Sit.grow,AD,h2]⟩
   ·exact .inr ⟨q,vs,T,by simp[Sit.grow,AD,h1],h2,by simpa[Sit.grow,AD]using h3,h4⟩
  ·have he:=ho.ent b';have howned:∀q,σ.owned b' q->w'.heap[q]? = σ.w.heap[q]?:=fun q hq=>hheap q (ho.own b' q hq).2.1 (fun e=>hbb (ho.inj b' b q hq (hbown q e)));unfold AA at he⊢;rw[VP hlt,if_neg hbb];have e2:(σ.grow b (.acc τ zs) r k w').E.β b'=σ.E.β b':=by simp[Sit.grow,AD,hbb]
   have e3:(σ.grow b (.acc τ zs) r k w').E.κ b'=σ.E.κ b':=by simp[Sit.grow,AD,hbb]
   cases e:Ac σ.mem b' with
   |gone=>trivial
   |froz τ' ys=>trivial
   |itr s p=>
    rw[e]at he;obtain⟨h0,q,h1,h2⟩:=he;exact⟨h0,q,e2.trans h1,(howned q ⟨by rw[e];trivial,h1⟩).trans h2⟩
   |raw cs=>
    rw[e]at he;obtain⟨q,vs,T,h1,h2,h3⟩:=he;exact⟨q,vs,T,e2.trans h1,(howned q ⟨by rw[e];trivial,h1⟩).trans h2,h3.mapL (D8 b) hmv.rep⟩
   |arr τ' ys=>
    rw[e]at he;obtain⟨h0,h00,h⟩:=he;refine⟨by rw[e3];exact h0,by rw[e3];exact h00,?_⟩;rcases h with⟨h1,h2⟩|⟨q,vs,T,h1,h2,h3,h4⟩
    ·exact .inl ⟨e2.trans h1,e3.trans h2⟩
    ·exact .inr ⟨q,vs,T,e2.trans h1,(howned q ⟨by rw[e];trivial,h1⟩).trans h2,by rw[e3];exact h3,h4.mono (fun _ h=>h) hS⟩
   |acc τ' ys=>
    rw[e]at he;obtain⟨h0,h00,h⟩:=he;refine⟨by rw[e3];exact h0,by rw[e3];exact h00,?_⟩;rcases h with⟨h1,h2⟩|⟨q,vs,T,h1,h2,h3,h4⟩
    ·exact .inl ⟨e2.trans h1,e3.trans h2⟩
    ·exact .inr ⟨q,vs,T,e2.trans h1,(howned q ⟨by rw[e];trivial,h1⟩).trans h2,by rw[e3];exact h3,h4.mono (fun _ h=>h) hS⟩
 ·by_cases hbb:b'=b
  ·subst hbb;obtain⟨g1,g2,g3⟩:=hr q (hnew q h);refine⟨g1,g2,fun hs=>?_⟩;rcases g3 with g3|g3
   ·exact(ho.own b' q (hbown q g3)).2.2 hs
   ·exact absurd (ho.stab q hs).1 (by omega)
  ·have:=ho.own b' q (hold b' q hbb h);exact⟨this.1,ak this.2.1 hsz,this.2.2⟩
 ·have key:∀b' q,b'≠b->(σ.grow b (.acc τ zs) r k w').owned b' q->r=some q->False:=fun b' q hne h e=>by
   have h':=hold b' q hne h;rcases(hr q e).2.2 with g|g
   ·exact hne (ho.inj b' b q h' (hbown q g))
   ·exact absurd (ho.own b' q h').2.1 (by omega)
  by_cases hb1:b1=b<;>by_cases hb2:b2=b
  ·rw[hb1,hb2]
  ·subst hb1;exact(key b2 q hb2 h2 (hnew q h1)).elim
  ·subst hb2;exact(key b1 q hb1 h1 (hnew q h2)).elim
  ·exact ho.inj b1 b2 q (hold b1 q hb1 h1) (hold b2 q hb2 h2)
 ·refine⟨by simp[Sit.grow];exact hlt,trivial,?_⟩;rw[VP hlt,if_pos rfl];simp[Sit.grow,AD]
theorem bD5{P:Program}{e:TypeId}(h:cG P e=true):∃z:Value,z.cells.size=P.cellsOf e/\∀w,(zeroValue e).run P w=.ok z w:=by
 unfold cG at h;split at h
 ·rename_i x ex;obtain⟨z,h1,h2⟩:=cH (P:=P) (σ:=⟨⟨fun _=>none,fun _=>0⟩,[],default,fun _=>False⟩) ex;refine⟨z,?_,h2⟩;have:=h1.cells.length;rw[Wp h]at this;simpa using this.symm
 ·cases h
theorem aJY{L1 L2:List Value}{rest:Array Value}{q:Nat}:((L1.toArray++L2.toArray)++rest)[q]? = if q<L1.length then L1[q]? else if q<L1.length+L2.length then L2[q-L1.length]? else rest[q-(L1.length+L2.length)]?:=by
 rw[nm,nm];simp only[ot,ou,fi];by_cases h1:q<L1.length
 ·rw[if_pos (by omega),if_pos h1,if_pos h1]
 ·by_cases h2:q<L1.length+L2.length
  ·rw[if_pos h2,if_neg h1,if_neg h1,if_pos h2]
  ·rw[if_neg h2,if_neg h1,if_neg h2]
theorem aHI(ho:Ok base S0 σ){b:Nat}{τ:Shape}{xs ys:List (Ab τ)}{yv:Value}{T T2 e:TypeId}{ty:TypeId}{e2:TypeId}{Ts:List TypeId}(hb:Ac σ.mem b=.acc τ xs)(hd:AM σ.w σ.S (.slice τ) ys [yv])
  (hT:C.P.underlying T=some (.slice e)) (hT2:C.P.underlying T2=some (.slice e2)) (eτ:CS C.P e=some τ) (hg:((xs.length:Int)+(ys.length:Int))*2*(C.P.bytesOf e:Int)<=EV) (hby:0<C.P.bytesOf e) (hz:cG C.P e=true) :
  ∃r k w',(lg (T::T2::Ts).toArray ty #[.slice ((σ.E.β b).map fun r=>⟨r,0,none⟩) xs.length (σ.E.κ b),yv]).run C.P σ.w=.ok (.slice (r.map fun q=>⟨q,0,none⟩) (xs++ys).length k) w' /\
   Ok base S0 (σ.grow b (.acc τ (xs++ys)) r k w')/\Moves (D8 b) σ (σ.grow b (.acc τ (xs++ys)) r k w')/\Ay (σ.grow b (.acc τ (xs++ys)) r k w') (.own b) (.slice (r.map fun q=>⟨q,0,none⟩) (xs++ys).length k):=by
 have he:=ho.ent b
 unfold AA at he
 rw[hb]at he
 obtain⟨hle,hlim,hblk⟩:=he
 have hw:=Kt eτ
 have hsize:∀w,(Go.sizeOf e).run C.P w=.ok τ.width w:=fun w=>by rw[E6 (Sf eτ),hw]
 obtain⟨ie,hie⟩:=Sf eτ
 have hbytes:ie.bytes=C.P.bytesOf e:=by simp[pp,hie]
 have hneed:xs.length+ys.length<=70368744177664:=by
  have h1:(((xs.length+ys.length)*2*C.P.bytesOf e:Nat):Int)<=EV:=by push_cast;exact hg
  have h2:(xs.length+ys.length)*2*C.P.bytesOf e<=140737488355328:=by unfold EV at h1;omega
  have h3:=Nat.le_mul_of_pos_right ((xs.length+ys.length)*2) hby
  omega
 obtain⟨L,f1,f2,f3,f4⟩:=Z0 (P:=C.P) hd (bj ys.length)
 rw[dk]at f3
 by_cases hroom:xs.length+ys.length<=σ.E.κ b
 ·rcases hblk with⟨h1,h2⟩|⟨r,vs,T',h1,h2,h3,h4⟩
  ·have hx0:xs=[]:=cg (by omega)
   have hy0:ys=[]:=cg (by omega)
   subst hx0;subst hy0
   obtain⟨k1,k2,k3⟩:=wX ho hb (zs:=[]) (r:=none) (k:=0) (w':=σ.w) ho.below (bj _) (fun _ _ _=>rfl) (fun q hq=>by cases hq) (by simp) (by unfold BJ;omega) (.inl ⟨rfl,rfl⟩)
   refine⟨none,0,σ.w,?_,k1,k2,k3⟩
   unfold lg
   simp[Cz hT,Cz hT2,hsize,TR hd,h1,h2]
   rw[show(0:Nat)=([]:List (Ab τ)).length from rfl,f1]
   simp
  ·have hfit:xs.length*τ.width+L.length<=vs.size:=by
    rw[f2,h3,←bw]
    exact aw _ hroom
   have hrows:=zE (k:=xs.length) h4 f3 f2 (bj _) hfit
   rw[dk,ir (by omega),df]at hrows
   have hrl:=(ho.own b r ⟨by rw[hb];trivial,h1⟩)
   have hS:∀q,σ.S q->(CX σ.w r (.cells (CK vs (xs.length*τ.width) L) T' (0,0))).heap[q]? = σ.w.heap[q]?:=fun q hq=>Nm (fun e=>hrl.2.2 (e▸hq))
   obtain⟨k1,k2,k3⟩:=wX ho hb (zs:=xs++ys) (r:=some r) (k:=σ.E.κ b) (w':=CX σ.w r (.cells (CK vs (xs.length*τ.width) L) T' (0,0)))
    (ho.below.step rfl rfl rfl (by simp[CX]) (fun k _ hn=>Nm (fun e=>hn (e▸hrl.1)))) (by simp[CX]) (fun q _ hne=>Nm (fun e=>hne (e▸h1))) (fun q hq=>by cases hq;exact⟨hrl.1,by rw[bR];exact hrl.2.1,.inl h1⟩)
    (by simpa using hroom) hlim (.inr ⟨r,_,T',rfl,TN hrl.2.1,by rw[bG];exact h3,hrows.mono (fun _ h=>h) hS⟩)
   refine⟨some r,σ.E.κ b,_,?_,k1,k2,k3⟩
   have h0:=bN (P:=C.P) (r:=r) (o:=xs.length*τ.width) (T:=T') L 0 σ.w vs h2 (by simpa using hfit) f4
   unfold lg
   simp[Cz hT,Cz hT2,hsize,TR hd,h1,hroom,f1,Kl]
   rw[h0]
   simp
 ·obtain⟨z,z1,z2⟩:=bD5 hz
  have hnext:ks (xs.length+ys.length) (σ.E.κ b)*C.P.bytesOf e<=281474976710656:=by
   have h1:=aXo (need:=xs.length+ys.length) (cap:=σ.E.κ b) (by omega)
   have h2:=aw (C.P.bytesOf e) h1
   have h3:((2*(xs.length+ys.length)*C.P.bytesOf e:Nat):Int)<=EV:=by
    push_cast
    have:(2:Int)*((xs.length:Int)+(ys.length:Int))=((xs.length:Int)+(ys.length:Int))*2:=nk _ _
    rw[this]
    exact hg
   unfold EV at h3
   omega
  obtain⟨L0,g1,g2,g3,g4⟩:=aIN (P:=C.P) (w:=σ.w.drew) (S:=σ.S) (e:=τ) (ys:=xs) (A:=(σ.E.β b).map fun r=>⟨r,0,none⟩) (m:=xs.length) (c:=σ.E.κ b) (fun hne=>by
   rcases hblk with⟨h1,h2⟩|⟨r,vs,T',h1,h2,h3,h4⟩
   ·exact absurd (cg (by omega)) hne
   ·exact⟨r,0,vs,T',(0,0),by rw[h1];rfl,h2,Rows.mono (w:=σ.w) (w':=σ.w.drew) (fun _ h=>h) (fun _ _=>rfl) h4⟩) (bj xs.length)
  rw[dk]at g3
  obtain⟨L',f1',f2',f3',f4'⟩:=Z0 (P:=C.P) (σ:={σ with w:=σ.w.drew}) (AM.mono (w:=σ.w) (w':=σ.w.drew) (fun _ h=>h) (fun _ _=>rfl) hd) (bj ys.length)
  rw[dk]at f3'
  let q:Question:=.appendCap (xs.length+ys.length) (σ.E.κ b) e
  let k:=xs.length+ys.length+σ.w.tape σ.w.drawn q%(2^63-(xs.length+ys.length))
  have hk:xs.length+ys.length<=k/\k<BJ:=by
   have hpos:0<2^63-(xs.length+ys.length):=by omega
   have:=bp (σ.w.tape σ.w.drawn q) hpos
   unfold BJ
   omega
  let vs':Array Value:=L0.toArray++L'.toArray++mw z.cells (k-(xs.length+ys.length))
  have hzs:(mw z.cells (k-(xs.length+ys.length))).size=(k-(xs.length+ys.length))*τ.width:=by
   simp[mw,z1,hw]
  have hvs:vs'.size=k*τ.width:=by
   simp only[vs',ot,ou,hzs,g2,f2']
   rw[←bw,←bw]
   congr 1
   omega
  have hrows:Rows (σ.w.drew.alloc (.cells vs' e)) σ.S τ vs' 0 (xs++ys):=by
   have hS:∀p,σ.S p->(σ.w.drew.alloc (.cells vs' e)).heap[p]? = σ.w.drew.heap[p]?:=fun p hp=>Nl (ho.stab p hp).1
   intro i x hi
   rcases aq i xs.length with h1|h1
   ·rw[cd h1]at hi
    obtain⟨ds,d1,d2⟩:=g3 i x hi
    refine⟨ds,d1.mono (fun _ h=>h) hS,fun j d hj=>?_⟩
    have hjl:=(au.1 hj).1
    rw[d1.len]at hjl
    have:=SH h1 hjl
    simp only[vs']
    rw[aJY,if_pos (by omega),dm]
    exact d2 j d hj
   ·rw[bv h1]at hi
    have h2:=(au.1 hi).1
    obtain⟨ds,d1,d2⟩:=f3' (i-xs.length) x hi
    refine⟨ds,d1.mono (fun _ h=>h) hS,fun j d hj=>?_⟩
    have hjl:=(au.1 hj).1
    rw[d1.len]at hjl
    have h3:=SH h2 hjl
    have h4:(i-xs.length)*τ.width+xs.length*τ.width=i*τ.width:=by rw[←bw];congr 1;omega
    simp only[vs']
    rw[aJY,if_neg (by omega),if_pos (by omega)]
    rw[show 0+i*τ.width+j-L0.length=(i-xs.length)*τ.width+j by omega]
    exact d2 j d hj
  obtain⟨k1,k2,k3⟩:=wX ho hb (zs:=xs++ys) (r:=some σ.w.heap.size) (k:=k) (w':=σ.w.drew.alloc (.cells vs' e)) (ho.below.drew.alloc _) (by simp)
   (fun p hp _=>Nl (w:=σ.w.drew) hp) (fun p hp=>by cases hp;exact⟨.inl ho.below.size,by simp,.inr (bj _)⟩) (by simpa using hk.1) hk.2
   (.inr ⟨σ.w.heap.size,vs',e,rfl,So (w:=σ.w.drew),hvs,hrows⟩)
  refine⟨some σ.w.heap.size,k,_,?_,k1,k2,k3⟩
  have hti:∀w,(typeInfo e).run C.P w=.ok ie w:=fun w=>by simp[typeInfo,hie]
  have hn1:¬((xs.length+ys.length:Nat):Int)>IntKind.i64.max:=by
   simp[lk,im,gy];omega
  have hn2:¬ks (xs.length+ys.length) (σ.E.κ b)*ie.bytes>2^48:=by rw[hbytes];omega
  have hcut:(choose (.appendCap (xs.length+ys.length) (σ.E.κ b) e)).run C.P σ.w=.ok k σ.w.drew:=by
   simp[q,k,Question.forced,Question.cut]
  unfold lg
  simp only[fi,fk,gc,bu,Cz hT,Cz hT2,ax,hsize,de,Bool.false_eq_true,if_false,TR hd,if_neg hroom,hti]
  rw[if_neg (fun h=>hn1 h.1)]
  simp only[bu,hti,ax]
  rw[if_neg hn2]
  have f1'':(ic τ.width ys.length yv).run C.P σ.w.drew=.ok L'.toArray σ.w.drew:=f1'
  simp only[bu,hcut,ax,hti,run_askRoom,g1,z2,de]
  simp[newRow,vs',f1'']
def aOf(C:Cfg)(base:Base)(S0:Nat->Prop)(b:Nat)(σ:Sit)(a:Act)(o:Oper)(mem':Ai):Prop:=By C base S0 (D8 b) σ a o (.val (.one (.own b))) (mem'.map (Se b))
theorem Goes.dropMoves{σ σ1 σ2:Sit}{b:Nat}(h:Goes σ σ1)(h':Moves (D8 b) σ1 σ2):Moves (D8 b) σ σ2:=
 ⟨fun r hr=>h'.stab r (h.stab r hr),fun r hr=>(h'.heap r (h.stab r hr)).trans (h.heap r hr),fun c y hc=>h'.rep c y (h.repC hc),fw h.len h'.len,fun b hb ha=>h.noacc b hb (h'.noacc b (ak hb h.len) ha)⟩
theorem aLW{n b:Nat}(h:WQ n b=true):(n:Int)*2*(b:Int)<=EV:=by
 have h:=Nat.le_of_ble_eq_true h;have e:((n*2*b:Nat):Int)=(n:Int)*2*(b:Int):=by rw[lh,lh];rfl
 rw[←e];exact Int.ofNat_le.2 h
theorem aXu(ho:Ok base S0 σ)(hr:RelT σ s a)(hx:Bb a ctx){c:Call}(hop:o.op=.call c)(hc:c.callee=.builtin .append)(h:As C s ctx o=some (.ok true x mem')):
  ∃b,x=.val (.one (.own b))/\Ha (Ac (mem'.map (Se b)) b)/\aOf C base S0 b σ a o mem':=by
 unfold As at h;rw[hop]at h;simp only[hc]at h;split at h
 ·rename_i y z T T2 Ts e1 e2;split at h
  ·rename_i e e3 ac yc hT hT2 ea ey;split at h
   ·rename_i τ eτ;cases hf:Da s.mem yc with
    |mk yc' m1=>
     rw[hf]at h;simp only at h;rw[←hr.mem]at hf;obtain⟨σ1,a1,a2,a3,a4,a5,a6⟩:=Sl ho hf;have hya:=Bk hr hx ey;have hexec:∀{v w'},(lg (T::T2::Ts).toArray o.type #[a.eval y,a.eval z]).run C.P σ.w=.ok v w'->(execOp a.eval o).run C.P σ.w=.ok (.value v) w':=fun hv=>by
      obtain⟨cs,hcs⟩:=IM (a:=a) (P:=C.P) hop hc σ.w;rw[hcs,Ip e1,W5 e2];simp only[builtin];exact Bx hv
     split at h
     ·rename_i ys eys;simp only[ab,Res.ok.injEq,af]at h;obtain⟨⟨⟨g1,g2⟩,g3⟩,rfl,rfl⟩:=h;have hd:=ZM (a6 _ hya) (Z3 hf) (by rw[a1];exact eys);obtain⟨hay,_⟩:=Bk hr hx ea;have ho2:=aKG a4 τ;have hg2:=xO σ1 (.acc τ []);have hb2:Ac (σ1.name (.acc τ [])).mem σ1.mem.length=.acc τ []:=Is;have hβ:(σ1.name (.acc τ [])).E.β σ1.mem.length=none:=by simp[Sit.name,AD]
      have hκ:(σ1.name (.acc τ [])).E.κ σ1.mem.length=0:=by simp[Sit.name,AD]
      obtain⟨r,k,w',k1,k2,k3,k4⟩:=aHI (C:=C) (T2:=T2) (ty:=o.type) (Ts:=Ts) ho2 hb2 (hd.mono hg2.stab hg2.heap) hT hT2 eτ (by simpa using aLW g1) (by simpa using g2) g3;rw[hβ,hκ]at k1;refine⟨σ1.mem.length,by rw[a1],by rw[←a1,u6 rfl,Is];trivial,AO (σ':=_) (v:=.slice (r.map fun q=>⟨q,0,none⟩) (([]:List (Ab τ))++ys).length k) ?_ k2 ((a5.trans hg2).dropMoves k3) ?_ k4⟩
      ·refine hexec ?_;rw[hay];have:(σ1.name (.acc τ [])).w=σ.w:=by simp[Sit.name,a2]
       rw[this]at k1;exact k1
      ·simp[Sit.grow,Sit.name,a1]
     ·rename_i ys b eys;split at h
      ·rename_i τ' xs0 eb;split at h
       ·rename_i xs ecast;obtain⟨hττ,hxs⟩:=Iu ecast;subst hττ;simp only at hxs;subst hxs;simp only[ab,Res.ok.injEq,af,decide_eq_true_eq]at h;obtain⟨⟨⟨g1,g2⟩,g3⟩,rfl,rfl⟩:=h;have hd:=ZM (a6 _ hya) (Z3 hf) (by rw[a1];exact eys);have hb:=a5.repC (Bk hr hx ea);rw[←a1]at eb;obtain⟨hlt,_,hm⟩:=hb;rw[eb]at hm;obtain⟨r,k,w',k1,k2,k3,k4⟩:=aHI (C:=C) (T2:=T2) (ty:=o.type) (Ts:=Ts) a4 eb hd hT hT2 eτ (by have:=aLW g1;rw[Int.natCast_add]at this;exact this) (by simpa using g2) g3;refine⟨b,rfl,by rw[←a1,u6 rfl,B4 hlt,if_pos rfl];trivial,AO (σ':=_) (v:=.slice (r.map fun q=>⟨q,0,none⟩) (xs++ys).length k) ?_ k2 (a5.dropMoves k3) ?_ k4⟩
        ·refine hexec ?_;rw[hm,←a2];exact k1
        ·simp[Sit.grow,a1]
       ·cases h
      ·cases h
     ·cases h
   ·cases h
  ·cases h
 ·cases h
end Vx
namespace Vx
open Go Go.RowKit
def DM(w:World)(S:Nat->Prop)(a:Bool)(τ:Shape)(x:Ab τ)(y:Value):Prop:=
 match a with
 |true=>∃cs:List Value,y=.agg cs.toArray/\AM w S τ x cs
 |false=>AM w S τ x [y]
def FW(w:World)(S:Nat->Prop)(τ:Shape)(xs:List (Ab τ))(y:Value)(rs:List Nat):Prop:=∃k,xs.length<=k/\k<BJ/\((y=.slice none xs.length k/\k=0/\rs=[]) ∨ ∃r vs T,y=.slice (some ⟨r,0,none⟩) xs.length k/\rs=[r]/\w.heap[r]? = some (.cells vs T (0,0))/\vs.size=k*τ.width/\Rows w S τ vs 0 xs)
def FL(w:World)(S:Nat->Prop)(a:Bool):(τ:Shape)->Ab τ->Value->List Nat->Prop
 |.slice e,x,y,rs=>(match a with
  |true=>FW w S e x y rs
  |false=>rs=[]/\DM w S false (.slice e) x y)
 |.int k,x,y,rs=>rs=[]/\DM w S a (.int k) x y
 |.flt k,x,y,rs=>rs=[]/\DM w S a (.flt k) x y
 |.bool,x,y,rs=>rs=[]/\DM w S a .bool x y
 |.str,x,y,rs=>rs=[]/\DM w S a .str x y
 |.fn,x,y,rs=>rs=[]/\DM w S a .fn x y
 |.unit,x,y,rs=>rs=[]/\DM w S a .unit x y
 |.pair σ τ,x,y,rs=>rs=[]/\DM w S a (.pair σ τ) x y
 |.box σ,x,y,rs=>rs=[]/\DM w S a (.box σ) x y
 |.ifc,x,y,rs=>rs=[]/\DM w S a .ifc x y
 |.pfn,x,y,rs=>rs=[]/\DM w S a .pfn x y
 |.cx k,x,y,rs=>rs=[]/\DM w S a (.cx k) x y
def CC(w:World)(S:Nat->Prop):(sg:Aa)->DenS sg->List Value->List Nat->Prop
 | [],_,ys,rs=>ys=[]/\rs=[]
 |(a,τ)::sg,x,ys,rs=>∃y ys' r1 r2,ys=y::ys'/\rs=r1++r2/\FL w S a τ x.1 y r1/\CC w S sg x.2 ys' r2
theorem DM.mono{w w':World}{S S':Nat->Prop}(hS:∀r,S r->S' r)(hH:∀r,S r->w'.heap[r]? = w.heap[r]?){a:Bool}{τ:Shape}{x:Ab τ}{y:Value}(h:DM w S a τ x y):DM w' S' a τ x y:=by
 cases a with
 |true=>obtain⟨cs,h1,h2⟩:=h;exact⟨cs,h1,h2.mono hS hH⟩
 |false=>exact AM.mono hS hH h
theorem FL.mono{w w':World}{S S':Nat->Prop}(hS:∀r,S r->S' r)(hH:∀r,S r->w'.heap[r]? = w.heap[r]?){a:Bool}{τ:Shape}{x:Ab τ}{y:Value}{rs:List Nat}(hR:∀r∈rs,w'.heap[r]? = w.heap[r]?)(h:FL w S a τ x y rs):FL w' S' a τ x y rs:=by
 cases τ with
 |slice e=>
  cases a with
  |true=>
   obtain⟨k,h1,h2,h3⟩:=h;refine⟨k,h1,h2,?_⟩;rcases h3 with h3|⟨r,vs,T,h4,rfl,h5,h6,h7⟩
   ·exact .inl h3
   ·exact .inr ⟨r,vs,T,h4,rfl,(hR r (by simp)).trans h5,h6,h7.mono hS hH⟩
  |false=>exact⟨h.1,h.2.mono hS hH⟩
 |_=>exact⟨h.1,DM.mono hS hH h.2⟩
theorem CC.mono{w w':World}{S S':Nat->Prop}(hS:∀r,S r->S' r)(hH:∀r,S r->w'.heap[r]? = w.heap[r]?):∀{sg:Aa} {x:DenS sg} {ys:List Value} {rs:List Nat},(∀r∈rs,w'.heap[r]? = w.heap[r]?)->CC w S sg x ys rs->CC w' S' sg x ys rs
 | [],_,_,_,_,h=>h
 |(a,τ)::sg,_,_,_,hR,⟨y,ys',r1,r2,h1,h2,h3,h4⟩=>by
  subst h2
  exact⟨y,ys',r1,r2,h1,rfl,h3.mono hS hH (fun r hr=>hR r (cv.2 (.inl hr))),h4.mono hS hH (fun r hr=>hR r (cv.2 (.inr hr)))⟩
variable {base:Base}{S0:Nat->Prop}{σ:Sit}
theorem Wq(ho:Ok base S0 σ){b:Nat}{τ:Shape}{xs:List (Ab τ)}(he:Ac σ.mem b=.arr τ xs∨Ac σ.mem b=.acc τ xs){y:Value}(hy:Ay σ (.own b) y):
  ∃(σ':Sit) (rs:List Nat),σ'.mem=σ.mem.set b .gone/\σ'.w=σ.w/\σ'.E=σ.E/\σ'.S=σ.S/\Ok base S0 σ'/\Goes σ σ'/\FW σ.w σ.S τ xs y rs/\rs.Nodup/\(∀r∈rs,(∃b,σ.owned b r)/\∀b,¬σ'.owned b r)/\∀b r,σ'.owned b r->σ.owned b r:=by
 have hlt:b<σ.mem.length:=Dr (by rcases he with h|h<;>rw[h]<;>simp);have hset:∀b',Ac (σ.mem.set b .gone) b'=if b'=b then .gone else Ac σ.mem b':=fun b'=>B4 hlt;have hold:∀b' r,Sit.owned ⟨σ.E,σ.mem.set b .gone,σ.w,σ.S⟩ b' r->σ.owned b' r/\b'≠b:=fun b' r ⟨h1,h2⟩=>by
  simp only at h1;rw[hset]at h1;split at h1
  ·exact h1.elim
  ·rename_i hne;exact⟨⟨h1,h2⟩,hne⟩
 have hg:Goes σ ⟨σ.E,σ.mem.set b .gone,σ.w,σ.S⟩:=by
  refine⟨fun _ h=>h,fun _ _=>rfl,by simp,fun b' hb'=>?_⟩;by_cases hbb:b'=b
  ·subst hbb;have hgone:Ac (σ.mem.set b' .gone) b'=.gone:=by rw[hset,if_pos rfl]
   unfold Bm;rcases he with h|h
   ·rw[h];exact .inr (.inr hgone)
   ·rw[h];exact .inr (.inr hgone)
  ·exact Bm.refl (by simp only;rw[hset,if_neg hbb]) rfl rfl
 have hok:Ok base S0 ⟨σ.E,σ.mem.set b .gone,σ.w,σ.S⟩:=by
  refine⟨ho.below,ho.stab0,ho.stab,fun b'=>?_,fun b' r h=>ho.own b' r (hold b' r h).1,fun b1 b2 r h1 h2=>ho.inj b1 b2 r (hold b1 r h1).1 (hold b2 r h2).1⟩;by_cases hbb:b'=b
  ·subst hbb;unfold AA;simp only;rw[hset,if_pos rfl];trivial
  ·exact AA.keep hg (by simp only;rw[hset,if_neg hbb]) rfl rfl (fun _ _=>rfl) (ho.ent b')
 have hent:xs.length<=σ.E.κ b/\σ.E.κ b<BJ/\((σ.E.β b=none/\σ.E.κ b=0) ∨
   ∃r vs T,σ.E.β b=some r/\σ.w.heap[r]? = some (.cells vs T (0,0))/\vs.size=σ.E.κ b*τ.width/\Rows σ.w σ.S τ vs 0 xs):=by
  have:=ho.ent b;unfold AA at this;rcases he with h|h
  ·rw[h]at this;exact this
  ·rw[h]at this;exact this
 have hyv:y=.slice ((σ.E.β b).map fun r=>⟨r,0,none⟩) xs.length (σ.E.κ b):=by
  obtain⟨_,_,hm⟩:=hy;rcases he with h|h
  ·rw[h]at hm;exact hm
  ·rw[h]at hm;exact hm
 obtain⟨h1,h2,h3⟩:=hent;rcases h3 with⟨h4,h5⟩|⟨r,vs,T,h4,h5,h6,h7⟩
 ·rw[h4]at hyv;exact⟨⟨σ.E,σ.mem.set b .gone,σ.w,σ.S⟩,[],rfl,rfl,rfl,rfl,hok,hg,⟨_,h1,h2,.inl ⟨hyv,h5,rfl⟩⟩,ll,fun r hr=>by simp at hr,fun b' r h=>(hold b' r h).1⟩
 ·rw[h4]at hyv;have hown:σ.owned b r:=⟨by rcases he with h|h<;>rw[h]<;>trivial,h4⟩
  refine⟨⟨σ.E,σ.mem.set b .gone,σ.w,σ.S⟩,[r],rfl,rfl,rfl,rfl,hok,hg,⟨_,h1,h2,.inr ⟨r,vs,T,hyv,rfl,h5,h6,h7⟩⟩,by simp,fun r' hr'=>?_,fun b' r h=>(hold b' r h).1⟩;simp at hr';subst hr';exact⟨⟨b,hown⟩,fun b' h=>(hold b' r' h).2 (ho.inj b' b r' (hold b' r' h).1 hown)⟩
theorem bDI(ho:Ok base S0 σ){a:Bool}{τ:Shape}{z:SV}{y:Value}(hz:Be σ z y){x:Ab τ}{mem':Ai}(h:IP σ.mem a τ z=some (x,mem')):
  ∃(σ':Sit) (rs:List Nat),σ'.mem=mem'/\σ'.w=σ.w/\σ'.E=σ.E/\σ'.S=σ.S/\Ok base S0 σ'/\Goes σ σ'/\FL σ.w σ.S a τ x y rs/\rs.Nodup/\(∀r∈rs,(∃b,σ.owned b r)/\∀b,¬σ'.owned b r)/\∀b r,σ'.owned b r->σ.owned b r:=by
 have plain:∀{a:Bool} {τ:Shape} {x:Ab τ},DW σ.mem a τ z=some (x,mem')->mem'=σ.mem/\DM σ.w σ.S a τ x y:=fun {a τ x} h=>by
  unfold DW at h;split at h
  ·rename_i c;cases a with
   |true=>cases h
   |false=>
    simp only[cond_false]at h;split at h
    ·rename_i u eu;cases h;obtain⟨y1,y2,e,d,r⟩:=Ns (All2.cons hz All2.nil) eu;cases r;rw[df]at e;exact⟨rfl,by show AM _ _ _ _ _;rw[e];exact d⟩
    ·cases h
  ·rename_i cs;cases a with
   |false=>cases h
   |true=>
    simp only[cond_true]at h;split at h
    ·rename_i u eu;cases h;obtain⟨zs,e0,ha⟩:=hz;obtain⟨y1,y2,e,d,r⟩:=Ns ha eu;cases r;rw[df]at e;exact⟨rfl,zs,e0,by rw[e];exact d⟩
    ·cases h
 have CN:∀{rs:List Nat},mem'=σ.mem->rs=[]->FL σ.w σ.S a τ x y rs->∃(σ':Sit) (rs:List Nat),σ'.mem=mem'/\σ'.w=σ.w/\σ'.E=σ.E/\σ'.S=σ.S/\Ok base S0 σ'/\Goes σ σ'/\FL σ.w σ.S a τ x y rs/\rs.Nodup/\(∀r∈rs,(∃b,σ.owned b r)/\∀b,¬σ'.owned b r)/\∀b r,σ'.owned b r->σ.owned b r:=
  fun hm hr he=>⟨σ,_,hm.symm,rfl,rfl,rfl,ho,Goes.refl σ,he,by subst hr;exact ll,fun r h=>by subst hr;simp at h,fun _ _ h=>h⟩
 cases τ with
 |slice e=>
  cases a with
  |false=>obtain⟨h1,h2⟩:=plain h;exact CN h1 rfl ⟨rfl,h2⟩
  |true=>
   simp only[IP,cond_true]at h;split at h
   ·rename_i b;split at h
    ·rename_i τ' xs eb;split at h
     ·rename_i xs' ec;cases h;obtain⟨hττ,hxs⟩:=Iu ec;subst hττ;simp only at hxs;subst hxs;exact Wq ho (.inl eb) hz
     ·cases h
    ·rename_i τ' xs eb;split at h
     ·rename_i xs' ec;cases h;obtain⟨hττ,hxs⟩:=Iu ec;subst hττ;simp only at hxs;subst hxs;exact Wq ho (.inr eb) hz
     ·cases h
    ·cases h
   ·cases h;exact CN rfl rfl ⟨0,bj _,by decide,.inl ⟨hz.1,rfl,rfl⟩⟩
   ·cases h
 |_=>obtain⟨h1,h2⟩:=plain h;exact CN h1 rfl ⟨rfl,h2⟩
theorem cE:∀{sg:Aa} {σ:Sit} (_:Ok base S0 σ) {args:List SV} {ys:List Value} (_:All2 (Be σ) args ys) {x:DenS sg} {mem':Ai},CM σ.mem sg args=some (x,mem') ->
  ∃(σ':Sit) (rs:List Nat),σ'.mem=mem'/\σ'.w=σ.w/\σ'.E=σ.E/\σ'.S=σ.S/\Ok base S0 σ'/\Goes σ σ'/\CC σ.w σ.S sg x ys rs/\rs.Nodup/\(∀r∈rs,(∃b,σ.owned b r)/\∀b,¬σ'.owned b r)/\∀b r,σ'.owned b r->σ.owned b r
 | [],σ,ho,[],_,.nil,x,mem',h=>by
  simp only[CM]at h;cases h
  exact⟨σ,[],rfl,rfl,rfl,rfl,ho,Goes.refl σ,⟨rfl,rfl⟩,ll,fun r h=>by simp at h,fun _ _ h=>h⟩
 | [],σ,ho,_::_,_,_,x,mem',h=>by simp[CM]at h
 |_::_,σ,ho,[],_,_,x,mem',h=>by simp[CM]at h
 |(a,τ)::sg,σ,ho,z::args,_,.cons (b:=y) (bs:=ys) hz ht,x,mem',h=>by
  simp only[CM]at h
  split at h
  ·rename_i u m1 e1
   split at h
   ·rename_i v m2 e2
    cases h
    obtain⟨σ1,r1,a1,a2,a3,a4,a5,a6,a7,a8,a9,a10⟩:=bDI ho hz e1
    rw[←a1]at e2
    obtain⟨σ2,r2,b1,b2,b3,b4,b5,b6,b7,b8,b9,b10⟩:=cE a5 (ht.mono fun _ _=>a6.repV) e2
    rw[a2,a4]at b7
    refine⟨σ2,r1++r2,b1,b2.trans a2,b3.trans a3,b4.trans a4,b5,a6.trans b6,⟨y,ys,r1,r2,rfl,rfl,a7,b7⟩,?_,fun r hr=>?_,fun b r h=>a10 b r (b10 b r h)⟩
    ·refine ji.2 ⟨a8,b8,fun r h1 r' h2 e=>?_⟩
     subst e
     obtain⟨b,hb⟩:=(b9 r h2).1
     exact(a9 r h1).2 b hb
    ·rcases cv.1 hr with hr|hr
     ·exact⟨(a9 r hr).1,fun b h=>(a9 r hr).2 b (b10 b r h)⟩
     ·obtain⟨⟨b,hb⟩,h2⟩:=b9 r hr
      exact⟨⟨b,a10 b r hb⟩,h2⟩
   ·cases h
  ·cases h
theorem TK:∀{sg:Aa} {σ:Sit} (_:Ok base S0 σ) {args args':List SV} {mem':Ai},Ba σ.mem sg args=(args',mem') ->
  ∃σ':Sit,σ'.mem=mem'/\σ'.w=σ.w/\σ'.E=σ.E/\Ok base S0 σ'/\Goes σ σ'/\∀ys,All2 (Be σ) args ys->All2 (Be σ') args' ys
 | [],σ,ho,args,args',mem',h=>by
  simp only[Ba]at h;cases h
  exact⟨σ,rfl,rfl,rfl,ho,Goes.refl σ,fun _ h=>h⟩
 |_::_,σ,ho,[],args',mem',h=>by
  simp only[Ba]at h;cases h
  exact⟨σ,rfl,rfl,rfl,ho,Goes.refl σ,fun _ h=>h⟩
 |(a,τ)::sg,σ,ho,z::args,args',mem',h=>by
  simp only[Ba]at h
  cases hb:KE a τ with
  |true=>
   rw[hb]at h
   simp only[cond_true]at h
   cases e:Ba σ.mem sg args with
   |mk r' m' =>
    rw[e]at h;simp only at h;cases h
    obtain⟨σ1,a1,a2,a3,a4,a5,a6⟩:=TK ho e
    exact⟨σ1,a1,a2,a3,a4,a5,fun ys hy=>by
     cases hy with
     |cons h1 h2=>exact .cons (a5.repV h1) (a6 _ h2)⟩
  |false=>
   rw[hb]at h
   simp only[cond_false]at h
   cases e1:FA σ.mem z with
   |mk z' m1=>
    rw[e1]at h;simp only at h
    obtain⟨σ1,a1,a2,a3,a4,a5,a6⟩:=aIY ho e1
    cases e2:Ba m1 sg args with
    |mk r' m' =>
     rw[e2]at h;simp only at h;cases h
     rw[←a1]at e2
     obtain⟨σ2,b1,b2,b3,b4,b5,b6⟩:=TK a4 e2
     refine⟨σ2,b1,b2.trans a2,b3.trans a3,b4,a5.trans b5,fun ys hy=>?_⟩
     cases hy with
     |cons h1 h2=>exact .cons (b5.repV (a6 _ h1)) (b6 _ (h2.mono fun _ _=>a5.repV))
def Ez(base:Base)(σ:Sit)(r:Nat):Prop:=base.new r/\r<σ.w.heap.size/\¬σ.S r/\∀b,¬σ.owned b r
theorem aJB(ho:Ok base S0 σ){τ:Shape}{xs:List (Ab τ)}{y:Value}{rs:List Nat}(h:FW σ.w σ.S τ xs y rs)(hl:∀r∈rs,Ez base σ r):
  ∃σ':Sit,σ'.mem=σ.mem++[.arr τ xs]/\σ'.w=σ.w/\σ'.S=σ.S/\Ok base S0 σ'/\Goes σ σ'/\Ay σ' (.own σ.mem.length) y/\∀b r,σ'.owned b r->σ.owned b r∨r∈rs:=by
 obtain⟨k,h1,h2,h3⟩:=h;have main:∀(A:Option Nat),y=.slice (A.map fun r=>⟨r,0,none⟩) xs.length k->(∀r,A=some r->r∈rs)->((A=none/\k=0)∨∃r vs T,A=some r/\σ.w.heap[r]? = some (.cells vs T (0,0))/\vs.size=k*τ.width/\Rows σ.w σ.S τ vs 0 xs) ->
   ∃σ':Sit,σ'.mem=σ.mem++[.arr τ xs]/\σ'.w=σ.w/\σ'.S=σ.S/\Ok base S0 σ'/\Goes σ σ'/\Ay σ' (.own σ.mem.length) y/\∀b r,σ'.owned b r->σ.owned b r∨r∈rs:=fun A hy hA hc=>by
  let σ':Sit:={E:=⟨AD σ.E.β σ.mem.length A,AD σ.E.κ σ.mem.length k⟩,mem:=σ.mem++[.arr τ xs],w:=σ.w,S:=σ.S}
  have hblk:Ac σ'.mem σ.mem.length=.arr τ xs:=Is;have hold:∀b r,b≠σ.mem.length->σ'.owned b r->σ.owned b r:=fun b r hne ⟨g1,g2⟩=>by
   rcases aq b σ.mem.length with hb|hb
   ·simp only[σ']at g1 g2;rw[Hc hb]at g1;exact⟨g1,by simpa[AD,hne]using g2⟩
   ·simp only[σ']at g1;rw[R8 (by omega)]at g1;exact g1.elim
  have hnew:∀r,σ'.owned σ.mem.length r->A=some r:=fun r ⟨_,g2⟩=>by simpa[σ',AD]using g2
  have hg:Goes σ σ':=⟨fun _ h=>h,fun _ _=>rfl,by simp[σ'],fun b hb=>Bm.refl (Hc hb) (by simp[σ',AD];omega) (by simp[σ',AD];omega)⟩
  refine⟨σ',rfl,rfl,rfl,⟨ho.below,ho.stab0,ho.stab,fun b=>?_,fun b r h=>?_,fun b b' r h h'=>?_⟩,hg,⟨by simp[σ'],by rw[hy];trivial,?_⟩,fun b r h=>?_⟩
  ·by_cases hb:b=σ.mem.length
   ·subst hb;unfold AA;rw[hblk];refine⟨by simpa[σ',AD]using h1,by simpa[σ',AD]using h2,?_⟩;rcases hc with⟨g1,g2⟩|⟨r,vs,T,g1,g2,g3,g4⟩
    ·exact .inl ⟨by simp[σ',AD,g1],by simp[σ',AD,g2]⟩
    ·exact .inr ⟨r,vs,T,by simp[σ',AD,g1],g2,by simpa[σ',AD]using g3,g4⟩
   ·rcases aq b σ.mem.length with h' | h'
    ·exact AA.keep hg (Hc h') (by simp[σ',AD,hb]) (by simp[σ',AD,hb]) (fun _ _=>rfl) (ho.ent b)
    ·unfold AA;simp only[σ'];rw[R8 (by omega)];trivial
  ·by_cases hb:b=σ.mem.length
   ·subst hb;have:=hl r (hA r (hnew r h));exact⟨this.1,this.2.1,this.2.2.1⟩
   ·exact ho.own b r (hold b r hb h)
  ·by_cases hb:b=σ.mem.length<;>by_cases hb':b'=σ.mem.length
   ·rw[hb,hb']
   ·subst hb;exact((hl r (hA r (hnew r h))).2.2.2 b' (hold b' r hb' h')).elim
   ·subst hb';exact((hl r (hA r (hnew r h'))).2.2.2 b (hold b r hb h)).elim
   ·exact ho.inj b b' r (hold b r hb h) (hold b' r hb' h')
  ·rw[hblk];simp only[σ',AD,if_true];exact hy
  ·by_cases hb:b=σ.mem.length
   ·subst hb;exact .inr (hA r (hnew r h))
   ·exact .inl (hold b r hb h)
 rcases h3 with⟨g1,g2,g3⟩|⟨r,vs,T,g1,g2,g3,g4,g5⟩
 ·exact main none g1 (fun r h=>by cases h) (.inl ⟨rfl,g2⟩)
 ·subst g2;exact main (some r) g1 (fun r' h=>by cases h;simp) (.inr ⟨r,vs,T,rfl,g3,g4,g5⟩)
theorem aWo(ho:Ok base S0 σ){a:Bool}{τ:Shape}{x:Ab τ}{y:Value}{rs:List Nat}(h:FL σ.w σ.S a τ x y rs)(hl:∀r∈rs,Ez base σ r){v:SV}{mem':Ai}(hg:DI σ.mem a τ x=some (v,mem')):
  ∃σ':Sit,σ'.mem=mem'/\σ'.w=σ.w/\σ'.S=σ.S/\Ok base S0 σ'/\Goes σ σ'/\Be σ' v y/\∀b r,σ'.owned b r->σ.owned b r∨r∈rs:=by
 have plain:∀{a:Bool} {τ:Shape} {x:Ab τ},DM σ.w σ.S a τ x y->DI.giveP σ.mem a τ x=some (v,mem')->∃σ':Sit,σ'.mem=mem'/\σ'.w=σ.w/\σ'.S=σ.S/\Ok base S0 σ'/\Goes σ σ'/\Be σ' v y/\∀b r,σ'.owned b r->σ.owned b r∨r∈rs:=fun {a τ x} hp e=>by
  unfold DI.giveP at e;cases a with
  |true=>
   simp only[cond_true,ab]at e;cases e;obtain⟨cs,h4,h5⟩:=hp;exact⟨σ,rfl,rfl,rfl,ho,Goes.refl σ,⟨cs,h4,M7 h5⟩,fun _ _ h=>.inl h⟩
  |false=>
   simp only[cond_false]at e;split at e
   ·rename_i c ec;cases e;have:=M7 (σ:=σ) hp;rw[ec]at this;cases this with
    |cons h _=>exact⟨σ,rfl,rfl,rfl,ho,Goes.refl σ,h,fun _ _ h=>.inl h⟩
   ·cases e
 cases τ with
 |slice e=>
  cases a with
  |true=>
   simp only[DI,cond_true,ab]at hg;cases hg;exact aJB ho h hl
  |false=>exact plain h.2 hg
 |_=>exact plain h.2 hg
theorem aA:∀{sg:Aa} {σ:Sit} (_:Ok base S0 σ) {x:DenS sg} {ys:List Value} {rs:List Nat} (_:CC σ.w σ.S sg x ys rs) (_:rs.Nodup) (_:∀r∈rs,Ez base σ r) {vs:List SV} {mem':Ai},CH σ.mem sg x=some (vs,mem') ->
  ∃σ':Sit,σ'.mem=mem'/\σ'.w=σ.w/\σ'.S=σ.S/\Ok base S0 σ'/\Goes σ σ'/\All2 (Be σ') vs ys
 | [],σ,ho,x,ys,rs,h,_,_,vs,mem',e=>by
  simp only[CH]at e;cases e
  obtain⟨rfl,_⟩:=h
  exact⟨σ,rfl,rfl,rfl,ho,Goes.refl σ,.nil⟩
 |(a,τ)::sg,σ,ho,x,ys,rs,h,hn,hl,vs,mem',e=>by
  simp only[CH]at e
  obtain⟨y,ys',r1,r2,rfl,rfl,h1,h2⟩:=h
  split at e
  ·rename_i v m1 e1
   split at e
   ·rename_i r m2 e2
    cases e
    obtain⟨n1,n2,n3⟩:=ji.1 hn
    obtain⟨σ1,a1,a2,a3,a4,a5,a6,a7⟩:=aWo ho h1 (fun r hr=>hl r (cv.2 (.inl hr))) e1
    rw[←a1]at e2
    rw[←a2,←a3]at h2
    obtain⟨σ2,b1,b2,b3,b4,b5,b6⟩:=aA a4 h2 n2 (fun r hr=>by
     obtain⟨l1,l2,l3,l4⟩:=hl r (cv.2 (.inr hr))
     refine⟨l1,by rw[a2];exact l2,by rw[a3];exact l3,fun b hb=>?_⟩
     rcases a7 b r hb with g|g
     ·exact l4 b g
     ·exact n3 r g r hr rfl) e2
    exact⟨σ2,b1,b2.trans a2,b3.trans a3,b4,a5.trans b5,.cons (b5.repV a6) b6⟩
   ·cases e
  ·cases e
theorem bDG(ho:Ok base S0 σ){a:Bool}{τ:Shape}{z:SV}{x:Ab τ}{mem':Ai}(h:IP σ.mem a τ z=some (x,mem')):
  ∃σ':Sit,σ'.mem=mem'/\σ'.w=σ.w/\Ok base S0 σ'/\Goes σ σ'/\mem'.length=σ.mem.length:=by
 have plain:∀{a:Bool} {τ:Shape} {x:Ab τ},DW σ.mem a τ z=some (x,mem')->mem'=σ.mem:=fun {a τ x} h=>by
  unfold DW at h;cases z<;>cases a<;>simp only[cond_true,cond_false]at h<;>first|(cases h;done)|skip
  ·split at h
   ·cases h;rfl
   ·cases h
  ·split at h
   ·cases h;rfl
   ·cases h
 have same:mem'=σ.mem->∃σ':Sit,σ'.mem=mem'/\σ'.w=σ.w/\Ok base S0 σ'/\Goes σ σ'/\mem'.length=σ.mem.length:=fun e=>⟨σ,e.symm,rfl,ho,Goes.refl σ,by rw[e]⟩
 have gone:∀{b:Nat} {τ:Shape} {xs:List (Ab τ)},Ac σ.mem b=.arr τ xs∨Ac σ.mem b=.acc τ xs->mem'=σ.mem.set b .gone->∃σ':Sit,σ'.mem=mem'/\σ'.w=σ.w/\Ok base S0 σ'/\Goes σ σ'/\mem'.length=σ.mem.length:=fun {b τ xs} he e=>by
  have hy:Ay σ (.own b) (.slice ((σ.E.β b).map fun r=>⟨r,0,none⟩) xs.length (σ.E.κ b)):=by
   refine⟨Dr (by rcases he with h|h<;>rw[h]<;>simp),trivial,?_⟩;rcases he with h|h
   ·rw[h]
   ·rw[h]
  obtain⟨σ',rs,a1,a2,a3,a4,a5,a6,_⟩:=Wq ho he hy;exact⟨σ',a1.trans e.symm,a2,a5,a6,by rw[e];simp⟩
 cases τ with
 |slice e=>
  cases a with
  |false=>exact same (plain h)
  |true=>
   simp only[IP,cond_true]at h;split at h
   ·split at h
    ·rename_i eb;split at h
     ·cases h;exact gone (.inl eb) rfl
     ·cases h
    ·rename_i eb;split at h
     ·cases h;exact gone (.inr eb) rfl
     ·cases h
    ·cases h
   ·cases h;exact same rfl
   ·cases h
 |_=>exact same (plain h)
theorem aNU:∀{sg:Aa} {σ:Sit} (_:Ok base S0 σ) {args:List SV} {x:DenS sg} {mem':Ai},CM σ.mem sg args=some (x,mem')->∃σ':Sit,σ'.mem=mem'/\σ'.w=σ.w/\Ok base S0 σ'/\Goes σ σ'/\mem'.length=σ.mem.length
 | [],σ,ho,[],x,mem',h=>by simp only[CM]at h;cases h;exact⟨σ,rfl,rfl,ho,Goes.refl σ,rfl⟩
 | [],σ,ho,_::_,x,mem',h=>by simp[CM]at h
 |_::_,σ,ho,[],x,mem',h=>by simp[CM]at h
 |(a,τ)::sg,σ,ho,z::args,x,mem',h=>by
  simp only[CM]at h
  split at h
  ·rename_i u m1 e1
   split at h
   ·rename_i v m2 e2
    cases h
    obtain⟨σ1,a1,a2,a3,a4,a5⟩:=bDG ho e1
    rw[←a1]at e2
    obtain⟨σ2,b1,b2,b3,b4,b5⟩:=aNU a3 e2
    exact⟨σ2,b1,b2.trans a2,b3,a4.trans b4,by rw[b5,a1,a5]⟩
   ·cases h
  ·cases h
theorem aH3:∀{l:List (Nat×Nat)} {mem m:Ai} {ns:List Nat},It mem l=some (ns,m)->m.length=mem.length
 | [],mem,m,ns,h=>by simp only[It]at h;cases h;rfl
 |(b,off+1)::l,mem,m,ns,h=>by simp[It]at h
 |(b,0)::l,mem,m,ns,h=>by
  simp only[It]at h
  split at h
  ·split at h
   ·rename_i e2
    cases h
    rw[aH3 e2]
    simp
   ·cases h
  ·cases h
theorem aVG:∀{sg:Aa} {mem:Ai} {args args':List SV} {mem':Ai},Ba mem sg args=(args',mem')->mem'.length=mem.length:=by
 have h1:∀(mem:Ai) (c:SC),(Da mem c).2.length=mem.length:=fun mem c=>by
  unfold Da;split
  ·split
   ·rename_i e;exact aH3 e
   ·rfl
  ·split<;>simp
  ·rfl
 have h2:∀(l:List SC) (mem:Ai),(ES mem l).2.length=mem.length:=fun l=>by
  induction l with
  |nil=>intro mem;rfl
  |cons c r ih=>intro mem;simp only[ES];rw[ih,h1]
 have h3:∀(mem:Ai) (z:SV),(FA mem z).2.length=mem.length:=fun mem z=>by
  cases z with
  |one c=>simp only[FA];exact h1 mem c
  |agg cs=>simp only[FA];exact h2 cs mem
 intro sg;induction sg with
 |nil=>intro mem args args' mem' h;simp only[Ba]at h;cases h;rfl
 |cons p sg ih=>
  intro mem args args' mem' h;obtain⟨a,τ⟩:=p;cases args with
  |nil=>simp only[Ba]at h;cases h;rfl
  |cons z r=>
   simp only[Ba]at h;cases hb:KE a τ with
   |true=>
    rw[hb]at h;simp only[cond_true]at h;cases e:Ba mem sg r with
    |mk r' m'=>rw[e]at h;simp only at h;cases h;exact ih e
   |false=>
    rw[hb]at h;simp only[cond_false]at h;cases e:Ba (FA mem z).2 sg r with
    |mk r' m'=>rw[e]at h;simp only at h;cases h;rw[ih e,h3]
theorem wV:∀{sg:Aa} {mem:Ai} {x:DenS sg} {vs:List SV} {mem':Ai},CH mem sg x=some (vs,mem')->∃l,mem'=mem++l
 | [],mem,x,vs,mem',h=>by simp only[CH]at h;cases h;exact⟨[],by simp⟩
 |(a,τ)::sg,mem,x,vs,mem',h=>by
  simp only[CH]at h
  split at h
  ·rename_i v m1 e1
   split at h
   ·rename_i r m2 e2
    cases h
    obtain⟨l2,h2⟩:=wV e2
    have plain:∀{τ:Shape} {y:Ab τ},DI.giveP mem a τ y=some (v,m1)->m1=mem:=fun {τ y} h=>by
     unfold DI.giveP at h
     cases a with
     |true=>simp only[cond_true]at h;cases h;rfl
     |false=>
      simp only[cond_false]at h
      split at h
      ·cases h;rfl
      ·cases h
    have h1:∃l,m1=mem++l:=by
     cases τ with
     |slice e=>
      simp only[DI]at e1
      cases a with
      |true=>simp only[cond_true]at e1;cases e1;exact⟨_,rfl⟩
      |false=>
       simp only[cond_false]at e1
       split at e1
       ·cases e1;exact⟨[],by simp⟩
       ·cases e1
     |_=>exact⟨[],by rw[df];exact plain e1⟩
    obtain⟨l1,h1⟩:=h1
    exact⟨l1++l2,by rw[h2,h1,fc]⟩
   ·cases h
  ·cases h
theorem wW{sg:Aa}{mem:Ai}{x:DenS sg}{vs:List SV}{mem':Ai}(h:CH mem sg x=some (vs,mem'))(hl:mem'.length=mem.length):mem'=mem:=by
 obtain⟨l,rfl⟩:=wV h;have:l=[]:=cg (by rw[dx]at hl;omega);rw[this,df]
end Vx
namespace Vx
open Go Go.RowKit
def SS(w:World)(S:Nat->Prop):(k:LK)->k.D->Value->Value->List Nat->Prop
 |.win e,x,y,y0,rs=>FW w S e x.1 y0 rs/\x.2.1+x.2.2<=x.1.length/\∃A c,y=.slice A x.2.2 c/\x.2.2<=c/\c<BJ /\
   (0<x.2.2->∃r k,y0=.slice (some ⟨r,0,none⟩) x.1.length k/\A=some ⟨r,x.2.1*e.width,none⟩)
 |.ref τ,x,y,y0,rs=>y0=y/\∃r vs T,y=.pointer (some ⟨r,0,none⟩)/\rs=[r]/\w.heap[r]? = some (.cells vs T (0,0))/\AM w S τ x vs.toList
def KL(w:World)(S:Nat->Prop):(k:LK)->k.B->Value->List Nat->Prop
 |.win e,xs,y0,rs=>FW w S e xs y0 rs
 |.ref τ,x,y0,rs=>∃r vs T,y0=.pointer (some ⟨r,0,none⟩)/\rs=[r]/\w.heap[r]? = some (.cells vs T (0,0))/\AM w S τ x vs.toList
theorem FW.mono{w w':World}{S S':Nat->Prop}(hS:∀r,S r->S' r)(hH:∀r,S r->w'.heap[r]? = w.heap[r]?){e:Shape}{xs:List (Ab e)}{y:Value}{rs:List Nat}(hR:∀r∈rs,w'.heap[r]? = w.heap[r]?)(h:FW w S e xs y rs):FW w' S' e xs y rs:=by
 obtain⟨k,h1,h2,h3⟩:=h;refine⟨k,h1,h2,?_⟩;rcases h3 with h3|⟨r,vs,T,h4,rfl,h5,h6,h7⟩
 ·exact .inl h3
 ·exact .inr ⟨r,vs,T,h4,rfl,(hR r (by simp)).trans h5,h6,h7.mono hS hH⟩
theorem SS.mono{w w':World}{S S':Nat->Prop}(hS:∀r,S r->S' r)(hH:∀r,S r->w'.heap[r]? = w.heap[r]?){k:LK}{x:k.D}{y y0:Value}{rs:List Nat}(hR:∀r∈rs,w'.heap[r]? = w.heap[r]?)(h:SS w S k x y y0 rs):SS w' S' k x y y0 rs:=by
 cases k with
 |win e=>exact⟨h.1.mono hS hH hR,h.2⟩
 |ref τ=>
  obtain⟨h1,r,vs,T,h2,rfl,h3,h4⟩:=h;exact⟨h1,r,vs,T,h2,rfl,(hR r (by simp)).trans h3,h4.mono hS hH⟩
theorem KL.mono{w:World}{S S':Nat->Prop}(hS:∀r,S r->S' r){k:LK}{x:k.B}{y0:Value}{rs:List Nat}(h:KL w S k x y0 rs):KL w S' k x y0 rs:=by
 cases k with
 |win e=>exact FW.mono hS (fun _ _=>rfl) (fun _ _=>rfl) h
 |ref τ=>
  obtain⟨r,vs,T,h2,h2',h3,h4⟩:=h;exact⟨r,vs,T,h2,h2',h3,h4.mono hS (fun _ _=>rfl)⟩
def Was(σ:Sit)(k:LK)(b:Nat)(y0:Value):Prop:=
 b<σ.mem.length/\match k with
  |.win e=>∃xs:List (Ab e),Ac σ.mem b=.arr e xs/\y0=.slice ((σ.E.β b).map fun r=>⟨r,0,none⟩) xs.length (σ.E.κ b)
  |.ref _=>∃cs r,Ac σ.mem b=.raw cs/\σ.E.β b=some r/\y0=.pointer (some ⟨r,0,none⟩)
variable {base:Base}{S0:Nat->Prop}{σ:Sit}
theorem aHE{α β:Type}{R R':α->β->Prop}:∀{as:List α} {bs:List β},All2 R as bs->(∀a b,a∈as->R a b->R' a b)->All2 R' as bs
 |_,_,.nil,_=>.nil
 |_,_,.cons h t,hR=>.cons (hR _ _ (by simp) h) (aHE t fun a b ha=>hR a b (by simp[ha]))
theorem Bm.same{σ σ' σ'':Sit}{b:Nat}(h:Bm σ σ' b)(hm:Ac σ''.mem b=Ac σ'.mem b)(hβ:σ''.E.β b=σ'.E.β b)(hκ:σ''.E.κ b=σ'.E.κ b)(hw:σ''.w=σ'.w)(hS:σ''.S=σ'.S):Bm σ σ'' b:=by
 unfold Bm at h⊢;cases e:Ac σ.mem b with
 |gone=>rw[e]at h;simp only at h⊢;rw[hm];exact h
 |raw cs=>rw[e]at h;simp only at h⊢;rw[hm,hβ];exact h
 |arr τ xs=>rw[e]at h;simp only at h⊢;rw[hm,hβ,hκ,hw,hS];exact h
 |acc τ xs=>rw[e]at h;simp only at h⊢;rw[hm,hβ,hκ,hw,hS];exact h
 |froz τ xs=>rw[e]at h;simp only at h⊢;rw[hm];exact h
 |itr s p=>rw[e]at h;simp only at h⊢;rw[hm,hβ];exact h
theorem aWN(ho:Ok base S0 σ){b:Nat}{cs:List SC}(he:Ac σ.mem b=.raw cs):
  ∃σ':Sit,σ'.mem=σ.mem.set b .gone/\σ'.w=σ.w/\σ'.E=σ.E/\σ'.S=σ.S/\Ok base S0 σ'/\Goes σ σ'/\(∀r,σ.E.β b=some r->∀b,¬σ'.owned b r)/\∀b r,σ'.owned b r->σ.owned b r:=by
 have hlt:b<σ.mem.length:=Dr (by rw[he];simp);have hset:∀b',Ac (σ.mem.set b .gone) b'=if b'=b then .gone else Ac σ.mem b':=fun b'=>B4 hlt;have hold:∀b' r,Sit.owned ⟨σ.E,σ.mem.set b .gone,σ.w,σ.S⟩ b' r->σ.owned b' r/\b'≠b:=fun b' r ⟨h1,h2⟩=>by
  simp only at h1;rw[hset]at h1;split at h1
  ·exact h1.elim
  ·rename_i hne;exact⟨⟨h1,h2⟩,hne⟩
 have hg:Goes σ ⟨σ.E,σ.mem.set b .gone,σ.w,σ.S⟩:=by
  refine⟨fun _ h=>h,fun _ _=>rfl,by simp,fun b' hb'=>?_⟩;by_cases hbb:b'=b
  ·subst hbb;unfold Bm;rw[he];exact .inr (by rw[hset,if_pos rfl])
  ·exact Bm.refl (by simp only;rw[hset,if_neg hbb]) rfl rfl
 refine⟨⟨σ.E,σ.mem.set b .gone,σ.w,σ.S⟩,rfl,rfl,rfl,rfl,?_,hg,fun r hr b' h=>?_,fun b' r h=>(hold b' r h).1⟩
 ·refine⟨ho.below,ho.stab0,ho.stab,fun b'=>?_,fun b' r h=>ho.own b' r (hold b' r h).1,fun b1 b2 r h1 h2=>ho.inj b1 b2 r (hold b1 r h1).1 (hold b2 r h2).1⟩;by_cases hbb:b'=b
  ·subst hbb;unfold AA;simp only;rw[hset,if_pos rfl];trivial
  ·exact AA.keep hg (by simp only;rw[hset,if_neg hbb]) rfl rfl (fun _ _=>rfl) (ho.ent b')
 ·exact(hold b' r h).2 (ho.inj b' b r (hold b' r h).1 ⟨by rw[he];trivial,hr⟩)
theorem aLF(ho:Ok base S0 σ)(k:LK)(z:SV):∃σ':Sit,σ'.mem=KK σ.mem k z/\σ'.w=σ.w/\σ'.E=σ.E/\Ok base S0 σ'/\Goes σ σ':=by
 have same:∃σ':Sit,σ'.mem=σ.mem/\σ'.w=σ.w/\σ'.E=σ.E/\Ok base S0 σ'/\Goes σ σ':=⟨σ,rfl,rfl,rfl,ho,Goes.refl σ⟩
 cases k with
 |win e=>exact same
 |ref τ=>
  simp only[KK];split
  ·rename_i b;split
   ·rename_i cs eb;cases hf:ES σ.mem cs with
    |mk cs' m1=>
     simp only;obtain⟨σ1,a1,a2,a3,a4,a5,a6⟩:=Z4 ho hf;have hlt:b<σ.mem.length:=Dr (by rw[eb];simp);split;case h_2=>exact same
     rename_i cs1 hraw;rw[←a1]at hraw;have hlt1:b<σ1.mem.length:=Dr (by rw[hraw];simp);have he:=ho.ent b;unfold AA at he;rw[eb]at he;obtain⟨r,vs,T,h1,h2,h3⟩:=he;have hset:∀b',Ac (σ1.mem.set b (.raw cs')) b'=if b'=b then .raw cs' else Ac σ1.mem b':=fun b'=>B4 hlt1;have hg:Goes σ1 ⟨σ1.E,σ1.mem.set b (.raw cs'),σ1.w,σ1.S⟩:=by
      refine⟨fun _ h=>h,fun _ _=>rfl,by simp,fun b' hb'=>?_⟩;by_cases hbb:b'=b
      ·subst hbb;unfold Bm;rw[hraw];exact .inl ⟨rfl,cs',by rw[hset,if_pos rfl]⟩
      ·exact Bm.refl (by simp only;rw[hset,if_neg hbb]) rfl rfl
     have hold:∀b' r,Sit.owned ⟨σ1.E,σ1.mem.set b (.raw cs'),σ1.w,σ1.S⟩ b' r->σ1.owned b' r:=fun b' r ⟨g1,g2⟩=>by
      simp only at g1;rw[hset]at g1;split at g1
      ·rename_i hbb;exact⟨by rw[hbb,hraw];trivial,g2⟩
      ·exact⟨g1,g2⟩
     refine⟨⟨σ1.E,σ1.mem.set b (.raw cs'),σ1.w,σ1.S⟩,by rw[a1],a2,a3,⟨a4.below,a4.stab0,a4.stab,fun b'=>?_,fun b' r h=>a4.own b' r (hold b' r h),fun b1 b2 r h1 h2=>a4.inj b1 b2 r (hold b1 r h1) (hold b2 r h2)⟩,a5.trans hg⟩;by_cases hbb:b'=b
     ·subst hbb;unfold AA;simp only;rw[hset,if_pos rfl];exact⟨r,vs,T,by rw[a3];exact h1,by rw[a2];exact h2,(a6 _ h3).mono fun _ _=>hg.repC⟩
     ·exact AA.keep hg (by simp only;rw[hset,if_neg hbb]) rfl rfl (fun _ _=>rfl) (a4.ent b')
   ·exact same
  ·exact same
theorem aWL(ho:Ok base S0 σ){k:LK}{z:SV}{y:Value}(hz:Be σ z y){b:Nat}{x:k.D}{mem':Ai}(h:TS σ.mem k z=some (b,x,mem')):
  ∃(σ':Sit) (rs:List Nat) (y0:Value),σ'.mem=mem'/\σ'.w=σ.w/\σ'.S=σ.S/\Ok base S0 σ'/\Goes σ σ'/\SS σ'.w σ'.S k x y y0 rs/\rs.Nodup/\(∀r∈rs,Ez base σ' r)/\Was σ k b y0/\Ac σ'.mem b=.gone/\(∀r∈rs,∃b,σ.owned b r)/\(∀b r,σ'.owned b r->σ.owned b r)/\σ'.E=σ.E/\mem'=σ.mem.set b .gone:=by
 have row:∀{τ:Shape} {xs:List (Ab τ)} {b:Nat},Ac σ.mem b=.arr τ xs ->
   ∃(σ':Sit) (rs:List Nat),σ'.mem=σ.mem.set b .gone/\σ'.w=σ.w/\σ'.S=σ.S/\Ok base S0 σ'/\Goes σ σ'/\FW σ'.w σ'.S τ xs (.slice ((σ.E.β b).map fun r=>⟨r,0,none⟩) xs.length (σ.E.κ b)) rs/\rs.Nodup/\(∀r∈rs,Ez base σ' r)/\Ac σ'.mem b=.gone/\(∀r∈rs,∃b,σ.owned b r)/\(∀b r,σ'.owned b r->σ.owned b r)/\σ'.E=σ.E:=fun {τ xs b} eb=>by
  have hlt:b<σ.mem.length:=Dr (by rw[eb];simp);obtain⟨σ',rs,a1,a2,a3,a4,a5,a6,a7,a8,a9,a10⟩:=Wq ho (.inl eb) (y:=.slice ((σ.E.β b).map fun r=>⟨r,0,none⟩) xs.length (σ.E.κ b)) ⟨hlt,trivial,by rw[eb]⟩;refine⟨σ',rs,a1,a2,a4,a5,a6,by rw[a2,a4];exact a7,a8,fun r hr=>?_,by rw[a1,B4 hlt,if_pos rfl],fun r hr=>(a9 r hr).1,a10,a3⟩;obtain⟨⟨b',hb'⟩,hn⟩:=a9 r hr;have:=ho.own b' r hb';exact⟨this.1,by rw[a2];exact this.2.1,by rw[a4];exact this.2.2,hn⟩
 cases k with
 |win e=>
  simp only[TS]at h;split at h
  ·rename_i b' lo len;split at h
   ·rename_i τ xs eb;split at h
    ·rename_i xs' ec;simp only[ab,cu]at h;obtain⟨rfl,rfl,rfl⟩:=h;obtain⟨hττ,hxs⟩:=Iu ec;subst hττ;simp only at hxs;subst hxs;obtain⟨σ',rs,a1,a2,a2',a3,a4,a5,a6,a7,a8,a9,a10,a11⟩:=row eb;obtain⟨hlt,_,hm⟩:=hz;rw[eb]at hm;obtain⟨q1,A,c,hy,q2,q3,q4⟩:=hm;refine⟨σ',rs,_,a1,a2,a2',a3,a4,⟨a5,q1,A,c,hy,q2,q3,fun hn=>?_⟩,a6,a7,⟨hlt,_,eb,rfl⟩,a8,a9,a10,a11,rfl⟩;obtain⟨r,hr,hA⟩:=q4 hn;exact⟨r,_,by rw[hr];rfl,hA⟩
    ·cases h
   ·cases h
  ·rename_i b';split at h
   ·rename_i τ xs eb;split at h
    ·rename_i xs' ec;simp only[ab,cu]at h;obtain⟨rfl,rfl,rfl⟩:=h;obtain⟨hττ,hxs⟩:=Iu ec;subst hττ;simp only at hxs;subst hxs;obtain⟨σ',rs,a1,a2,a2',a3,a4,a5,a6,a7,a8,a9,a10,a11⟩:=row eb;obtain⟨hlt,_,hm⟩:=hz;rw[eb]at hm;have he:=ho.ent b';unfold AA at he;rw[eb]at he;obtain⟨q1,q2,_⟩:=he;refine⟨σ',rs,_,a1,a2,a2',a3,a4,⟨a5,by simp,_,_,hm,q1,q2,fun hn=>?_⟩,a6,a7,⟨hlt,_,eb,rfl⟩,a8,a9,a10,a11,rfl⟩;obtain⟨r,hβ⟩:=uZ (ho.ent b') eb hn;exact⟨r,_,by rw[hβ];rfl,by rw[hβ];simp⟩
    ·cases h
   ·cases h
  ·cases h
 |ref τ=>
  simp only[TS]at h;split at h
  ·rename_i b';split at h
   ·rename_i cs eb;split at h
    ·rename_i x' ep;simp only[ab,cu]at h;obtain⟨rfl,rfl,rfl⟩:=h;obtain⟨hlt,_,hm⟩:=hz;rw[eb]at hm;obtain⟨r,hβ,hy⟩:=hm;have he:=ho.ent b';unfold AA at he;rw[eb]at he;obtain⟨r',vs,T,h1,h2,h3⟩:=he;rw[hβ]at h1;cases h1;obtain⟨y1,y2,hyy,p1,p2⟩:=Ns h3 ep;cases p2;rw[df]at hyy;obtain⟨σ2,b1,b2,b3,b4,b5,b6,b7,b8⟩:=aWN ho eb;have hown:=ho.own b' r ⟨by rw[eb];trivial,hβ⟩;refine⟨σ2,[r],_,b1,b2,b4,b5,b6,⟨rfl,r,vs,T,hy,rfl,by rw[b2];exact h2,?_⟩,by simp,fun q hq=>?_,⟨hlt,cs,r,eb,hβ,hy⟩,?_,fun q hq=>?_,b8,b3,rfl⟩
     ·rw[b2,b4,hyy];exact p1
     ·simp at hq;subst hq;exact⟨hown.1,by rw[b2];exact hown.2.1,by rw[b4];exact hown.2.2,b7 q hβ⟩
     ·rw[b1,B4 hlt,if_pos rfl]
     ·simp at hq;subst hq;exact⟨b',by rw[eb];trivial,hβ⟩
    ·cases h
   ·cases h
  ·cases h
theorem bCd{σ σ':Sit}{b:Nat}(hw:σ'.w=σ.w)(hS:σ'.S=σ.S)(hlen:σ'.mem.length=σ.mem.length)(hoth:∀b',b'≠b->Ac σ'.mem b'=Ac σ.mem b'/\σ'.E.β b'=σ.E.β b'/\σ'.E.κ b'=σ.E.κ b'){c:SC}{y:Value}(hc:Ay σ c y)(hn:Ww b c=false):Ay σ' c y:=by
 have ne:∀{b':Nat},Nat.beq b' b=false->b'≠b:=fun h e=>by subst e;rw[dh]at h;cases h
 cases c with
 |undef=>exact hc
 |v x=>exact hc
 |fl k o=>exact hc
 |sl τ xs=>simp only[Ay];rw[hw,hS];exact hc
 |own b' =>
  obtain⟨g1,g2,g3⟩:=hoth b' (ne hn);obtain⟨h1,h2,h3⟩:=hc;refine⟨by rw[hlen];exact h1,h2,?_⟩;rw[g1,g2,g3,hw,hS];exact h3
 |ptr b' off=>
  obtain⟨g1,g2,g3⟩:=hoth b' (ne hn);obtain⟨h1,h2,h3⟩:=hc;refine⟨by rw[hlen];exact h1,h2,?_⟩;rw[g1,g2];exact h3
 |eptr b' i off=>
  obtain⟨g1,g2,g3⟩:=hoth b' (ne hn);obtain⟨h1,h2,h3⟩:=hc;refine⟨by rw[hlen];exact h1,h2,?_⟩;rw[g1,g2];exact h3
 |sub b' lo n=>
  obtain⟨g1,g2,g3⟩:=hoth b' (ne hn);obtain⟨h1,h2,h3⟩:=hc;refine⟨by rw[hlen];exact h1,h2,?_⟩;rw[g1,g2];exact h3
 |iptr τ x off=>simp only[Ay];rw[hw,hS];exact hc
 |gptr g=>exact hc
 |fnv o=>simp only[Ay];rw[hw,hS];exact hc
 |ifv o=>simp only[Ay];rw[hw,hS];exact hc
 |cx k x y=>exact hc
 |fn f caps=>
  have hne:∀p∈caps,p.1≠b:=fun p hp e=>by
   simp only[Ww,List.any_eq_false]at hn;have:=hn p hp;rw[e,dh]at this;exact this rfl
  obtain⟨h1,h2,h3⟩:=hc;refine⟨fun p hp=>by rw[hlen];exact h1 p hp,h2,?_⟩;rcases h3 with⟨p,hp,hq⟩|⟨rs,g1,g2⟩
  ·exact .inl ⟨p,hp,by rw[(hoth p.1 (hne p hp)).1];exact hq⟩
  ·refine .inr ⟨rs,?_,g2⟩;rw[←g1];exact List.map_congr_left fun p hp=>(hoth p.1 (hne p hp)).2.1
theorem aVA{b:Nat}{mem:Ai}(h:wE b mem=true){b':Nat}{cs:List SC}(e:Ac mem b'=.raw cs):∀c∈cs,Ww b c=false:=fun c hc=>by
 unfold wE at h
 rw[kw]at h
 have hlt:b'<mem.length:=Dr (by rw[e];simp)
 have hmem:(.raw cs:Blk)∈mem:=by
  unfold Ac at e
  rw[ay hlt]at e
  simp only[Option.getD_some]at e
  rw[←e];exact iw hlt
 have:=h _ hmem
 simp only[aIX,kw,dp]at this
 exact this c hc
theorem yQ(ho:Ok base S0 σ){b:Nat}(hlt:b<σ.mem.length)(hgone:Ac σ.mem b=.gone)(e:Blk)(A:Option Nat)(k:Nat)(hl:∀r,A=some r->Ez base σ r)
  (hm:∀σ':Sit,σ'.mem=σ.mem.set b e->σ'.w=σ.w->σ'.S=σ.S->Ac σ'.mem b=e->σ'.E.β b=A->σ'.E.κ b=k->AA σ' b)
  (hraw:∀σ':Sit,σ'.mem=σ.mem.set b e->σ'.w=σ.w->σ'.S=σ.S->Ac σ'.mem b=e->σ'.E.β b=A->σ'.E.κ b=k->(∀b',b'≠b->Ac σ'.mem b'=Ac σ.mem b'/\σ'.E.β b'=σ.E.β b'/\σ'.E.κ b'=σ.E.κ b') ->
   ∀b' cs,b'≠b->Ac σ.mem b'=.raw cs->AA σ' b') :
  ∃σ':Sit,σ'.mem=σ.mem.set b e/\σ'.w=σ.w/\σ'.S=σ.S/\Ok base S0 σ'/\Ac σ'.mem b=e/\σ'.E.β b=A/\σ'.E.κ b=k/\(∀b',b'≠b->Ac σ'.mem b'=Ac σ.mem b'/\σ'.E.β b'=σ.E.β b'/\σ'.E.κ b'=σ.E.κ b') /\
   ∀b' r,σ'.owned b' r->σ.owned b' r∨A=some r:=by
 let σ':Sit:={E:=⟨AD σ.E.β b A,AD σ.E.κ b k⟩,mem:=σ.mem.set b e,w:=σ.w,S:=σ.S}
 have hset:∀b',Ac σ'.mem b'=if b'=b then e else Ac σ.mem b':=fun b'=>B4 hlt;have hself:Ac σ'.mem b=e:=by rw[hset,if_pos rfl]
 have hβ:σ'.E.β b=A:=by simp[σ',AD]
 have hκ:σ'.E.κ b=k:=by simp[σ',AD]
 have hoth:∀b',b'≠b->Ac σ'.mem b'=Ac σ.mem b'/\σ'.E.β b'=σ.E.β b'/\σ'.E.κ b'=σ.E.κ b':=fun b' hne=>⟨by rw[hset,if_neg hne],by simp[σ',AD,hne],by simp[σ',AD,hne]⟩
 have hold:∀b' r,b'≠b->σ'.owned b' r->σ.owned b' r:=fun b' r hne ⟨h1,h2⟩=>by
  obtain⟨g1,g2,_⟩:=hoth b' hne;rw[g1]at h1;exact⟨h1,g2.symm.trans h2⟩
 have hnew:∀r,σ'.owned b r->A=some r:=fun r ⟨_,h2⟩=>hβ.symm.trans h2;refine⟨σ',rfl,rfl,rfl,⟨ho.below,ho.stab0,ho.stab,fun b'=>?_,fun b' r h=>?_,fun b1 b2 r h1 h2=>?_⟩,hself,hβ,hκ,hoth,fun b' r h=>?_⟩
 ·by_cases hbb:b'=b
  ·subst hbb;exact hm σ' rfl rfl rfl hself hβ hκ
  ·obtain⟨g1,g2,g3⟩:=hoth b' hbb;have he:=ho.ent b';cases eb:Ac σ.mem b' with
   |gone=>unfold AA;rw[g1,eb];trivial
   |froz τ xs=>unfold AA;rw[g1,eb];trivial
   |itr s p=>unfold AA at he⊢;rw[g1,g2];rw[eb]at he⊢;exact he
   |arr τ xs=>unfold AA at he⊢;rw[g1,g2,g3];rw[eb]at he⊢;exact he
   |acc τ xs=>unfold AA at he⊢;rw[g1,g2,g3];rw[eb]at he⊢;exact he
   |raw cs=>exact hraw σ' rfl rfl rfl hself hβ hκ hoth b' cs hbb eb
 ·by_cases hbb:b'=b
  ·subst hbb;have:=hl r (hnew r h);exact⟨this.1,this.2.1,this.2.2.1⟩
  ·exact ho.own b' r (hold b' r hbb h)
 ·by_cases hb1:b1=b<;>by_cases hb2:b2=b
  ·rw[hb1,hb2]
  ·subst hb1;exact((hl r (hnew r h1)).2.2.2 b2 (hold b2 r hb2 h2)).elim
  ·subst hb2;exact((hl r (hnew r h2)).2.2.2 b1 (hold b1 r hb1 h1)).elim
  ·exact ho.inj b1 b2 r (hold b1 r hb1 h1) (hold b2 r hb2 h2)
 ·by_cases hbb:b'=b
  ·subst hbb;exact .inr (hnew r h)
  ·exact .inl (hold b' r hbb h)
theorem aLI(ho:Ok base S0 σ){b:Nat}(hlt:b<σ.mem.length)(hgone:Ac σ.mem b=.gone)(hfree:wE b σ.mem=true)(e:Blk)(A:Option Nat)(k:Nat)(hl:∀r,A=some r->Ez base σ r)
  (hm:∀σ':Sit,σ'.mem=σ.mem.set b e->σ'.w=σ.w->σ'.S=σ.S->Ac σ'.mem b=e->σ'.E.β b=A->σ'.E.κ b=k->AA σ' b) :
  ∃σ':Sit,σ'.mem=σ.mem.set b e/\σ'.w=σ.w/\σ'.S=σ.S/\Ok base S0 σ'/\Ac σ'.mem b=e/\σ'.E.β b=A/\σ'.E.κ b=k/\(∀b',b'≠b->Ac σ'.mem b'=Ac σ.mem b'/\σ'.E.β b'=σ.E.β b'/\σ'.E.κ b'=σ.E.κ b') /\
   ∀b' r,σ'.owned b' r->σ.owned b' r∨A=some r:=
 yQ ho hlt hgone e A k hl hm (fun σ' h1 h2 h3 h4 h5 h6 hoth b' cs hne eb=>by
  have he:=ho.ent b'
  obtain⟨g1,g2,_⟩:=hoth b' hne
  unfold AA at he⊢
  rw[eb]at he
  rw[g1,eb]
  obtain⟨r,vs,T,q1,q2,q3⟩:=he
  refine⟨r,vs,T,g2.trans q1,by rw[h2];exact q2,?_⟩
  have hcs:=aVA hfree eb
  exact aHE q3 fun c y hc hy=>bCd (σ:=σ) (σ':=σ') h2 h3 (by rw[h1];simp) hoth hy (hcs c hc))
theorem aUv{σ3:Sit}(ho:Ok base S0 σ3)(hg:Goes σ σ3){k:LK}{b:Nat}{y0:Value}(hw:Was σ k b y0)(hgone:Ac σ3.mem b=.gone)(hoσ:Ok base S0 σ)(hsame:∀b',b'≠b->Ac σ3.mem b'=Ac σ.mem b'/\σ3.E.β b'=σ.E.β b'/\σ3.E.κ b'=σ.E.κ b')(hheap:∀b' r,b'≠b->σ.owned b' r->σ3.w.heap[r]? = σ.w.heap[r]?){x:k.B}{rs:List Nat}(hb:KL σ3.w σ3.S k x y0 rs)(hl:∀r∈rs,Ez base σ3 r):
  ∃σ4:Sit,σ4.mem=Ty σ3.mem b k x/\σ4.w=σ3.w/\σ4.S=σ3.S/\Ok base S0 σ4/\Goes σ σ4/\∀b' r,σ4.owned b' r->σ3.owned b' r∨r∈rs:=by
 have hlt:b<σ3.mem.length:=ak hw.1 hg.len;cases k with
 |win e=>
  obtain⟨k0,h1,h2,h3⟩:=hb;obtain⟨hltb,xs0,eb,hy0⟩:=hw;have main:∀A:Option Nat,y0=.slice (A.map fun r=>⟨r,0,none⟩) x.length k0->(∀r,A=some r->r∈rs)->((A=none/\k0=0)∨∃r vs T,A=some r/\σ3.w.heap[r]? = some (.cells vs T (0,0))/\vs.size=k0*e.width/\Rows σ3.w σ3.S e vs 0 x) ->
    ∃σ4:Sit,σ4.mem=Ty σ3.mem b (.win e) x/\σ4.w=σ3.w/\σ4.S=σ3.S/\Ok base S0 σ4/\Goes σ σ4/\∀b' r,σ4.owned b' r->σ3.owned b' r∨r∈rs:=fun A hy hA hc=>by
   have heq:A=σ.E.β b/\x.length=xs0.length/\k0=σ.E.κ b:=by
    rw[hy]at hy0;simp only[qu]at hy0;refine⟨?_,hy0.2⟩;have:=hy0.1;cases A<;>cases hbb:σ.E.β b<;>rw[hbb]at this<;>simp at this⊢;exact this
   have hgo:∀σ4:Sit,σ4.mem=σ3.mem.set b (.arr e x)->σ4.w=σ3.w->σ4.S=σ3.S->Ac σ4.mem b=.arr e x->σ4.E.β b=A->σ4.E.κ b=k0->(∀b',b'≠b->Ac σ4.mem b'=Ac σ3.mem b'/\σ4.E.β b'=σ3.E.β b'/\σ4.E.κ b'=σ3.E.κ b')->Goes σ σ4:=fun σ4 c1 c2 c3 c5 c6 c7 c8=>
    ⟨fun r hr=>by rw[c3];exact hg.stab r hr,fun r hr=>by rw[c2];exact hg.heap r hr,by rw[c1];simp;exact hg.len,fun b' hb'=>by
     by_cases hbb:b'=b
     ·subst hbb;unfold Bm;rw[eb];exact .inl ⟨c6.trans heq.1,c7.trans heq.2.2,x,c5,heq.2.1⟩
     ·obtain⟨g1,g2,g3⟩:=c8 b' hbb;exact(hg.turns b' hb').same g1 g2 g3 c2 c3⟩
   obtain⟨σ4,c1,c2,c3,c4,c5,c6,c7,c8,c9⟩:=yQ ho hlt hgone (.arr e x) A k0 (fun r hr=>hl r (hA r hr)) (fun σ' m1 m2 m3 m4 m5 m6=>by
    unfold AA;rw[m4,m5,m6,m2,m3];exact⟨h1,h2,hc⟩) (fun σ' m1 m2 m3 m4 m5 m6 m7 b' cs hne _=>by
     obtain⟨q1,q2,q3⟩:=m7 b' hne;obtain⟨p1,p2,p3⟩:=hsame b' hne;exact AA.keep (hgo σ' m1 m2 m3 m4 m5 m6 m7) (q1.trans p1) (q2.trans p2) (q3.trans p3) (fun r hr=>by rw[m2];exact hheap b' r hne hr) (hoσ.ent b'))
   refine⟨σ4,c1,c2,c3,c4,hgo σ4 c1 c2 c3 c5 c6 c7 c8,fun b' r h=>?_⟩
   ·rcases c9 b' r h with g|g
    ·exact .inl g
    ·exact .inr (hA r g)
  rcases h3 with⟨g1,g2,g3⟩|⟨r,vs,T,g1,g2,g3,g4,g5⟩
  ·exact main none g1 (fun r h=>by cases h) (.inl ⟨rfl,g2⟩)
  ·subst g2;exact main (some r) g1 (fun r' h=>by cases h;simp) (.inr ⟨r,vs,T,rfl,g3,g4,g5⟩)
 |ref τ=>
  obtain⟨r,vs,T,h1,rfl,h2,h3⟩:=hb;obtain⟨hltb,cs,r0,eb,hβ,hy0⟩:=hw;have hrr:r=r0:=by rw[h1]at hy0;simpa using hy0
  subst hrr;have hgo:∀σ4:Sit,σ4.mem=σ3.mem.set b (.raw (cellsOf τ x))->σ4.w=σ3.w->σ4.S=σ3.S->Ac σ4.mem b=.raw (cellsOf τ x)->σ4.E.β b=some r->(∀b',b'≠b->Ac σ4.mem b'=Ac σ3.mem b'/\σ4.E.β b'=σ3.E.β b'/\σ4.E.κ b'=σ3.E.κ b')->Goes σ σ4:=fun σ4 c1 c2 c3 c5 c6 c8=>
   ⟨fun r hr=>by rw[c3];exact hg.stab r hr,fun r hr=>by rw[c2];exact hg.heap r hr,by rw[c1];simp;exact hg.len,fun b' hb'=>by
    by_cases hbb:b'=b
    ·subst hbb;unfold Bm;rw[eb];exact .inl ⟨c6.trans hβ.symm,_,c5⟩
    ·obtain⟨g1,g2,g3⟩:=c8 b' hbb;exact(hg.turns b' hb').same g1 g2 g3 c2 c3⟩
  obtain⟨σ4,c1,c2,c3,c4,c5,c6,c7,c8,c9⟩:=yQ ho hlt hgone (.raw (cellsOf τ x)) (some r) 0 (fun r' hr=>by cases hr;exact hl r (by simp)) (fun σ' m1 m2 m3 m4 m5 m6=>by
   unfold AA;rw[m4];exact⟨r,vs,T,m5,by rw[m2];exact h2,M7 (by rw[m2,m3];exact h3)⟩) (fun σ' m1 m2 m3 m4 m5 m6 m7 b' cs hne _=>by
    obtain⟨q1,q2,q3⟩:=m7 b' hne;obtain⟨p1,p2,p3⟩:=hsame b' hne;exact AA.keep (hgo σ' m1 m2 m3 m4 m5 m7) (q1.trans p1) (q2.trans p2) (q3.trans p3) (fun r hr=>by rw[m2];exact hheap b' r hne hr) (hoσ.ent b'))
  refine⟨σ4,c1,c2,c3,c4,hgo σ4 c1 c2 c3 c5 c6 c8,fun b' r' h=>?_⟩
  ·rcases c9 b' r' h with g|g
   ·exact .inl g
   ·cases g;exact .inr (by simp)
end Vx
namespace Vx
open Go Go.RowKit
def GlobsOk(G:List (Nat×Sigma fun τ=>List (Ab τ)))(w:World)(S:Nat->Prop):Prop:=
 ∀g τ xs,Nc G g=some ⟨τ,xs⟩->S g/\∃vs T fz,w.heap[g]? = some (.cells vs T fz)/\Rows w S τ vs 0 xs
theorem aWp{C:Cfg}{w:World}{S:Nat->Prop}(h:GlobsOk C.globs w S):aAl C w S:=h
theorem GlobsOk.mono{G:List (Nat×Sigma fun τ=>List (Ab τ))}{w w':World}{S S':Nat->Prop}(hS:∀r,S r->S' r)(hH:∀r,S r->w'.heap[r]? = w.heap[r]?)(h:GlobsOk G w S):GlobsOk G w' S':=fun g τ xs e=>by
 obtain⟨h1,vs,T,fz,h2,h3⟩:=h g τ xs e
 exact⟨hS g h1,vs,T,fz,(hH g h1).trans h2,h3.mono hS hH⟩
def DY:List Value->Value
 | [y]=>y
 |ys=>.tuple ys.toArray
def Xi (P:Program) (f:FuncId) (args:Array Value) (w:World) (post:Ending->World->Prop):Prop :=((∃ fn, P.funcs[f]? = some fn /\ fn.body.isNone = false /\ (fn.name == "runtime.NumGoroutine") = false) /\ Calls P f args w post) ∨ ∃ v,(callFunc f args).run P w=.ok (.value v) w/\post (.returned v) w
structure Sound (P:Program) (G:List (Nat×Sigma fun τ=>List (Ab τ))) (f:FuncId) (S:Sum):Prop where
 calls:∀x,S.pre x=true->∀(w:World) (St:Nat->Prop) (ys:List Value) (rs:List Nat),(∀q,St q->q<w.heap.size)->GlobsOk G w St->CC w St S.ins x ys rs->rs.Nodup->(∀r∈rs,¬St r/\r<w.heap.size) ->
  Xi P f ys.toArray w fun e w'=>∃zs rs',e=.returned (DY zs)/\Low ⟨w,fun r=>r∈rs⟩ w'/\(∀r∈rs',Base.new ⟨w,fun r=>r∈rs⟩ r/\r<w'.heap.size)/\rs'.Nodup /\
   CC w' (fun q=>(St q∨(Base.new ⟨w,fun r=>r∈rs⟩ q/\q<w'.heap.size))/\q∉rs') S.outs (S.F x) zs rs'
def Sit.later(σ:Sit)(rs rs':List Nat)(w':World):Sit:={E:=σ.E,mem:=σ.mem,w:=w',S:=fun q=>(σ.S q∨(Base.new ⟨σ.w,fun r=>r∈rs⟩ q/\q<w'.heap.size))/\q∉rs' }
theorem aJV{base:Base}{S0:Nat->Prop}{σ:Sit}(ho:Ok base S0 σ){rs rs':List Nat}{w':World}(hl:∀r∈rs,Ez base σ r)(hb:Low ⟨σ.w,fun r=>r∈rs⟩ w')(hr':∀r∈rs',Base.new ⟨σ.w,fun r=>r∈rs⟩ r/\r<w'.heap.size):
  Ok base S0 (σ.later rs rs' w')/\Goes σ (σ.later rs rs' w')/\∀r∈rs',Ez base (σ.later rs rs' w') r:=by
 have hold:∀q,σ.S q->q<σ.w.heap.size/\q∉rs/\q∉rs':=fun q hq=>by
  refine⟨(ho.stab q hq).1,fun h=>(hl q h).2.2.1 hq,fun h=>?_⟩
  rcases(hr' q h).1 with g|g
  ·have:=(ho.stab q hq).1
   have g:σ.w.heap.size<=q:=g
   omega
  ·exact(hl q g).2.2.1 hq
 have hown:∀b r,σ.owned b r->r<σ.w.heap.size/\r∉rs:=fun b r h=>⟨(ho.own b r h).2.1,fun h'=>(hl r h').2.2.2 b h⟩
 have hnew:∀q,Base.new ⟨σ.w,fun r=>r∈rs⟩ q->base.new q:=fun q h=>by
  rcases h with h|h
  ·exact .inl (fw ho.below.size h)
  ·exact(hl q h).1
 have hg:Goes σ (σ.later rs rs' w'):=⟨fun q h=>⟨.inl h,(hold q h).2.2⟩,fun r hr=>hb.block r (hold r hr).1 (hold r hr).2.1,bj _,fun _ _=>Bm.refl rfl rfl rfl⟩
 refine⟨⟨ho.below.step hb.os hb.tape hb.output hb.size (fun k hk hn=>hb.block k hk (fun h=>hn ((hl k h).1))),fun r h=>⟨.inl (ho.stab0 r h),(hold r (ho.stab0 r h)).2.2⟩,fun r h=>?_,fun b=>?_,fun b r h=>?_,fun b b' r h h'=>ho.inj b b' r h h'⟩,hg,fun r hr=>?_⟩
 ·rcases h.1 with g|g
  ·exact⟨ak (ho.stab r g).1 hb.size,(ho.stab r g).2⟩
  ·exact⟨g.2,.inr (hnew r g.1)⟩
 ·exact AA.keep hg rfl rfl rfl (fun r hr=>hb.block r (hown b r hr).1 (hown b r hr).2) (ho.ent b)
 ·have:=ho.own b r h
  refine⟨this.1,ak this.2.1 hb.size,fun hs=>?_⟩
  rcases hs.1 with hs|hs
  ·exact this.2.2 hs
  ·rcases hs.1 with g|g
   ·have g:σ.w.heap.size<=r:=g
    omega
   ·exact(hown b r h).2 g
 ·refine⟨hnew r (hr' r hr).1,(hr' r hr).2,fun h=>h.2 hr,fun b h=>?_⟩
  have h:σ.owned b r:=h
  rcases(hr' r hr).1 with g|g
  ·have:=(hown b r h).1
   have g:σ.w.heap.size<=r:=g
   omega
  ·exact(hown b r h).2 g
structure SoundL (P:Program) (G:List (Nat×Sigma fun τ=>List (Ab τ))) (f:FuncId) (L:SumL):Prop where
 calls:∀x,L.pre x=true->∀(w:World) (St:Nat->Prop) (y y0:Value) (ys:List Value) (rl rs:List Nat),(∀q,St q->q<w.heap.size)->GlobsOk G w St->SS w St L.lend x.1 y y0 rl->CC w St L.ins x.2 ys rs->(rl++rs).Nodup->(∀r∈rl++rs,¬St r/\r<w.heap.size) ->
  Xi P f (y::ys).toArray w fun e w'=>∃zs rs',e=.returned (DY zs)/\Low ⟨w,fun r=>r∈rl++rs⟩ w'/\(∀r∈rs',Base.new ⟨w,fun r=>r∈rl++rs⟩ r/\r<w'.heap.size)/\(rl++rs').Nodup /\
   CC w' (fun q=>(St q∨(Base.new ⟨w,fun r=>r∈rl++rs⟩ q/\q<w'.heap.size))/\q∉rl++rs') L.outs (L.F x).2 zs rs' /\
   KL w' (fun q=>(St q∨(Base.new ⟨w,fun r=>r∈rl++rs⟩ q/\q<w'.heap.size))/\q∉rl++rs') L.lend (L.F x).1 y0 rl
def Uo(w:World)(S:Nat->Prop)(ns:List Nat)(ps:List Value):Prop:=ps.length=ns.length/\∀(i n:Nat),ns[i]? = some n->∃(r:Nat) (vs:Array Value) (T:TypeId) (fz:Nat×Nat),ps[i]? = some (il (some ⟨r,0,none⟩))/\S r/\w.heap[r]? = some (Obj.cells vs T fz)/\vs[0]? = some (M5 n)
theorem Uo.mono{w w':World}{S S':Nat->Prop}(hS:∀r,S r->S' r)(hH:∀r,S r->w'.heap[r]? = w.heap[r]?){ns:List Nat}{ps:List Value}(h:Uo w S ns ps):Uo w' S' ns ps:=
 ⟨h.1,fun i n hi=>by
  obtain⟨r,vs,T,fz,e1,e2,e3,e4⟩:=h.2 i n hi
  exact⟨r,vs,T,fz,e1,hS r e2,(hH r e2).trans e3,e4⟩⟩
structure FnSound (P:Program) (G:List (Nat×Sigma fun τ=>List (Ab τ))) (f:FuncId) (cs:List Nat) (S:Sum):Prop where
 calls:∀x,S.pre x=true->∀(w:World) (St:Nat->Prop) (ys:List Value) (rs:List Nat) (ps:List Value),(∀q,St q->q<w.heap.size)->GlobsOk G w St->CC w St S.ins x ys rs->rs.Nodup->(∀r∈rs,¬St r/\r<w.heap.size)->Uo w St cs ps ->
  Xi P f (ys++ps).toArray w fun e w'=>∃zs rs',e=.returned (DY zs)/\Low ⟨w,fun r=>r∈rs⟩ w'/\(∀r∈rs',Base.new ⟨w,fun r=>r∈rs⟩ r/\r<w'.heap.size)/\rs'.Nodup /\
   CC w' (fun q=>(St q∨(Base.new ⟨w,fun r=>r∈rs⟩ q/\q<w'.heap.size))/\q∉rs') S.outs (S.F x) zs rs'
def xM(P:Program)(m:String)(T:TypeId)(f:FuncId):Bool:=
 match P.info? T,P.underlying T with
 |some i,some (.struct _)=>(match i.methods.find? (·.name==m)with
  |some row=>(match row.path.toList,row.func with
   | [],some (g,false)=>Nat.beq g f
   |_,_=>false)
  |none=>false)
 |_,_=>false
structure MSound (P:Program) (G:List (Nat×Sigma fun τ=>List (Ab τ))) (f:FuncId) (v:Value) (S:Sum):Prop where
 calls:∀x,S.pre x=true->∀(w:World) (St:Nat->Prop) (ys:List Value) (rs:List Nat),(∀q,St q->q<w.heap.size)->GlobsOk G w St->CC w St S.ins x ys rs->rs.Nodup->(∀r∈rs,¬St r/\r<w.heap.size) ->
  Xi P f (v::ys).toArray w fun e w'=>∃zs rs',e=.returned (DY zs)/\Low ⟨w,fun r=>r∈rs⟩ w'/\(∀r∈rs',Base.new ⟨w,fun r=>r∈rs⟩ r/\r<w'.heap.size)/\rs'.Nodup /\
   CC w' (fun q=>(St q∨(Base.new ⟨w,fun r=>r∈rs⟩ q/\q<w'.heap.size))/\q∉rs') S.outs (S.F x) zs rs'
def KM(P:Program)(G:List (Nat×Sigma fun τ=>List (Ab τ)))(S:SumF):Prop:=
 ∀v x,S.pre v x=true->∃f cs S1,v=some (f,cs)/\FnSound P G f cs S1/\∃(h1:S1.ins=S.ins) (h2:S1.outs=S.outs),S1.pre (h1▸x)=true/\S.F v x=h2▸S1.F (h1▸x)
def qT(P:Program)(G:List (Nat×Sigma fun τ=>List (Ab τ)))(m:String)(S:SumM):Prop:=
 ∀d x,S.pre d x=true->∃T ns f S1,d=some (T,ns)/\xM P m T f=true/\((∀n∈ns,IntKind.i64.min<=n/\n<=IntKind.i64.max)->MSound P G f (.agg (ns.map (mf .i64)).toArray) S1)/\∃(h1:S1.ins=S.ins) (h2:S1.outs=S.outs),S1.pre (h1▸x)=true/\S.F d x=h2▸S1.F (h1▸x)
structure SumsOk (C:Cfg):Prop where
 sums:∀f mem args S,C.sum f mem args=some S->Sound C.P C.globs f S
 lsums:∀f mem args L,C.lsum f mem args=some L->SoundL C.P C.globs f L
 fns:∀T S,(T,S)∈C.fns->KM C.P C.globs S
 meths:∀m S,(m,S)∈C.meths->qT C.P C.globs m S
theorem pZ{σ:Sit}{vs:List SV}{ys:List Value}(h:All2 (Be σ) vs ys):A7 σ (ND vs) (DY ys):=by
 cases h with
 |nil=>exact⟨by simp,[],rfl,.nil⟩
 |cons h1 t=>
  cases t with
  |nil=>exact h1
  |cons h2 t=>exact⟨by simp,_,rfl,.cons h1 (.cons h2 t)⟩
theorem lZ {P : Program} {f : FuncId} (h : ∃ fn, P.funcs[f]? = some fn /\ fn.body.isNone = false /\ (fn.name == "runtime.NumGoroutine") = false) (args : Array Value) (w : World) : (callFunc f args).run P w = .ok (.enter f args) w := by
 obtain⟨fn,h1,h2,h3⟩:=h;unfold callFunc;have h2':¬fn.body=none:=fun e=>by rw[e]at h2;cases h2
 simp[h1];rw[if_neg (by simpa using h3),if_neg h2']
variable {C:Cfg}{base:Base}{S0:Nat->Prop}{σ:Sit}{s:St}{a:Act}{ctx:List (Nat×Bool)}{o:Oper}{x:TV}{mem':Ai}
theorem aXL(hC:SumsOk C)(ho:Ok base S0 σ)(hr:RelT σ s a)(hx:Bb a ctx)(hG:GlobsOk C.globs σ.w σ.S){c:Call}{fo:Operand}(hop:o.op=.call c)(hc:c.callee=.value fo){f:FuncId}{args:List SV}(ef:AR s ctx fo=some (.fn f []))(eargs:D9 s ctx c.args.toList=some args)
  {L:SumL} (hL:C.lsum f s.mem args=some L)
  (h:(match(generalizing:=false) args with
      |z::rest=>(match CM (Ba (KK s.mem L.lend z) L.ins rest).2 L.ins (Ba (KK s.mem L.lend z) L.ins rest).1 with
        |some (x,m2)=>(match TS m2 L.lend z with
         |some (b,xl,m3)=>(match CH (Ty m3 b L.lend (L.F (xl,x)).1) L.outs (L.F (xl,x)).2 with
          |some (vs,m4)=>some (Res.ok (L.pre (xl,x)) (ND vs) m4)
          |none=>none)
         |none=>none)
        |none=>none)
      | []=>none)=some (Res.ok true x mem')):By C base S0 id σ a o x mem':=by
 have hargs:=TE hr hx eargs
 cases args with
 |cons z rest=>
  simp only at h
  generalize hya:c.args.toList.map a.eval=yall at hargs
  cases hargs with
  |cons hz hrest=>
  rename_i y ys
  obtain⟨σ0,l1,l2,l3,l4,l5⟩:=aLF ho L.lend z
  cases hf:Ba (KK s.mem L.lend z) L.ins rest with
  |mk rest' m1=>
   rw[hf]at h
   simp only at h
   rw[←hr.mem,←l1]at hf
   obtain⟨σ1,a1,a2,a3,a4,a5,a6⟩:=TK l4 hf
   split at h
   ·rename_i v m2 ez
    split at h
    ·rename_i b xl m3 el
     split at h
     ·rename_i vs m4 ev
      simp only[ab,Res.ok.injEq]at h
      obtain⟨hpre,rfl,rfl⟩:=h
      rw[←a1]at ez
      obtain⟨σ2,rs,b1,b2,b3,b4,b5,b6,hsr,b8,b9,b10⟩:=cE a4 (a6 _ (hrest.mono fun _ _=>l5.repV)) ez
      have hg2:Goes σ σ2:=l5.trans (a5.trans b6)
      rw[←b1]at el
      obtain⟨σ3,rl,y0,d1,d2,d3,d4,d5,d6,d7,d8,d9,d10,d11,d12,d13,d14⟩:=aWL b5 (hg2.repV hz) el
      have hcalls:=(hC.lsums f _ _ L hL).calls
      have hfv:a.eval fo=.func (.func f) #[] #[]:=by
       obtain⟨_,_,h1⟩:=Bk hr hx ef
       rcases h1 with⟨p,hp,_⟩|⟨rs,h1,h2⟩
       ·simp at hp
       ·simpa using h2
      intro K Q hK
      have hexec:(execOp a.eval o).run C.P σ.w=(callFunc f (y::ys).toArray).run C.P σ.w:=by
       simp only[execOp,hop,resolve,hc,hfv]
       simp only[Deferred.ofValue,bu,de,ax,invoke]
       rw[←hya]
       congr 2
       apply fu.1
       simp
      have hw1:σ1.w=σ.w:=a2.trans l2
      have hw2:σ2.w=σ.w:=b2.trans hw1
      have hw3:σ3.w=σ.w:=d2.trans hw2
      have hS3:σ3.S=σ1.S:=d3.trans b4
      have hloose:∀r∈rs,Ez base σ3 r:=fun r hr'=>by
       obtain⟨⟨b',hb'⟩,hn⟩:=b9 r hr'
       have:=a4.own b' r hb'
       exact⟨this.1,by rw[d2,b2];exact this.2.1,by rw[hS3];exact this.2.2,fun b'' h=>hn b'' (d12 b'' r h)⟩
      have hdis:∀r∈rl,∀r'∈rs,r≠r':=fun r h1 r' h2 e=>by
       subst e
       obtain⟨b',hb'⟩:=d11 r h1
       exact(b9 r h2).2 b' hb'
      have hall:∀r∈rl++rs,Ez base σ3 r:=fun r hr'=>by
       rcases cv.1 hr' with h|h
       ·exact d8 r h
       ·exact hloose r h
      have hnd:(rl++rs).Nodup:=ji.2 ⟨d7,b8,hdis⟩
      have hsr3:CC σ3.w σ3.S L.ins v ys rs:=by
       rw[hw3,hS3,←hw1];exact hsr
      have hcl:=hcalls (xl,v) hpre σ3.w σ3.S y y0 ys rl rs (fun q hq=>(d4.stab q hq).1) (by rw[hw3];exact GlobsOk.mono (hg2.trans d5).stab (fun _ _=>rfl) hG) d6 hsr3 hnd (fun r hr'=>⟨(hall r hr').2.2.1,(hall r hr').2.1⟩)
      rw[hw3]at hcl
      have hend:∀(e:Ending) (w':World),(∃zs rs',e=.returned (DY zs)/\Low ⟨σ.w,fun r=>r∈rl++rs⟩ w'/\(∀r∈rs',Base.new ⟨σ.w,fun r=>r∈rl++rs⟩ r/\r<w'.heap.size)/\(rl++rs').Nodup /\
        CC w' (fun q=>(σ3.S q∨(Base.new ⟨σ.w,fun r=>r∈rl++rs⟩ q/\q<w'.heap.size))/\q∉rl++rs') L.outs (L.F (xl,v)).2 zs rs' /\
        KL w' (fun q=>(σ3.S q∨(Base.new ⟨σ.w,fun r=>r∈rl++rs⟩ q/\q<w'.heap.size))/\q∉rl++rs') L.lend (L.F (xl,v)).1 y0 rl)->∃v,e=.returned v/\K (a.put o.dst v) w':=fun e w' he=>by
       obtain⟨zs,rs',rfl,hb,hr',hn',hz',hbk⟩:=he
       rw[←hw3]at hb hr' hz' hbk
       have hr'':∀r∈rl++rs',Base.new ⟨σ3.w,fun r=>r∈rl++rs⟩ r/\r<w'.heap.size:=fun r h=>by
        rcases cv.1 h with h|h
        ·exact⟨.inr (cv.2 (.inl h)),ak (d8 r h).2.1 hb.size⟩
        ·exact hr' r h
       obtain⟨k1,k2,k3⟩:=aJV d4 hall hb hr''
       obtain⟨n1,n2,n3⟩:=ji.1 hn'
       have hsm:∀b',b'≠b->Ac σ3.mem b'=Ac σ2.mem b'/\σ3.E.β b'=σ2.E.β b'/\σ3.E.κ b'=σ2.E.κ b':=fun b' hne=>by
        rw[d1,d14,d13,B4 d9.1,if_neg hne];exact⟨rfl,rfl,rfl⟩
       have hhp:∀b' r,b'≠b->σ2.owned b' r->w'.heap[r]? = σ2.w.heap[r]?:=fun b' r hne ho2=>by
        have ho3:σ3.owned b' r:=by
         obtain⟨e1,e2,_⟩:=hsm b' hne
         exact⟨by rw[e1];exact ho2.1,e2.trans ho2.2⟩
        rw[←d2]
        refine hb.block r (by show r<σ3.w.heap.size;rw[d2];exact(b5.own b' r ho2).2.1) (fun hin=>(hall r hin).2.2.2 b' ho3)
       obtain⟨σ4,g1,g2,g3,g4,g5,g6⟩:=aUv k1 (d5.trans k2) d9 (by show Ac σ3.mem b=.gone;exact d10) b5 hsm hhp hbk (fun r h=>k3 r (cv.2 (.inl h)))
       have ev':CH σ4.mem L.outs (L.F (xl,v)).2=some (vs,m4):=by
        rw[g1]
        show CH (Ty σ3.mem b L.lend (L.F (xl,v)).1) L.outs _=_
        rw[d1];exact ev
       have hz4:CC σ4.w σ4.S L.outs (L.F (xl,v)).2 zs rs':=by rw[g2,g3];exact hz'
       obtain⟨σ5,c1,c2,c3,c4,c5,c6⟩:=aA g4 hz4 n2 (fun r h=>by
        obtain⟨q1,q2,q3,q4⟩:=k3 r (cv.2 (.inr h))
        refine⟨q1,by rw[g2];exact q2,by rw[g3];exact q3,fun b' hb'=>?_⟩
        rcases g6 b' r hb' with g|g
        ·exact q4 b' g
        ·exact n3 r g r h rfl) ev'
       have:=hK (DY zs) σ5 c4 ((hg2.trans g5).trans c5).moves c1 (pZ c6)
       rw[c2,g2]at this
       exact⟨_,rfl,this⟩
      rcases hcl with⟨hcall,hcl⟩|⟨v',hv,hpost⟩
      ·unfold Oper.wp
       rw[hexec,lZ hcall,Oper.upon_enter]
       refine hcl.mono fun e w' he=>?_
       obtain⟨v,rfl,hk⟩:=hend e w' he
       exact hk
      ·obtain⟨v',hv',hk⟩:=hend _ _ hpost
       cases hv'
       unfold Oper.wp
       rw[hexec,hv]
       exact hk
     ·cases h
    ·cases h
   ·cases h
 |nil=>cases h
theorem aX1(ho:Ok base S0 σ)(hr:RelT σ s a)(hx:Bb a ctx){T:TypeId}{y:Operand}{lo hi mx:Option Operand}{b:Nat}(hop:o.op=.slice T y lo hi mx)(hns:NB C s ctx T y lo hi mx=none)(ht:SN C s ctx y lo mx=some b)(h:As C s ctx o=some (.ok true x mem')):By C base S0 id σ a o x mem':=by
 have hlo:lo=none/\mx=none/\AR s ctx y=some (.own b):=by
  unfold SN at ht;cases lo with
  |some _=>simp at ht
  |none=>
   cases mx with
   |some _=>simp at ht
   |none=>
    have ht:=(AF ht).2;split at ht
    ·rename_i b' e;split at ht<;>first|(cases ht;done)|(cases ht;exact⟨rfl,rfl,e⟩)
    ·cases ht
 obtain⟨rfl,rfl,ey⟩:=hlo;unfold As at h;rw[hop]at h;simp only[hns,ht]at h;split at h
 ·rename_i e hT;split at h
  ·rename_i τ eτ;split at h
   ·rename_i xs exs;split at h
    ·rename_i hh eh;simp only[ab,Res.ok.injEq,af,decide_eq_true_eq]at h;obtain⟨⟨g1,g2⟩,rfl,rfl⟩:=h;rw[←hr.mem]at exs;have hb:Ac σ.mem b=.arr τ xs∨Ac σ.mem b=.acc τ xs:=by
      unfold aLZ at exs;split at exs
      ·rename_i eb;obtain⟨hττ,hxs⟩:=Iu exs;subst hττ;simp only at hxs;subst hxs;exact .inl eb
      ·rename_i eb;obtain⟨hττ,hxs⟩:=Iu exs;subst hττ;simp only at hxs;subst hxs;exact .inr eb
      ·cases exs
     obtain⟨σ1,rs,a1,a2,a3,a4,a5,a6,⟨k,h1,h2,h3⟩,a8,a9,a10⟩:=Wq ho hb (Bk hr hx ey);have hA:∃A,a.eval y=.slice A xs.length k/\(∀r,A=some r->r.add 0=r):=by
      rcases h3 with⟨h3,_⟩|⟨r,_,_,h3,_⟩
      ·exact⟨none,h3,fun r h=>by cases h⟩
      ·exact⟨_,h3,fun r h=>by simp[Addr.add]⟩
     obtain⟨A,hy,hadd⟩:=hA;have hrun:=zM (C:=C) (lo:=none) hr hx hT eτ hy h1 (l:=0) rfl eh hop (ob _) g1 g2 σ.w;have hv:(Value.slice (if k=(0:Int).toNat then A else A.map (·.add ((0:Int).toNat*τ.width))) (hh.toNat-(0:Int).toNat) (k-(0:Int).toNat))=.slice A (xs.take hh.toNat).length k:=by
      have e1:(xs.take hh.toNat).length=hh.toNat:=by simp;omega
      have e2:(if k=(0:Int).toNat then A else A.map (·.add ((0:Int).toNat*τ.width)))=A:=by
       split
       ·rfl
       ·cases A with
        |none=>rfl
        |some r=>simp only[Int.toNat_zero,Nat.zero_mul,jh,hadd r rfl]
      rw[e1,e2];simp
     rw[hv]at hrun;have hown:FW σ1.w σ1.S τ (xs.take hh.toNat) (.slice A (xs.take hh.toNat).length k) rs:=by
      rw[a2,a4];refine⟨k,by simp;omega,h2,?_⟩;rcases h3 with⟨e1,e2,e3⟩|⟨r,vs,T',e1,e2,e3,e4,e5⟩
      ·rw[hy]at e1;cases e1;exact .inl ⟨rfl,e2,e3⟩
      ·rw[hy]at e1;cases e1;exact .inr ⟨r,vs,T',rfl,e2,e3,e4,fun i x hi=>e5 i x (by
        rw[List.getElem?_take]at hi;split at hi
        ·exact hi
        ·cases hi)⟩
     obtain⟨σ2,b1,b2,b3,b4,b5,b6,_⟩:=aJB a5 hown (fun r hr'=>by
      obtain⟨⟨b',hb'⟩,hn⟩:=a9 r hr';have:=ho.own b' r hb';exact⟨this.1,by rw[a2];exact this.2.1,by rw[a4];exact this.2.2,hn⟩)
     refine AO (σ':=σ2) (v:=.slice A (xs.take hh.toNat).length k) ?_ b4 (a6.trans b5).moves (by rw[b1,a1,hr.mem]) ?_
     ·rw[b2,a2];exact hrun
     ·rw[a1]at b6;have e:(σ.mem.set b .gone).length=s.mem.length:=by rw[hr.mem];simp
      rw[e]at b6;exact b6
    ·cases h
   ·cases h
  ·cases h
 ·cases h
end Vx
namespace Vx
open Go Go.RowKit
def Wx:List Nat->List Nat->Bool
 | [],[]=>true
 |a::r,b::s=>Nat.beq a b&&Wx r s
 |_,_=>false
def Z2(o:Option (Nat×List Nat))(f:Nat)(cs:List Nat):Bool:=
 match o with
 |some p=>Nat.beq p.1 f&&Wx p.2 cs
 |none=>false
theorem aKK:∀{a b:List Nat},Wx a b=true->a=b
 | [],[],_=>rfl
 | [],_::_,h=>by simp[Wx]at h
 |_::_,[],h=>by simp[Wx]at h
 |x::a,y::b,h=>by
  simp only[Wx,af]at h
  rw[ah h.1,aKK h.2]
theorem aVu{o:Option (Nat×List Nat)}{f:Nat}{cs:List Nat}(h:Z2 o f cs=true):o=some (f,cs):=by
 unfold Z2 at h;split at h
 ·rename_i p;simp only[af]at h;obtain⟨a,b⟩:=p;rw[show a=f from ah h.1,show b=cs from aKK h.2]
 ·cases h
def jR(I O:Aa)(v:Option (Nat×List Nat))(x:DenS I):List (Nat×List Nat×Sum)->Bool
 | []=>false
 |(f,cs,S)::r=>bif Z2 v f cs then(if h:S.ins=I/\S.outs=O then S.pre (h.1▸x)else false)else jR I O v x r
def jS(I O:Aa)(v:Option (Nat×List Nat))(x:DenS I):List (Nat×List Nat×Sum)->DenS O
 | []=>DenS.dflt0 O
 |(f,cs,S)::r=>bif Z2 v f cs then(if h:S.ins=I/\S.outs=O then h.2▸S.F (h.1▸x)else DenS.dflt0 O)else jS I O v x r
def Kq(I O:Aa)(l:List (Nat×List Nat×Sum)):SumF:=⟨I,O,fun v x=>jR I O v x l,fun v x=>jS I O v x l⟩
def aAi(P:Program)(G:List (Nat×Sigma fun τ=>List (Ab τ))):List (Nat×List Nat×Sum)->Prop
 | []=>True
 |(f,cs,S)::r=>FnSound P G f cs S/\aAi P G r
theorem Vy{P:Program}{G:List (Nat×Sigma fun τ=>List (Ab τ))}{I O:Aa}:∀{l:List (Nat×List Nat×Sum)},aAi P G l->KM P G (Kq I O l)
 | [],_,v,x,h=>by simp[Kq,jR]at h
 |(f,cs,S)::r,ha,v,x,h=>by
  simp only[Kq,jR]at h
  cases hb:Z2 v f cs with
  |true=>
   rw[hb,cond_true]at h
   split at h
   ·rename_i hh
    exact⟨f,cs,S,aVu hb,ha.1,hh.1,hh.2,h,by simp only[Kq,jS];rw[hb,cond_true,dif_pos hh]⟩
   ·cases h
  |false=>
   rw[hb,cond_false]at h
   obtain⟨f',cs',S',k1,k2,k3,k4,k5,k6⟩:=Vy (I:=I) (O:=O) ha.2 v x h
   exact⟨f',cs',S',k1,k2,k3,k4,k5,by simp only[Kq,jS];rw[hb,cond_false];exact k6⟩
variable {C:Cfg}{base:Base}{S0:Nat->Prop}{σ:Sit}{s:St}{a:Act}{ctx:List (Nat×Bool)}{o:Oper}{x:TV}{mem':Ai}
theorem vE(ho:Ok base S0 σ)(hr:RelT σ s a)(hG:GlobsOk C.globs σ.w σ.S){args:List SV}{ys:List Value}(hargs:All2 (Be σ) args ys){S:Sum}(h:Fy s.mem S args=some (true,x,mem'))
  (hcalls:∀z,S.pre z=true->∀(St:Nat->Prop) (rs:List Nat),(∀q,σ.S q->St q)->(∀q,St q->q<σ.w.heap.size)->GlobsOk C.globs σ.w St->CC σ.w St S.ins z ys rs->rs.Nodup->(∀r∈rs,¬St r/\r<σ.w.heap.size) ->
   ∃f as,(execOp a.eval o).run C.P σ.w=(callFunc f as).run C.P σ.w/\Xi C.P f as σ.w fun e w'=>∃zs rs',e=.returned (DY zs)/\Low ⟨σ.w,fun r=>r∈rs⟩ w'/\(∀r∈rs',Base.new ⟨σ.w,fun r=>r∈rs⟩ r/\r<w'.heap.size)/\rs'.Nodup /\
    CC w' (fun q=>(St q∨(Base.new ⟨σ.w,fun r=>r∈rs⟩ q/\q<w'.heap.size))/\q∉rs') S.outs (S.F z) zs rs'):By C base S0 id σ a o x mem':=by
 unfold Fy at h
 cases hf:Ba s.mem S.ins args with
 |mk args' m1=>
  rw[hf]at h
  simp only at h
  rw[←hr.mem]at hf
  obtain⟨σ1,a1,a2,a3,a4,a5,a6⟩:=TK ho hf
  split at h
  ·rename_i zm ez
   obtain⟨z,m2⟩:=zm
   simp only at h
   split at h
   ·rename_i vs m3 ev
    simp only[ab,cu]at h
    obtain⟨hpre,rfl,rfl⟩:=h
    rw[←a1]at ez
    obtain⟨σ2,rs,b1,b2,b3,b4,b5,b6,hsr,b8,b9,b10⟩:=cE a4 (a6 _ hargs) ez
    intro K Q hK
    have hloose:∀r∈rs,Ez base σ2 r:=fun r hr'=>by
     obtain⟨⟨b,hb⟩,hn⟩:=b9 r hr'
     have:=a4.own b r hb
     exact⟨this.1,by rw[b2];exact this.2.1,by rw[b4];exact this.2.2,hn⟩
    have hw2:σ2.w=σ.w:=b2.trans a2
    rw[←b2,←b4]at hsr
    obtain⟨f,as,hexec,hcl⟩:=hcalls z hpre σ2.S rs (a5.trans b6).stab (fun q hq=>by rw[←hw2];exact(b5.stab q hq).1) (GlobsOk.mono (a5.trans b6).stab (fun _ _=>rfl) hG) (by rw[←hw2];exact hsr) b8 (fun r hr'=>by rw[←hw2];exact⟨(hloose r hr').2.2.1,(hloose r hr').2.1⟩)
    have hend:∀(e:Ending) (w':World),(∃zs rs',e=.returned (DY zs)/\Low ⟨σ.w,fun r=>r∈rs⟩ w'/\(∀r∈rs',Base.new ⟨σ.w,fun r=>r∈rs⟩ r/\r<w'.heap.size)/\rs'.Nodup /\
      CC w' (fun q=>(σ2.S q∨(Base.new ⟨σ.w,fun r=>r∈rs⟩ q/\q<w'.heap.size))/\q∉rs') S.outs (S.F z) zs rs')->∃v,e=.returned v/\K (a.put o.dst v) w':=fun e w' he=>by
     obtain⟨zs,rs',rfl,hb,hr',hn',hz⟩:=he
     rw[←hw2]at hb hr' hz
     obtain⟨k1,k2,k3⟩:=aJV b5 hloose hb hr'
     have ev':CH (σ2.later rs rs' w').mem S.outs (S.F z)=some (vs,m3):=by
      show CH σ2.mem S.outs (S.F z)=_
      rw[b1];exact ev
     obtain⟨σ3,c1,c2,c3,c4,c5,c6⟩:=aA k1 hz hn' k3 ev'
     have:=hK (DY zs) σ3 c4 (((a5.trans b6).trans k2).trans c5).moves c1 (pZ c6)
     rw[c2]at this
     exact⟨_,rfl,this⟩
    rcases hcl with⟨hcall,hcl⟩|⟨v,hv,hpost⟩
    ·unfold Oper.wp
     rw[hexec,lZ hcall,Oper.upon_enter]
     refine hcl.mono fun e w' he=>?_
     obtain⟨v,rfl,hk⟩:=hend e w' he
     exact hk
    ·obtain⟨v',hv',hk⟩:=hend _ _ hpost
     cases hv'
     unfold Oper.wp
     rw[hexec,hv]
     exact hk
   ·cases h
  ·cases h
theorem aX0(hC:SumsOk C)(ho:Ok base S0 σ)(hr:RelT σ s a)(hx:Bb a ctx)(hG:GlobsOk C.globs σ.w σ.S){c:Call}{fo:Operand}(hop:o.op=.call c)(hc:c.callee=.value fo)(hnv:∀v,AR s ctx fo≠some (.fnv v))(h:As C s ctx o=some (.ok true x mem')):By C base S0 id σ a o x mem':=by
 unfold As at h;rw[hop]at h;simp only[hc]at h;split at h
 ·rename_i f caps args ef eargs;split at h
  ·rename_i L eL;have hcaps:caps=[]/\C.lsum f s.mem args=some L:=by
    split at eL
    ·exact⟨rfl,eL⟩
    ·cases eL
   obtain⟨rfl,hL⟩:=hcaps;exact aXL hC ho hr hx hG hop hc ef eargs hL h
  split at h
  ·rename_i S eS;have hcaps:caps=[]/\C.sum f s.mem args=some S:=by
    cases caps with
    |nil=>exact⟨rfl,eS⟩
    |cons _ _=>cases eS
   obtain⟨rfl,hS⟩:=hcaps;split at h
   ·rename_i g x' m' ec;simp only[ab,Res.ok.injEq]at h;obtain⟨rfl,rfl,rfl⟩:=h;have hfv:a.eval fo=.func (.func f) #[] #[]:=by
     obtain⟨_,_,h1⟩:=Bk hr hx ef;rcases h1 with⟨p,hp,_⟩|⟨rs,h1,h2⟩
     ·simp at hp
     ·simpa using h2
    refine vE ho hr hG (TE hr hx eargs) ec fun z hz St rs _ hSl hGl hsr hnd hrs=>⟨f,(c.args.toList.map a.eval).toArray,?_,(hC.sums f _ _ S hS).calls z hz σ.w St _ rs hSl hGl hsr hnd hrs⟩
    simp only[execOp,hop,resolve,hc,hfv];simp only[Deferred.ofValue,bu,de,ax,invoke];congr 2;apply fu.1;simp
   ·cases h
  ·have h2:=(AF h).2;cases h2
 ·rename_i ef _;exact absurd ef (hnv _)
 ·cases h
theorem aIE{mem:Ai}{T:TypeId}{args:List SV}{S:SumF}:∀{l:List (TypeId×SumF)},Sh mem T args l=some S->(T,S)∈l
 | [],h=>by simp[Sh]at h
 |(T',S')::r,h=>by
  unfold Sh at h
  cases hb:Nat.beq T' T&&Sj mem S'.ins args with
  |true=>
   rw[hb]at h
   cases h
   simp only[af]at hb
   rw[ah hb.1]
   simp
  |false=>
   rw[hb]at h
   exact gm _ (aIE h)
theorem aIK{mem:Ai}{m:String}{args:List SV}{S:SumM}:∀{l:List (String×SumM)},Si mem m args l=some S->(m,S)∈l
 | [],h=>by simp[Si]at h
 |(m',S')::r,h=>by
  unfold Si at h
  cases hb:m'==m&&Sj mem S'.ins args with
  |true=>
   rw[hb]at h
   cases h
   simp only[af,beq_iff_eq]at hb
   rw[hb.1]
   simp
  |false=>
   rw[hb]at h
   exact gm _ (aIK h)
theorem aXF(hC:SumsOk C)(ho:Ok base S0 σ)(hr:RelT σ s a)(hx:Bb a ctx)(hG:GlobsOk C.globs σ.w σ.S){c:Call}{fo:Operand}(hop:o.op=.call c)(hc:c.callee=.value fo){v:Option (Nat×List Nat)}(ef:AR s ctx fo=some (.fnv v))(h:As C s ctx o=some (.ok true x mem')):By C base S0 id σ a o x mem':=by
 unfold As at h;rw[hop]at h;cases eargs:D9 s ctx c.args.toList with
 |none=>simp only[hc,ef,eargs]at h;cases h
 |some args=>
  simp only[hc,ef,eargs]at h;split at h
  ·rename_i S eS;split at h
   ·rename_i g x' m' ec;simp only[ab,Res.ok.injEq]at h;obtain⟨rfl,rfl,rfl⟩:=h;refine vE ho hr hG (TE hr hx eargs) ec fun z hz St rs hS hSl hGl hsr hnd hrs=>?_;obtain⟨f,cs,S1,rfl,hfn,h1,h2,k3,k4⟩:=hC.fns _ _ (aIE eS) v z hz;obtain⟨ps,hy,hp1,hp2⟩:=Bk hr hx ef;have hy:a.eval fo=.func (.func f) #[] ps.toArray:=by simpa using hy
    refine⟨f,(c.args.toList.map a.eval++ps).toArray,?_,?_⟩
    ·simp only[execOp,hop,resolve,hc,hy];simp only[Deferred.ofValue,bu,de,ax,invoke];congr 2;apply fu.1;simp
    ·obtain⟨ins,outs,pre,F⟩:=S1;obtain⟨ins',outs',pre',F'⟩:=S;simp only at h1 h2;subst h1;subst h2;have:=hfn.calls z k3 σ.w St _ rs ps hSl hGl hsr hnd hrs (Uo.mono hS (fun _ _=>rfl) ⟨hp1,hp2⟩);have k4:F' (some (f,cs)) z=F z:=k4;simp only[SumF.at];rw[k4];exact this
   ·cases h
  ·cases h
theorem bCv{P:Program}{m:String}{T:TypeId}{f:FuncId}(h:xM P m T f=true)(v:Value)(args:Array Value)(w:World):(callMethod (.iface T v) m args).run P w=(callFunc f (#[v]++args)).run P w:=by
 unfold xM at h;split at h
 ·rename_i i fs e1 e2;split at h
  ·rename_i row e3;split at h
   ·rename_i g e4 e5;have hg:g=f:=ah h;subst hg;have hm:(method (P.types.size+Made.depth) T v m).run P w=.ok (g,v) w:=by
     obtain⟨k,hk⟩:∃k,P.types.size+Made.depth=k+1:=⟨P.types.size+Made.depth-1,by unfold Made.depth;omega⟩
     rw[hk];have hti:(typeInfo T).run P w=.ok i w:=by simp[typeInfo,e1]
     simp only[method,bu,hti,ax,e3,e4,e5,follow,de,receiverAt,Cz e2,Place.get]
    unfold callMethod;simp only[bu];have hp:(program:Sem Program).run P w=.ok P w:=rfl;rw[hp];simp only[ax,bu,hm]
   ·cases h
  ·cases h
 ·cases h
theorem aXJ(hC:SumsOk C)(ho:Ok base S0 σ)(hr:RelT σ s a)(hx:Bb a ctx)(hG:GlobsOk C.globs σ.w σ.S){c:Call}{q:Operand}{m:String}(hop:o.op=.call c)(hc:c.callee=.invoke q m)(h:As C s ctx o=some (.ok true x mem')):By C base S0 id σ a o x mem':=by
 unfold As at h;rw[hop]at h;simp only[hc]at h;split at h
 ·rename_i d args ef eargs;split at h
  ·rename_i S eS;split at h
   ·rename_i g x' m' ec;simp only[ab,Res.ok.injEq]at h;obtain⟨rfl,rfl,rfl⟩:=h;refine vE ho hr hG (TE hr hx eargs) ec fun z hz St rs hS hSl hGl hsr hnd hrs=>?_;obtain⟨T,ns,f,S1,rfl,hm,hms,h1,h2,k4,k5⟩:=hC.meths _ _ (aIK eS) d z hz;obtain⟨hy,hbnd⟩:=Bk hr hx ef;have hy:a.eval q=.iface T (.agg (ns.map (mf .i64)).toArray):=by simpa using hy
    refine⟨f,(.agg (ns.map (mf .i64)).toArray::c.args.toList.map a.eval).toArray,?_,?_⟩
    ·simp only[execOp,hop,resolve,hc,hy];simp only[bu,de,ax,invoke];have e:(#[Value.iface T (.agg (ns.map (mf .i64)).toArray)]++Array.map a.eval c.args)[0]? = some (.iface T (.agg (ns.map (mf .i64)).toArray)):=by rw[Array.getElem?_append_left (by simp)];rfl
     simp only[e];rw[bCv hm];congr 2;apply fu.1;simp only[Array.toList_append,Array.toList_extract,Array.toList_map,List.extract];simp[cw]
    ·obtain⟨ins1,outs1,pre1,F1⟩:=S1;obtain⟨ins',outs',pre',F'⟩:=S;simp only at h1 h2;subst h1;subst h2;have:=(hms hbnd).calls z k4 σ.w St (c.args.toList.map a.eval) rs hSl hGl hsr hnd hrs;have k5:F' (some (T,ns)) z=F1 z:=k5;simp only[SumM.at];rw[k5];exact this
   ·cases h
  ·cases h
 ·cases h
theorem aJQ{σ:Sit}:∀{cs:List SC} {ns:List Int} {ys:List Value},aP cs=some ns->All2 (Ay σ) cs ys->ys=ns.map (mf .i64)/\∀n∈ns,IntKind.i64.min<=n/\n<=IntKind.i64.max
 | [],ns,_,h,.nil=>by simp[aP]at h;subst h;simp
 |c::cs,ns,_,h,.cons hc ht=>by
  unfold aP at h
  split at h
  ·rename_i e;cases e
  ·rename_i n r e
   cases e
   split at h
   ·rename_i l e2
    cases h
    obtain⟨k1,k2⟩:=aJQ e2 ht
    obtain⟨rfl,hb⟩:=hc
    refine⟨by rw[k1];rfl,fun z hz=>?_⟩
    rcases cn.1 hz with rfl|hz
    ·exact hb
    ·exact k2 z hz
   ·cases h
  ·cases h
theorem aXO(ho:Ok base S0 σ)(hr:RelT σ s a)(hx:Bb a ctx){T:TypeId}{y:Operand}(hop:o.op=.makeInterface T y)(h:As C s ctx o=some (.ok true x mem')):By C base S0 id σ a o x mem':=by
 unfold As at h;rw[hop]at h;simp only at h;split at h
 ·rename_i cs fs ey hT;split at h
  ·rename_i ns en;simp only[ab,Res.ok.injEq,true_and]at h;obtain⟨rfl,rfl⟩:=h;obtain⟨ys,e,ha⟩:=He hr hx ey;obtain⟨k1,k2⟩:=aJQ en ha;subst k1;refine AO (σ':=σ) (v:=.iface T (.agg (ns.map (mf .i64)).toArray)) ?_ ho (Goes.refl σ).moves hr.mem ⟨rfl,k2⟩;simp only[execOp,hop,e];refine Bx ?_;unfold Instr.makeInterface;simp only[bu,Cz hT,ax,de]
  ·cases h
 ·cases h
theorem Sy(hC:SumsOk C)(ho:Ok base S0 σ)(hr:RelT σ s a)(hx:Bb a ctx)(hG:GlobsOk C.globs σ.w σ.S)(hna:∀c,o.op=.call c->c.callee≠.builtin .append)(h:As C s ctx o=some (.ok true x mem')):By C base S0 id σ a o x mem':=by
 cases hop:o.op with
 |move y=>exact aKW ho hr hx (.inl hop) h
 |assign y=>exact aKW ho hr hx (.inr hop) h
 |pick c A B=>exact aXU ho hr hx hop h
 |alloc T=>exact aXt ho hr hop h
 |box T y=>exact aXw ho hr hx hop h
 |build T ps=>exact aXx ho hr hx hop h
 |buildSlice T n ps=>exact aXy ho hr hx hop h
 |range T y=>exact aXV ho hr hx hop h
 |next y st=>exact aXS ho hr hx hop h
 |load T y=>exact aXM ho hr hx hop h
 |store T y z=>exact aXY ho hr hx hop h
 |nilCheck y=>exact aXT ho hr hx hop h
 |binOp op T y z T'=>exact aXv ho hr hx hop h
 |unOp op T y=>exact aX2 ho hr hx hop h
 |convert T T' y=>exact aXA ho hr hx hop h
 |makeSlice T l c=>exact aXP ho hr hx hop h
 |slice T y lo hi mx=>
  cases hs:NB C s ctx T y lo hi mx with
  |some p=>exact aXZ ho hr hx hop (g:=p.1) (c:=p.2) hs h
  |none=>
   cases ht:SN C s ctx y lo mx with
   |none=>exact aXX ho hr hx hop hs ht h
   |some b=>exact aX1 ho hr hx hop hs ht h
 |fieldAddr T y i=>exact aXE ho hr hx hop h
 |field T y i=>exact aXD ho hr hx hop h
 |indexAddr T y z=>exact aXI ho hr hx (aWp hG) hop h
 |index T y z=>exact aXH ho hr hx hop h
 |extract y i=>exact aXC ho hr hx hop h
 |makeFunc fn first captured=>exact aXN ho hr hx hop h
 |makeInterface T y=>exact aXO ho hr hx hop h
 |call c=>
  cases hc:c.callee with
  |value fo=>
   cases ef:AR s ctx fo with
   |none=>unfold As at h;rw[hop]at h;simp only[hc,ef]at h;cases h
   |some c0=>
    by_cases hv:∃v,c0=.fnv v
    ·obtain⟨v,rfl⟩:=hv;exact aXF hC ho hr hx hG hop hc ef h
    ·exact aX0 hC ho hr hx hG hop hc (fun v e=>hv ⟨v,jz (ef.symm.trans e)⟩) h
  |invoke r m=>exact aXJ hC ho hr hx hG hop hc h
  |builtin b=>
   cases b with
   |len=>exact aXK ho hr hx hop hc h
   |min=>exact aXR ho hr hx hop hc h
   |max=>exact aXQ ho hr hx hop hc h
   |complex=>exact aXz ho hr hx hop hc h
   |real=>exact aXW ho hr hx hop hc h
   |imag=>exact aXG ho hr hx hop hc h
   |append=>exact absurd hc (hna c hop)
   |copy=>exact aXB ho hr hx hop hc h
   |_=>unfold As at h;rw[hop]at h;simp only[hc]at h;cases h
 |_=>unfold As at h;rw[hop]at h;simp only at h;cases h
end Vx
namespace Vx
open Go Go.RowKit
structure Adv (σ σ':Sit):Prop where
 stab:∀r,σ.S r->σ'.S r
 heap:∀r,σ.S r->σ'.w.heap[r]? = σ.w.heap[r]?
 rep:∀c y,Ay σ c y->Ay σ' (Iw σ.mem c) y
 len:σ.mem.length<=σ'.mem.length
 noacc:∀b,b<σ.mem.length->Ha (Ac σ'.mem b)->Ha (Ac σ.mem b)
theorem TB{mem:Ai}{b:Nat}:Iw mem (.own b)=.undef/\Ha (Ac mem b)∨Iw mem (.own b)=.own b/\¬Ha (Ac mem b):=by
 simp only[Iw];cases Ac mem b with
 |acc _ _=>exact .inl ⟨rfl,trivial⟩
 |_=>exact .inr ⟨rfl,fun h=>h⟩
theorem aIy{mem:Ai}{c:SC}(h:∀b,c≠.own b):Iw mem c=c:=by
 cases c with
 |own b=>exact absurd rfl (h b)
 |_=>rfl
theorem Adv.refl(σ:Sit):Adv σ σ:=by
 refine⟨fun _ h=>h,fun _ _=>rfl,fun c y h=>?_,bj _,fun _ _ h=>h⟩;cases c with
 |own b=>
  rcases TB (mem:=σ.mem) (b:=b)with⟨e,_⟩|⟨e,_⟩
  ·rw[e];exact h.2.1
  ·rw[e];exact h
 |_=>exact h
theorem Adv.trans{σ σ' σ'':Sit}(h:Adv σ σ')(h':Adv σ' σ''):Adv σ σ'':=by
 refine⟨fun r hr=>h'.stab r (h.stab r hr),fun r hr=>(h'.heap r (h.stab r hr)).trans (h.heap r hr),fun c y hc=>?_,fw h.len h'.len,fun b hb ha=>h.noacc b hb (h'.noacc b (ak hb h.len) ha)⟩;have h1:=h.rep c y hc;have h2:=h'.rep _ y h1;by_cases hown:∃b,c=.own b
 ·obtain⟨b,rfl⟩:=hown;rcases TB (mem:=σ.mem) (b:=b)with⟨e,_⟩|⟨e,hn⟩
  ·rw[e];exact hc.2.1
  ·rw[e]at h2⊢;rcases TB (mem:=σ'.mem) (b:=b)with⟨e',ha⟩|⟨e',_⟩
   ·exact absurd (h.noacc b hc.1 ha) hn
   ·rw[e']at h2;exact h2
 ·have hne:∀b,c≠.own b:=fun b e=>hown ⟨b,e⟩;rw[aIy hne]at h2⊢;rw[aIy hne]at h2;exact h2
theorem Moves.adv_id{σ σ':Sit}(h:Moves id σ σ'):Adv σ σ':=by
 refine⟨h.stab,h.heap,fun c y hc=>?_,h.len,h.noacc⟩;have h1:=h.rep c y hc;cases c with
 |own b=>
  rcases TB (mem:=σ.mem) (b:=b)with⟨e,_⟩|⟨e,_⟩
  ·rw[e];exact hc.2.1
  ·rw[e];exact h1
 |_=>exact h1
theorem Moves.adv_own{σ σ':Sit}{b:Nat}(h:Moves (D8 b) σ σ')(hb:Ha (Ac σ'.mem b)):Adv σ σ':=by
 refine⟨h.stab,h.heap,fun c y hc=>?_,h.len,h.noacc⟩;have h1:=h.rep c y hc;cases c with
 |own b' =>
  rcases TB (mem:=σ.mem) (b:=b')with⟨e,_⟩|⟨e,hn⟩
  ·rw[e];exact hc.2.1
  ·rw[e];simp only[D8]at h1;cases hbb:Nat.beq b b' with
   |true=>
    have:b=b':=ah hbb;subst this;exact absurd (h.noacc b hc.1 hb) hn
   |false=>rw[hbb]at h1;exact h1
 |_=>exact h1
theorem Goes.adv{σ σ':Sit}(h:Goes σ σ'):Adv σ σ':=h.moves.adv_id
theorem A7.drop{σ σ':Sit}{f:SC->SC}(hm:∀c y,Ay σ c y->Ay σ' (f c) y){fT:TV->TV}(hf:∀x,fT x=match x with
  |.un=>.un
  |.val (.one c)=>.val (.one (f c))
  |.val (.agg cs)=>.val (.agg (cs.map f))
  |.tup l=>.tup (l.map fun v=>match v with|.one c=>.one (f c)|.agg cs=>.agg (cs.map f))
  |.nxt c i r=>.nxt c i r) {x:TV} {y:Value} (h:A7 σ x y):A7 σ' (fT x) y:=by
 rw[hf]
 have hv:∀v y,Be σ v y->Be σ' (match v with|.one c=>.one (f c)|.agg cs=>.agg (cs.map f)) y:=fun v y hv=>by
  cases v with
  |one c=>exact hm c y hv
  |agg cs=>obtain⟨ys,e,ha⟩:=hv;exact⟨ys,e,ha.mapL f hm⟩
 cases x with
 |un=>trivial
 |val v=>cases v with
  |one c=>exact hv (.one c) y h
  |agg cs=>exact hv (.agg cs) y h
 |tup l=>
  obtain⟨h1,ys,e,ha⟩:=h
  exact⟨by simpa using h1,ys,e,ha.mapL _ hv⟩
 |nxt c i r=>exact h
theorem A7.keep{σ σ':Sit}(hm:∀c y,Ay σ c y->Ay σ' (id c) y){x:TV}{y:Value}(h:A7 σ x y):A7 σ' x y:=by
 have hv:∀v y,Be σ v y->Be σ' v y:=fun v y hv=>by
  cases v with
  |one c=>exact hm c y hv
  |agg cs=>obtain⟨ys,e,ha⟩:=hv;exact⟨ys,e,ha.mono hm⟩
 cases x with
 |un=>trivial
 |val v=>exact hv v y h
 |tup l=>
  obtain⟨h1,ys,e,ha⟩:=h;exact⟨h1,ys,e,ha.mono hv⟩
 |nxt c i r=>exact h
theorem aVh(b:Nat)(x:TV):TC b x=match x with
  |.un=>.un
  |.val (.one c)=>.val (.one (D8 b c))
  |.val (.agg cs)=>.val (.agg (cs.map (D8 b)))
  |.tup l=>.tup (l.map fun v=>match v with|.one c=>.one (D8 b c)|.agg cs=>.agg (cs.map (D8 b)))
  |.nxt c i r=>.nxt c i r:=by
 cases x with
 |un=>rfl
 |val v=>cases v<;>rfl
 |tup l=>simp only[TC];congr 1
 |nxt c i r=>rfl
theorem aIw(m:Ai)(x:TV):TA m x=match x with
  |.un=>.un
  |.val (.one c)=>.val (.one (Iw m c))
  |.val (.agg cs)=>.val (.agg (cs.map (Iw m)))
  |.tup l=>.tup (l.map fun v=>match v with|.one c=>.one (Iw m c)|.agg cs=>.agg (cs.map (Iw m)))
  |.nxt c i r=>.nxt c i r:=by
 cases x with
 |un=>rfl
 |val v=>cases v<;>rfl
 |tup l=>simp only[TA];congr 1
 |nxt c i r=>rfl
theorem wU{g:TV->TV}(hg:g .un=.un):∀(tm:List (Nat×TV)) (t:Nat),AX (tm.map fun p=>(p.1,g p.2)) t=g (AX tm t)
 | [],t=>by simp[AX,hg]
 |(n,x)::r,t=>by
  simp only[fe,AX]
  cases Nat.beq n t with
  |true=>rfl
  |false=>exact wU hg r t
theorem Nk{a:Act}{d:Nat}{v:Value}(hd:d<a.tmps.size)(t:Nat):(a.put (some d) v).tmps.getD t undef=if t=d then v else a.tmps.getD t undef:=by
 simp only[Act.put];rw[dj,dj];by_cases h:t=d
 ·subst h;rw[Array.getElem?_setIfInBounds_self_of_lt hd];simp
 ·rw[Array.getElem?_setIfInBounds_ne (fun e=>h e.symm),if_neg h]
theorem xV:∀{cs:List (Nat×Nat×Bool×TV)} {d:Nat},FE d cs=true->∀e g p x,(e,g,p,x)∈cs->e≠d/\g≠d
 | [],_,_,_,_,_,_,h=>by simp at h
 |(e',g',p',x')::r,d,h,e,g,p,x,hm=>by
  simp only[FE,af,dp]at h
  rcases cn.1 hm with h' | h'
  ·cases h'
   refine⟨fun e=>?_,fun e=>?_⟩
   ·subst e;simp[dh]at h
   ·subst e;simp[dh]at h
  ·exact xV h.2 e g p x h'
variable {C:Cfg}{base:Base}{S0:Nat->Prop}{σ:Sit}{s s':St}{a:Act}{o:Oper}
theorem lW{σ':Sit}{fT:TV->TV}(hun:fT .un=.un)(hm:∀x y,A7 σ x y->A7 σ' (fT x) y)(hr:RelT σ s a){x:TV}{v:Value}(hv:A7 σ' x v){mem:Ai}(hmem:σ'.mem=mem)
  (h:SD {s with tm:=s.tm.map fun p=>(p.1,fT p.2),cs:=s.cs.map fun p=>(p.1,p.2.1,p.2.2.1,fT p.2.2.2)} o x mem=some s'):RelT σ' s' (a.put o.dst v):=by
 unfold SD at h;cases hd:o.dst with
 |none=>
  rw[hd]at h;simp only[ab]at h;subst h;refine⟨hr.size,hr.defers,hmem,fun t=>?_,fun d g p y hmm=>?_⟩
  ·simp only[wU hun];exact hm _ _ (hr.tm t)
  ·obtain⟨q,hq,he⟩:=lq.1 hmm;cases he;have:=hr.cs _ _ _ _ hq;exact⟨fun h=>hm _ _ (this.1 h),this.2⟩
 |some d=>
  rw[hd]at h;simp only at h;cases hb:(FE d (s.cs.map fun p=>(p.1,p.2.1,p.2.2.1,fT p.2.2.2))&&Nat.blt d s.n)with
  |false=>rw[hb]at h;cases h
  |true=>
   rw[hb]at h;simp only[af]at hb;simp only[cond_true,ab]at h;subst h;have hdl:d<a.tmps.size:=by rw[hr.size];simpa using hb.2
   refine⟨by simp[Act.put,hr.size],hr.defers,hmem,fun t=>?_,fun e g p y hmm=>?_⟩
   ·rw[Nk hdl];simp only[AX];by_cases h:t=d
    ·subst h;rw[if_pos rfl,dh];exact hv
    ·rw[if_neg h];have:Nat.beq d t=false:=by
      cases hq:Nat.beq d t with
      |false=>rfl
      |true=>exact absurd (ah hq).symm h
     rw[this,cond_false,wU hun];exact hm _ _ (hr.tm t)
   ·obtain⟨h1,h2⟩:=xV hb.1 e g p y hmm;rw[Nk hdl,Nk hdl,if_neg h1,if_neg h2];obtain⟨q,hq,he⟩:=lq.1 hmm;cases he;have:=hr.cs _ _ _ _ hq;exact⟨fun h=>hm _ _ (this.1 h),this.2⟩
theorem aAe{ops:Array Oper}{gi:Nat}{p:Bool}{t:Nat}(hg:o.guard=some (gi,p))(ht:ET ops.toList gi=some t):fx o (yielded ops a.tmps)=true↔a.tmps.getD t undef=.bool p:=by
 unfold fx;rw[hg];simp only[beq_iff_eq];unfold yielded;have hd:(ops[gi]?).bind (·.dst)=some t:=by
  unfold ET at ht;split at ht
  ·rename_i o' e;have:ops[gi]? = some o':=by simpa using e
   rw[this];exact ht
  ·cases ht
 rw[hd];simp only[Option.bind_some];rw[dj];cases e:a.tmps[t]? with
 |none=>simp[undef]
 |some v=>cases v<;>simp
theorem vC(ho:Ok base S0 σ)(hm:σ.mem=s.mem){S:Sum}{args:List SV}{g:Bool}{x:TV}{mem:Ai}(h:Fy s.mem S args=some (g,x,mem))(hst:Nat.beq mem.length s.mem.length=true):
  ∃σ1:Sit,σ1.mem=mem/\σ1.w=σ.w/\Ok base S0 σ1/\Goes σ σ1:=by
 unfold Fy at h;cases hf:Ba s.mem S.ins args with
 |mk args' m1=>
  rw[hf]at h;simp only at h;have hlen:=aVG hf;rw[←hm]at hf;obtain⟨σ1,a1,a2,a3,a4,a5,a6⟩:=TK ho hf;split at h
  ·rename_i zm ez;obtain⟨z,m2⟩:=zm;simp only at h;split at h
   ·rename_i vs m3 ev;simp only[ab,cu]at h;obtain⟨_,_,rfl⟩:=h;rw[←a1]at ez;obtain⟨σ2,b1,b2,b3,b4,b5⟩:=aNU a4 ez;have hst:=ah hst;have:=wW ev (by rw[hst,b5,a1,hlen]);exact⟨σ2,by rw[b1,this],b2.trans a2,b3,a5.trans b4⟩
   ·cases h
  ·cases h
theorem aWG{ctx:List (Nat×Bool)}(ho:Ok base S0 σ)(hm:σ.mem=s.mem){g:Bool}{x:TV}{mem:Ai}(hgd:o.guard≠none)(hl:IE o.op=true)(hst:DK o.op s.mem mem=true)(h:As C s ctx o=some (.ok g x mem)):
  ∃σ1:Sit,σ1.mem=mem/\σ1.w=σ.w/\Ok base S0 σ1/\Goes σ σ1:=by
 have same:mem=s.mem->∃σ1:Sit,σ1.mem=mem/\σ1.w=σ.w/\Ok base S0 σ1/\Goes σ σ1:=fun e=>⟨σ,hm.trans e.symm,rfl,ho,Goes.refl σ⟩
 unfold As at h;cases hop:o.op with
 |alloc T=>rw[hop]at hl;cases hl
 |box T y=>rw[hop]at hl;cases hl
 |store T y z=>rw[hop]at hl;cases hl
 |makeSlice T l c=>rw[hop]at hl;cases hl
 |buildSlice T n ps=>
  rw[hop]at h;simp only at h;split at h
  ·split at h
   ·rename_i z pl eτ hz hps;cases hn0:(Nat.beq n 0&&pl.isEmpty)with
    |true=>
     rw[hn0]at h;simp only[cond_true]at h;have:=Bh h;unfold DK at hst;rw[hop,this]at hst;have hst:=ah hst;simp at hst
    |false=>
    rw[hn0]at h;simp only[cond_false]at h;split at h
    ·rename_i cs ecs;cases hf:ES s.mem cs with
     |mk cs' m1=>
      rw[hf]at h;simp only at h;split at h
      ·rw[←hm]at hf;obtain⟨σ1,a1,a2,a3,a4,a5,a6⟩:=Z4 ho hf;have:=Bh (AF h).2;exact⟨σ1,a1.trans this.symm,a2,a4,a5⟩
      ·cases h
    ·cases h
   ·cases h
  ·cases h
 |slice T y lo hi mx=>
  rw[hop]at h;simp only at h;cases hsb:NB C s ctx T y lo hi mx with
  |some p=>rw[hsb]at h;exact same (Bh h)
  |none=>
  rw[hsb]at h;simp only at h;cases htr:SN C s ctx y lo mx with
  |some b=>
   exfalso;rw[htr]at h;simp only at h;(repeat' split at h)<;>first|(cases h;done)|skip
   have:=Bh h;unfold DK at hst;rw[hop,this]at hst;have hst:=ah hst;simp at hst
  |none=>
  rw[htr]at h;simp only at h;split at h
  ·rename_i c hT ec;split at h
   ·cases hf:Da s.mem c with
    |mk c' m1=>
     rw[hf]at h;simp only at h;rw[←hm]at hf;obtain⟨σ1,a1,a2,a3,a4,a5,a6⟩:=Sl ho hf;split at h
     ·split at h
      ·exact⟨σ1,a1.trans (Bh h).symm,a2,a4,a5⟩
      ·cases h
     ·cases h
   ·cases h
  ·cases h
 |indexAddr T y z=>
  rw[hop]at h;simp only at h;split at h
  ·split at h
   ·exact same (Bh (AF (DT h)).2)
   ·cases h
  ·split at h
   ·exact same (Bh (DT h))
   ·cases h
  ·split at h
   ·split at h
    ·split at h
     ·exact same (Bh (DT h))
     ·rename_i eb;have:=Bh (DT h);rw[←hm]at eb this;obtain⟨σ1,a1,a2,a3,a4,a5⟩:=kC ho (.inr eb);exact⟨σ1,a1.trans this.symm,a2,a4,a5⟩
     ·exact same (Bh (DT h))
     ·cases h
    ·exact same (Bh (DT h))
    ·split at h
     ·exact same (Bh (DT h))
     ·cases h
    ·cases h
   ·cases h
  ·cases h
 |call c=>
  rw[hop]at h hl;simp only at h;cases hc:c.callee with
  |value fo=>
   have hlen:Nat.beq mem.length s.mem.length=true:=by unfold DK at hst;rw[hop]at hst;simpa only[hc]using hst
   simp only[hc]at h;split at h
   ·rename_i f caps args ef eargs;split at h
    ·rename_i L eL;exfalso;split at eL
     ·rename_i e;exact hgd e
     ·cases eL
    split at h
    ·split at h
     ·rename_i ec;rw[←Bh h]at ec;exact vC ho hm ec hlen
     ·cases h
    ·have h2:=(AF h).2;cases h2
   ·split at h
    ·split at h
     ·rename_i ec;rw[←Bh h]at ec;exact vC ho hm ec hlen
     ·cases h
    ·cases h
   ·cases h
  |invoke r m=>
   have hlen:Nat.beq mem.length s.mem.length=true:=by unfold DK at hst;rw[hop]at hst;simpa only[hc]using hst
   simp only[hc]at h;split at h
   ·split at h
    ·split at h
     ·rename_i ec;rw[←Bh h]at ec;exact vC ho hm ec hlen
     ·cases h
    ·cases h
   ·cases h
  |builtin b=>
   simp only[IE,hc]at hl;simp only[hc]at h;cases b<;>simp only at h hl<;>first|(cases hl;done)|(cases h;done)|(repeat' split at h)<;>first|(cases h;done)|exact same (Bh h)|exact same (Bh (AF h).2)|exact same (Bh (DT h))
 |range T y=>rw[hop]at hl;simp[IE]at hl
 |next y st=>rw[hop]at hl;simp[IE]at hl
 |_=>
  rw[hop]at h;simp only at h;(repeat' split at h)<;>first|(cases h;done)|exact same (Bh h)|exact same (Bh (AF h).2)|exact same (Bh (DT h))|(have h2:=(AF h).2;cases h2)
theorem zA{σ':Sit}(hr:RelT σ s a){d t:Nat}{p:Bool}{x:TV}{v:Value}{mem:Ai}(hdl:d<a.tmps.size)(hdt:t≠d)(hnt:FE d s.cs=true)(hm:∀x y,A7 σ x y->A7 σ' x y)(hmem:σ'.mem=mem)
  (h1:a.tmps.getD t undef=.bool p->A7 σ' x v) (h2:a.tmps.getD t undef≠.bool p->v=undef):RelT σ' (bH s d t p x mem) (a.put (some d) v):=by
 refine⟨by simp[Act.put,hr.size,bH],hr.defers,hmem,fun q=>?_,fun e g' p' y hmm=>?_⟩
 ·rw[Nk hdl];simp only[bH,AX];by_cases h:q=d
  ·subst h;rw[dh];trivial
  ·rw[if_neg h];have:Nat.beq d q=false:=by
    cases hq:Nat.beq d q with
    |false=>rfl
    |true=>exact absurd (ah hq).symm h
   rw[this,cond_false];exact hm _ _ (hr.tm q)
 ·rcases cn.1 hmm with h|h
  ·cases h;rw[Nk hdl,Nk hdl,if_neg hdt,if_pos rfl];exact⟨h1,h2⟩
  ·obtain⟨n1,n2⟩:=xV hnt e g' p' y h;rw[Nk hdl,Nk hdl,if_neg n1,if_neg n2];have:=hr.cs _ _ _ _ h;exact⟨fun h=>hm _ _ (this.1 h),this.2⟩
theorem bDw(hC:SumsOk C)(ho:Ok base S0 σ)(hr:RelT σ s a)(hG:GlobsOk C.globs σ.w σ.S){ops:Array Oper}(h:step C ops.toList o s=some (.ok true s')){K:Act->World->Prop}{Q:Exit->Act->World->Prop}
  (hK:∀a' σ',Ok base S0 σ'->Adv σ σ'->RelT σ' s' a'->K a' σ'.w) :
  if fx o (yielded ops a.tmps)then o.wp C.P a σ.w K Q else K (a.put o.dst undef) σ.w:=by
 unfold step at h;cases hg:o.guard with
 |none=>
  rw[hg]at h;simp only at h;rw[if_pos (by simp[fx,hg])];split at h
  ·rename_i g x mem hp;by_cases happ:∃c,o.op=.call c/\c.callee=.builtin .append
   ·obtain⟨c,hop,hc⟩:=happ;have hg1:g=true/\∃b,x=.val (.one (.own b))/\SD {s with tm:=s.tm.map fun p=>(p.1,TC b p.2),cs:=s.cs.map fun p=>(p.1,p.2.1,p.2.2.1,TC b p.2.2.2)} o x (mem.map (Se b))=some s':=by
     have hx:∃b,x=.val (.one (.own b)):=by
      have hp':=hp;unfold As at hp';rw[hop]at hp';simp only[hc]at hp';repeat' split at hp'
      all_goals first|(cases hp';done)|(cases hp';exact⟨_,rfl⟩)
     obtain⟨b,rfl⟩:=hx;simp only[bX,hop,hc]at h;split at h
     ·rename_i s'' e;cases h;exact⟨rfl,b,rfl,e⟩
     ·cases h
    obtain⟨rfl,b,rfl,hput⟩:=hg1;obtain⟨b',e,hac,hgood⟩:=aXu ho hr (fun _ _ h=>by simp at h) hop hc hp;cases e;refine hgood K Q fun v σ' k1 k2 k3 k4=>?_;have hacc:Ha (Ac σ'.mem b):=by rw[k3];exact hac
    exact hK _ σ' k1 (k2.adv_own hacc) (lW (fT:=TC b) rfl (fun x y hxy=>A7.drop k2.rep (aVh b) hxy) hr k4 k3 hput)
   ·have hstrip:bX o x s mem=(s,mem):=by
     unfold bX;split
     ·rename_i c hop;split
      ·rename_i hc;exact absurd ⟨c,hop,hc⟩ happ
      ·rfl
     ·rfl
    rw[hstrip]at h;simp only at h;split at h
    ·rename_i s'' e;cases h;refine Sy hC ho hr (fun _ _ h=>by simp at h) hG (fun c hop hc=>happ ⟨c,hop,hc⟩) hp K Q fun v σ' k1 k2 k3 k4=>?_;refine hK _ σ' k1 k2.adv_id (lW (fT:=id) rfl (fun x y hxy=>?_) hr k4 k3 ?_)
     ·exact A7.keep k2.rep hxy
     ·simpa using e
    ·cases h
  ·cases h
  ·cases h
 |some gp=>
  obtain⟨gi,p⟩:=gp;rw[hg]at h;simp only at h;split at h
  ·rename_i t d ht hd;cases hb:(IE o.op&&FE d s.cs&&!(Nat.beq d t)&&Nat.blt d s.n)with
   |false=>rw[hb]at h;cases h
   |true=>
    rw[hb]at h;simp only[af,dp]at hb;simp only[cond_true]at h;split at h
    ·rename_i c g x mem hcv hp;obtain⟨hst,h⟩:=AF h;simp only[ab,Step.ok.injEq,dz,dp]at h;obtain⟨hgc,rfl⟩:=h;have hdl:d<a.tmps.size:=by rw[hr.size];simpa using hb.2
     have hdt:t≠d:=fun e=>by subst e;simp[dh]at hb
     have hciff:=ZS hr.tm hr.cs hcv;have hwiff:=aAe (a:=a) hg ht;have hcs:∀{σ':Sit} {v:Value},(∀x y,A7 σ x y->A7 σ' x y)->σ'.mem=mem->(a.tmps.getD t undef=.bool p->A7 σ' x v)->(a.tmps.getD t undef≠.bool p->v=undef) ->
       RelT σ' {s with tm:=(d,.un)::s.tm,cs:=(d,t,p,x)::s.cs,mem:=mem} (a.put o.dst v):=fun {σ' v} hm hmem h1 h2=>by
      rw[hd];exact zA hr hdl hdt hb.1.1.2 hm hmem h1 h2
     by_cases hw:fx o (yielded ops a.tmps)=true
     ·rw[if_pos hw];have htrue:=hwiff.1 hw;have hc1:c=true:=hciff.2 htrue;have hg1:g=true:=by
       rcases hgc with h|h
       ·exact h
       ·rw[hc1]at h;cases h
      subst hg1;have happ:∀c,o.op=.call c->c.callee≠.builtin .append:=fun c hop hc=>by
       have:=hb.1.1.1;unfold IE at this;rw[hop]at this;simp only[hc]at this;cases this
      refine Sy hC ho hr (ZQ hr.cs htrue) hG happ hp K Q fun v σ' k1 k2 k3 k4=>?_;exact hK _ σ' k1 k2.adv_id (hcs (fun x y hxy=>A7.keep k2.rep hxy) k3 (fun _=>k4) (fun hn=>absurd htrue hn))
     ·rw[if_neg hw];have hfalse:a.tmps.getD t undef≠.bool p:=fun e=>hw (hwiff.2 e);obtain⟨σ1,b1,b2,b3,b4⟩:=aWG ho hr.mem (by rw[hg];simp) hb.1.1.1 hst hp;have:=hK (a.put o.dst undef) σ1 b3 b4.adv (hcs (fun x y hxy=>b4.repT hxy) b1 (fun e=>absurd e hfalse) (fun _=>rfl));rw[b2]at this;exact this
    ·cases h
    ·cases h
  ·cases h
end Vx
namespace Vx
open Go Go.RowKit
variable {C:Cfg}{base:Base}{S0:Nat->Prop}{σ σ0:Sit}{s s':St}{a:Act}{R:Type}{r:R}
structure ProgOk (C:Cfg):Prop where
 sums:SumsOk C
 mixed:C.P.follows .mixedOrders=true
def Us(C:Cfg)(inl:FuncId->List SV->Ai->(List SV->Ai->Option R)->Option R):Prop:=
 ∀f args mem k r,inl f args mem k=some r->∀base S0 (σ:Sit) ys,Ok base S0 σ->σ.mem=mem->GlobsOk C.globs σ.w σ.S->All2 (Be σ) args ys ->
  (∃ fn, C.P.funcs[f]? = some fn /\ fn.body.isNone = false /\ (fn.name == "runtime.NumGoroutine") = false) /\
  Calls C.P f ys.toArray σ.w fun e w'=>∃(σ':Sit) (rs:List SV) (zs:List Value),e=.returned (DY zs)/\σ'.w=w'/\Ok base S0 σ'/\Adv σ σ'/\All2 (Be σ') rs zs/\k rs σ'.mem=some r
theorem GlobsOk.adv{G:List (Nat×Sigma fun τ=>List (Ab τ))}{σ σ':Sit}(h:GlobsOk G σ.w σ.S)(ha:Adv σ σ'):GlobsOk G σ'.w σ'.S:=h.mono ha.stab ha.heap
def LO(base:Base)(S0:Nat->Prop)(σ0:Sit)(r:R)(kn:St->Option R)(ke:Nat->St->Option R)(kr:St->Option R)(e:Exit)(a':Act)(w':World):Prop:=
 ∃(σ':Sit) (s':St),σ'.w=w'/\Ok base S0 σ'/\Adv σ0 σ'/\RelT σ' s' a'/\s'.m0=σ0.mem.length/\(match e with
  |.normal=>kn s'=some r
  |.exit id=>ke id s'=some r
  |.ret=>kr s'=some r
  |_=>False)
theorem bDv{ops:List Oper}{o:Oper}{g:Bool}(h:step C ops o s=some (.ok g s')):s'.m0=s.m0:=by
 unfold step at h;have hput:∀{s1 s2:St} {x:TV} {mem:Ai},SD s1 o x mem=some s2->s2.m0=s1.m0:=fun {s1 s2 x mem} h=>by
  unfold SD at h;split at h
  ·cases h;rfl
  ·have h2:=(AF h).2;cases h2;rfl
 split at h
 ·split at h
  ·split at h;rename_i s1 m1 e;split at h
   ·rename_i s2 e2;cases h;rw[hput e2];unfold bX at e;split at e
    ·split at e
     ·split at e<;>(cases e;rfl)
     ·cases e;rfl
    ·cases e;rfl
   ·cases h
  ·cases h
  ·cases h
 ·split at h
  ·have h:=(AF h).2;split at h
   ·have h:=(AF h).2;cases h;rfl
   ·cases h
   ·cases h
  ·cases h
theorem aUw{c g:Bool}{x:TV}{mem:Ai}{o:Option Res}{f:FuncId}{args:List SV}(h:(bif c then some (.ok g x mem)else o)=some (.inl f args)):o=some (.inl f args):=by
 cases c with
 |true=>cases h
 |false=>exact h
theorem RelT.clear(hr:RelT σ s a):RelT σ {s with cs:=[] } a:=⟨hr.size,hr.defers,hr.mem,hr.tm,fun _ _ _ _ h=>by simp at h⟩
theorem aHF{mem:Ai}:∀{l:List (Nat×Nat)},ZH mem l=true->∀p∈l,∃cs,Ac mem p.1=.raw cs
 | [],_,p,hp=>by simp at hp
 |(b,off)::r,h,p,hp=>by
  simp only[ZH]at h
  split at h
  ·rename_i cs e
   rcases cn.1 hp with rfl|hp
   ·exact⟨cs,e⟩
   ·exact aHF h p hp
  ·cases h
theorem aH6{σ:Sit}:∀{caps:List (Nat×Nat)} {rs:List Nat},(∀p∈caps,p.1<σ.mem.length)->(∀p∈caps,∃cs,Ac σ.mem p.1=.raw cs)->caps.map (fun p=>σ.E.β p.1)=rs.map some ->
  All2 (Be σ) (caps.map fun p=>SV.one (.ptr p.1 p.2)) ((caps.zip rs).map fun q=>il (some ⟨q.2,q.1.2,none⟩))
 | [],_,_,_,_=>by simp;exact .nil
 |p::caps,[],_,_,h=>by simp at h
 |p::caps,q::rs,h1,h2,h=>by
  simp only[fe,List.cons.injEq]at h
  obtain⟨cs,e⟩:=h2 p (by simp)
  refine .cons ⟨h1 p (by simp),⟨_,rfl⟩,?_⟩ (aH6 (fun p hp=>h1 p (by simp[hp])) (fun p hp=>h2 p (by simp[hp])) h.2)
  rw[e]
  exact⟨q,h.1,rfl⟩
theorem aJO{inl:FuncId->List SV->Ai->(List SV->Ai->Option R)->Option R}(hI:Us C inl)(ho:Ok base S0 σ)(hr:RelT σ s a)(hG:GlobsOk C.globs σ.w σ.S){o:Oper}{f:FuncId}{args:List SV}{k:List SV->Ai->Option R}
  {ctx:List (Nat×Bool)} (hx:Bb a ctx) (hs:As C s ctx o=some (.inl f args)) (h:inl f args s.mem k=some r) {K:Act->World->Prop} {Q:Exit->Act->World->Prop}
  (hK:∀(v:Value) (σ':Sit) (rs:List SV) (zs:List Value),Ok base S0 σ'->Adv σ σ'->v=DY zs->All2 (Be σ') rs zs->k rs σ'.mem=some r->K (a.put o.dst v) σ'.w):o.wp C.P a σ.w K Q:=by
 have hcall:∃c fo caps as,o.op=.call c/\c.callee=.value fo/\AR s ctx fo=some (.fn f caps)/\D9 s ctx c.args.toList=some as/\ZH s.mem caps=true/\args=as++caps.map fun p=>SV.one (.ptr p.1 p.2):=by
  unfold As at hs;cases hop:o.op with
  |call c=>
   rw[hop]at hs;simp only at hs;cases hc:c.callee with
   |value fo=>
    simp only[hc]at hs;split at hs
    ·rename_i f' caps as ef ea;split at hs
     ·(repeat' split at hs)<;>first|(cases hs;done)|(have h2:=(AF hs).2;(repeat' split at h2)<;>cases h2)
     split at hs
     ·repeat' split at hs
      all_goals cases hs
     ·obtain⟨h1,h2⟩:=AF hs;cases h2;exact⟨c,fo,caps,as,rfl,hc,ef,ea,h1,rfl⟩
    ·(repeat' split at hs)<;>cases hs
    ·cases hs
   |invoke q m=>simp only[hc]at hs;(repeat' split at hs)<;>cases hs
   |builtin b=>
    simp only[hc]at hs;cases b<;>simp only at hs<;>first|(cases hs;done)|(repeat' split at hs)<;>first|(cases hs;done)|(have h2:=(AF hs).2;cases h2;done)|(have h2:=DT hs;cases h2)
  |_=>
   rw[hop]at hs;simp only at hs;(repeat' split at hs)<;>first|(cases hs;done)|(have h2:=(AF hs).2;(repeat' split at h2)<;>cases h2;done)|(have h2:=aUw hs;have h3:=(AF h2).2;cases h3;done)|(have h2:=DT hs;(repeat' split at h2)<;>first|(cases h2;done)|(have h3:=(AF h2).2;cases h3))
 obtain⟨c,fo,caps,as,hop,hc,ef,ea,hraw,rfl⟩:=hcall;rw[←hr.mem]at hraw h;obtain⟨hb,_,hm⟩:=Bk hr hx ef;have hall:=aHF hraw;obtain⟨rs,hrs,hfv⟩:=hm.resolve_left fun⟨p,hp,hq⟩=>by obtain⟨cs,e⟩:=hall p hp;rw[e]at hq;exact hq
 have hargs:=(TE hr hx ea).append (aH6 hb hall hrs);obtain⟨hcl,hcalls⟩:=hI f _ σ.mem k r h base S0 σ _ ho rfl hG hargs;have hexec:(execOp a.eval o).run C.P σ.w=.ok (.enter f ((c.args.toList.map a.eval)++(caps.zip rs).map fun q=>il (some ⟨q.2,q.1.2,none⟩)).toArray) σ.w:=by
  simp only[execOp,hop,resolve,hc,hfv];simp only[Deferred.ofValue,bu,de,ax,invoke];rw[lZ hcl];congr 2;apply fu.1;simp
 unfold Oper.wp;rw[hexec,Oper.upon_enter];refine hcalls.mono fun e w' he=>?_;obtain⟨σ',rs',zs,rfl,rfl,h1,h2,h3,h4⟩:=he;exact hK (DY zs) σ' rs' zs h1 h2 rfl h3 h4
theorem Ub(hP:ProgOk C){inl:FuncId->List SV->Ai->(List SV->Ai->Option R)->Option R}(hI:Us C inl)(ops:Array Oper){kn:St->Option R}{ke:Nat->St->Option R}{kr:St->Option R}(hG0:GlobsOk C.globs σ0.w σ0.S):
  ∀(l:List Oper) {σ:Sit} {s:St} {a:Act},Ok base S0 σ->Adv σ0 σ->RelT σ s a->s.m0=σ0.mem.length->Nw C inl ops.toList l s kn=some r->wpList C.P ops (LO base S0 σ0 r kn ke kr) l a σ.w
 | [],σ,s,a,ho,hA,hr,hm,h=>⟨σ,s,rfl,ho,hA,hr,hm,h⟩
 |o::l,σ,s,a,ho,hA,hr,hm,h=>by
  simp only[Nw]at h
  unfold wpList
  split at h
  ·rename_i g s1 e
   obtain⟨h1,h2⟩:=AF h
   subst h1
   have:=bDw hP.sums ho hr (hG0.adv hA) e (K:=wpList C.P ops (LO base S0 σ0 r kn ke kr) l) (Q:=LO base S0 σ0 r kn ke kr) fun a' σ' k1 k2 k3=>
    Ub hP hI ops hG0 l k1 (hA.trans k2) k3 ((bDv e).trans hm) h2
   split at this
   ·rename_i hw;rw[if_pos hw];exact .inl this
   ·rename_i hw;rw[if_neg hw];exact this
  ·rename_i f args e
   split at h
   ·rename_i hg
    rw[if_pos (by simp[fx,hg])]
    have hs:As C s [] o=some (.inl f args):=by
     unfold step at e
     rw[hg]at e
     simp only at e
     (repeat' split at e)<;>first|(cases e;done)|(cases e;assumption)
    refine .inl (aJO hI ho hr (hG0.adv hA) (fun _ _ h=>by simp at h) hs h fun v σ' rs zs k1 k2 k3 k4 k5=>?_)
    split at k5
    ·rename_i s2 e2
     refine Ub hP hI ops hG0 l k1 (hA.trans k2) (s:=s2) ?_ ?_ k5
     ·refine lW (σ:=σ) (fT:=TA s.mem) rfl (fun x y hxy=>A7.drop (by rw[←hr.mem];exact k2.rep) (aIw s.mem) hxy) hr (x:=ND rs) (v:=v) (by rw[k3];exact pZ k4) rfl e2
     ·unfold SD at e2
      split at e2
      ·cases e2;exact hm
      ·have:=(AF e2).2;cases this;exact hm
    ·cases k5
   ·cases h
  ·rename_i c t d p f args e
   obtain⟨gi,hg,ht,hd,hnt,hdt,hdl,hcv,hs⟩:∃gi,o.guard=some (gi,p)/\ET ops.toList gi=some t/\o.dst=some d/\FE d s.cs=true/\t≠d/\d<s.n/\R9 s.tm s.cs t p=some c/\As C s (Kr s.cs t p) o=some (.inl f args):=by
    unfold step at e
    split at e
    ·(repeat' split at e)<;>cases e
    ·rename_i gi p' hg
     split at e
     ·rename_i t' d' ht hd
      obtain⟨hb,e⟩:=AF e
      simp only[af,dp]at hb
      split at e
      ·have:=(AF e).2;cases this
      ·cases e
       exact⟨gi,hg,ht,hd,hb.1.1.2,fun e=>by subst e;simp[dh]at hb,by simpa using hb.2,by assumption,by assumption⟩
      ·cases e
     ·cases e
   have hdl':d<a.tmps.size:=by rw[hr.size];exact hdl
   have hciff:=ZS hr.tm hr.cs hcv
   have hwiff:=aAe (a:=a) hg ht
   cases c with
   |true=>
    rw[cond_true]at h
    have htrue:=hciff.1 rfl
    rw[if_pos (hwiff.2 htrue)]
    refine .inl (aJO hI ho hr (hG0.adv hA) (ZQ hr.cs htrue) hs h fun v σ' rs zs k1 k2 k3 k4 k5=>?_)
    have hr2:RelT σ' {ZU s with mem:=σ'.mem} a:=by
     have:=lW (σ:=σ) (σ':=σ') (o:={o with dst:=none}) (v:=undef) (x:=.un) (fT:=TA s.mem) rfl (fun x y hxy=>A7.drop (by rw[←hr.mem];exact k2.rep) (aIw s.mem) hxy) hr trivial rfl (s':={ZU s with mem:=σ'.mem}) rfl
     simpa[Act.put]using this
    have hnt2:FE d (ZU s).cs=true:=by
     have:∀l:List (Nat×Nat×Bool×TV),FE d (l.map fun p=>(p.1,p.2.1,p.2.2.1,TA s.mem p.2.2.2))=FE d l:=fun l=>by
      induction l with
      |nil=>rfl
      |cons q l ih=>obtain⟨_,_,_,_⟩:=q;simp only[fe,FE,ih]
     show FE d (s.cs.map _)=true
     rw[this];exact hnt
    rw[hd]
    exact Ub hP hI ops hG0 l k1 (hA.trans k2) (zA hr2 hdl' hdt hnt2 (fun _ _ h=>h) rfl (fun _=>by rw[k3];exact pZ k4) (fun hn=>absurd htrue hn)) hm k5
   |false=>
    rw[cond_false]at h
    have hfalse:a.tmps.getD t undef≠.bool p:=fun e=>by have:=hciff.2 e;cases this
    rw[if_neg (fun hw=>hfalse (hwiff.1 hw)),hd]
    exact Ub hP hI ops hG0 l ho hA (zA hr hdl' hdt hnt (fun _ _ h=>h) hr.mem (fun e=>absurd e hfalse) (fun _=>rfl)) hm h
  ·cases h
end Vx
end
