/- Part 2 of the proof. What is proved: symbolic execution of the functions, proved sound; what each function of the program computes, and that every run ends with it; what these functions compute, in plain numbers. Conditions: each theorem bears its own. -/
import Derived.Test.YthajbkcpnbiobaaGreatDoorVxG1
set_option linter.all false
set_option exponentiation.threshold 1000000
noncomputable section
open Array renaming getD_eq_getD_getElem?->dw,getElem?_append->nr,size_append->pj,toList_inj->gk
open Bool renaming and_eq_true->ah,not_eq_true'->fc,or_eq_true->dv
open Go.Builtin renaming append_->lr,copy_->ni,firstCells->jb,growBy->qj,len_->mv,nextslicecap->lc,zeroCells->nh
open Go.IntKind renaming bits->iw,max->lv,min->mp,signed->jh
open Go.Program renaming bytesOf->qe
open Go.Region renaming wanted->gl
open Go.Result renaming andThen->oi,andThen_ok->bm
open Go.Sem renaming run_bind->ci,run_pure->di
open Go.Value renaming int->mn,pointer->jf
open Go.Value.slice renaming injEq->ra
open Int renaming le_refl->li,le_trans->lx,mul_comm->nq,mul_le_mul_of_nonneg_left->me,natCast_mul->ka
open List renaming all_eq_true->mf,append_assoc->fg,append_nil->dl,drop_of_length_le->jl,eq_nil_of_length_eq_zero->cr,getD_eq_getElem?_getD->al,getElem?_append_left->co,getElem?_append_right->cj,getElem?_cons_succ->gv,getElem?_cons_zero->gh,getElem?_drop->du,getElem?_eq_getElem->bq,getElem?_eq_some_iff->bj,getElem?_replicate->ln,getElem?_take_of_lt->ct,getElem?_toArray->gf,getElem_mem->jn,length_append->ff,length_take->ig,map_cons->gb,map_nil->jq,mem_append->cy,mem_cons->dc,mem_cons_of_mem->io,mem_map->lz,nodup_append->kb,nodup_nil->kl,replicate->aq,size_toArray->pk,take->kv,take_length->dq,take_of_length_le->cm
open Nat renaming add_mul->ce,beq_refl->dt,eq_of_beq_eq_true->aj,eq_zero_or_pos->br,le_refl->bu,le_total->pw,le_trans->ga,lt_of_le_of_lt->bl,lt_of_lt_of_le->ao,lt_or_ge->ay,min_eq_left->gn,min_eq_right->lg,min_le_left->lq,min_le_right->lf,mod_lt->ca,mul_le_mul_right->aw,succ_mul->kh,zero_add->cz,zero_le->dp
open Option renaming map_some->jz
open Option.some renaming inj->ks,injEq->ae
open Prod.mk renaming injEq->cw
namespace Vx
open Go Go.RowKit
variable {C:Cfg}{base:Base}{S0:Nat->Prop}{σ:Sit}{s:St}{a:Act}{ctx:List (Nat×Bool)}{o:Oper}{x:TV}{mem':Ai}
theorem UR{P:Program}{e:TypeId}{τ:Shape}(eτ:CU P e=some τ):∃i,P.info? e=some i:=by
 have:Pg P 12 e=some τ:=by
  unfold CU at eτ;split at eτ
  ·rename_i τ' e';cases hb:Nat.beq (P.cellsOf e) τ'.width with
   |false=>rw[hb]at eτ;cases eτ
   |true=>rw[hb]at eτ;cases eτ;exact e'
  ·cases eτ
 unfold Pg at this;cases hu:P.underlying e with
 |none=>rw[hu]at this;cases this
 |some d=>exact kG hu
theorem aOV{P:Program}{T e:TypeId}{n:Nat}{τ:Shape}(hT:P.underlying T=some (.array n e))(eτ:CU P e=some τ){r q:Nat}{k:IntKind}{i:Int}(h0:0<=i)(h1:i<(n:Int))(w:World):
  (Instr.indexAt T (.pointer (some ⟨r,q,none⟩)) (.int k i)).run P w=.ok (.pointer (some ⟨r,q+i.toNat*τ.width,none⟩)) w:=by
 unfold Instr.indexAt;simp[Cw hT,asIntOf,Instr.sureAddr,h0,h1,Fv (UR eτ),Lx eτ,Lp]
theorem aEt{P:Program}{T e:TypeId}{n c:Nat}{τ:Shape}(hT:P.underlying T=some (.slice e))(eτ:CU P e=some τ){r q:Nat}{k:IntKind}{i:Int}(h0:0<=i)(h1:i<(n:Int))(w:World):
  (Instr.indexAt T (.slice (some ⟨r,q,none⟩) n c) (.int k i)).run P w=.ok (.pointer (some ⟨r,q+i.toNat*τ.width,none⟩)) w:=by
 unfold Instr.indexAt;simp[Cw hT,asIntOf,h0,h1,Fv (UR eτ),Lx eτ,Lp]
theorem getD_some{α:Type}{xs:List α}{i:Nat}{d:α}(h:i<xs.length):xs[i]? = some (xs.getD i d):=by
 rw[al,bq h];rfl
theorem aO4{τ:Shape}{xs:List (Ab τ)}{r q:Nat}{vs:Array Value}{T:TypeId}{fz:Nat×Nat}{i:Nat}(hS:σ.S r)(hh:σ.w.heap[r]? = some (.cells vs T fz))(hrow:Rows σ.w σ.S τ vs q xs)(hi:i<xs.length):
  AB σ (.iptr τ (xs.getD i τ.dflt) 0) (.pointer (some ⟨r,q+i*τ.width,none⟩)):=by
 obtain⟨ds,d1,d2⟩:=hrow i _ (getD_some (d:=τ.dflt) hi);exact⟨r,q+i*τ.width,vs,T,fz,ds,rfl,hS,hh,d1,d2⟩
theorem aEB{P:Program}{T e:TypeId}{τ:Shape}{xs:List (Ab τ)}{y:Value}(hT:P.underlying T=some (.slice e))(eτ:CU P e=some τ)(hd:Bf σ.w σ.S (.slice τ) xs [y]){k:IntKind}{i:Int}(h0:0<=i)(h1:i<(xs.length:Int))(w:World):
  ∃v,(Instr.indexAt T y (.int k i)).run P w=.ok v w/\AB σ (.iptr τ (xs.getD i.toNat τ.dflt) 0) v:=by
 obtain⟨A,c,hy,hc,hl,hne⟩:=hd;cases hy;have hlt:i.toNat<xs.length:=by omega
 obtain⟨r,q,vs,T',fz,rfl,g1,g2,g3⟩:=hne (fun e=>by subst e;simp at hlt);exact⟨_,aEt hT eτ h0 h1 w,aO4 g1 g2 g3 hlt⟩
theorem bCn(ho:Ok base S0 σ)(hr:RelT σ s a)(hx:BG a ctx)(hG:aF4 C σ.w σ.S){T:TypeId}{y z:Operand}(hop:o.op=.indexAddr T y z)(h:Ay C s ctx o=some (.ok true x mem')):BV C base S0 id σ a o x mem':=by
 unfold Ay at h;rw[hop]at h;simp only at h;have hex:∀{v:Value},(Instr.indexAt T (a.eval y) (a.eval z)).run C.P σ.w=.ok v σ.w->(execOp a.eval o).run C.P σ.w=.ok (.value v) σ.w:=fun hv=>by
  simp only[execOp,hop];exact BU hv
 split at h
 ·rename_i n e g i hT ec ei;obtain⟨k,hi,_⟩:=U3 hr hx ei;have hc:a.eval y=.pointer (some ⟨g,0,none⟩):=BO hr hx ec;split at h
  ·rename_i τ xs τ' eg eτ;split at h
   ·rename_i hττ;subst hττ;cases hb:Nat.beq xs.length n with
    |false=>rw[hb]at h;cases h
    |true=>
     rw[hb]at h;simp only[cond_true,ae,Res.ok.injEq,bIW,ah,decide_eq_true_eq]at h;obtain⟨⟨g1,g2⟩,rfl,rfl⟩:=h;have hn:xs.length=n:=aj hb;obtain⟨hS,vs,T',fz,hh,hrow⟩:=hG g _ _ eg;refine Bh (σ':=σ) (hex (by rw[hc,hi];exact aOV hT eτ g1 g2 σ.w)) ho (Goes.refl σ).moves hr.mem ?_;exact aO4 (q:=0) hS hh hrow (by omega)
   ·cases h
  ·cases h
 ·rename_i n e b i hT ec ei;obtain⟨k,hi,_⟩:=U3 hr hx ei;have hc:=BO hr hx ec;split at h
  ·rename_i τ xs τ' eb eτ;split at h
   ·rename_i hττ;subst hττ;simp only[ae,Res.ok.injEq,ah,decide_eq_true_eq]at h;obtain⟨⟨⟨g1,g2⟩,g3⟩,rfl,rfl⟩:=h;rw[←hr.mem]at eb;obtain⟨hlt,_,hm⟩:=hc;rw[eb]at hm;obtain⟨r,hβ,hy⟩:=hm;refine Bh (σ':=σ) (hex (by rw[hy,hi];exact aOV hT eτ g1 g2 σ.w)) ho (Goes.refl σ).moves hr.mem ?_;refine⟨hlt,trivial,?_⟩;rw[eb];exact⟨by omega,r,hβ,by simp⟩
   ·cases h
  ·cases h
 ·rename_i e c i hT ec ei;obtain⟨k,hi,_⟩:=U3 hr hx ei;have hc:=BO hr hx ec;split at h
  ·rename_i τ eτ;split at h
   ·rename_i b;split at h
    ·rename_i τ' xs eb;split at h
     ·rename_i hττ;subst hττ;simp only[ae,Res.ok.injEq,ah,decide_eq_true_eq]at h;obtain⟨⟨g1,g2⟩,rfl,rfl⟩:=h;rw[←hr.mem]at eb;obtain⟨hlt,_,hm⟩:=hc;rw[eb]at hm;obtain⟨r,hβ⟩:=aDm (ho.ent b) eb (by omega);simp only[hβ,jz]at hm;have hy:=hm;refine Bh (σ':=σ) (hex (by rw[hy,hi];exact aEt hT eτ g1 g2 σ.w)) ho (Goes.refl σ).moves hr.mem ?_;refine⟨hlt,trivial,?_⟩;rw[eb];exact⟨by omega,r,hβ,by simp⟩
     ·cases h
    ·rename_i τ' xs eb;split at h
     ·rename_i hττ;subst hττ;simp only[ae,Res.ok.injEq,ah,decide_eq_true_eq]at h;obtain⟨⟨g1,g2⟩,rfl,rfl⟩:=h;rw[←hr.mem]at eb;obtain⟨σ1,a1,a2,a3,a4,a5⟩:=tW ho (.inr eb);have hc1:=a5.repC hc;obtain⟨_,_,hm⟩:=hc1;rw[a1,Cf (DI (by rw[eb];simp)),if_pos rfl]at hm;obtain⟨v,h1,h2⟩:=aEB hT eτ hm (k:=k) g1 g2 σ.w;refine Bh (σ':=σ1) (v:=v) (by rw[a2];exact hex (by rw[hi];exact h1)) a4 a5.moves (by rw[a1,hr.mem]) h2
     ·cases h
    ·rename_i τ' xs eb;split at h
     ·rename_i hττ;subst hττ;simp only[ae,Res.ok.injEq,ah,decide_eq_true_eq]at h;obtain⟨⟨g1,g2⟩,rfl,rfl⟩:=h;rw[←hr.mem]at eb;obtain⟨_,_,hm⟩:=hc;rw[eb]at hm;obtain⟨v,h1,h2⟩:=aEB hT eτ hm (k:=k) g1 g2 σ.w;exact Bh (σ':=σ) (v:=v) (hex (by rw[hi];exact h1)) ho (Goes.refl σ).moves hr.mem h2
     ·cases h
    ·cases h
   ·rename_i τ' xs;split at h
    ·rename_i hττ;subst hττ;simp only[ae,Res.ok.injEq,ah,decide_eq_true_eq]at h;obtain⟨⟨g1,g2⟩,rfl,rfl⟩:=h;obtain⟨v,h1,h2⟩:=aEB hT eτ hc (k:=k) g1 g2 σ.w;exact Bh (σ':=σ) (v:=v) (hex (by rw[hi];exact h1)) ho (Goes.refl σ).moves hr.mem h2
    ·cases h
   ·rename_i b lo n;split at h
    ·rename_i τ' xs eb;split at h
     ·rename_i hττ;subst hττ;simp only[ae,Res.ok.injEq,ah,decide_eq_true_eq]at h;obtain⟨⟨g1,g2⟩,rfl,rfl⟩:=h;rw[←hr.mem]at eb;obtain⟨hlt,_,hm⟩:=hc;rw[eb]at hm;obtain⟨q1,A,cc,hy,q2,q3,q4⟩:=hm;obtain⟨r,hβ,rfl⟩:=q4 (by omega);refine Bh (σ':=σ) (hex (by rw[hy,hi];exact aEt hT eτ g1 g2 σ.w)) ho (Goes.refl σ).moves hr.mem ?_;refine⟨hlt,trivial,?_⟩;rw[eb];exact⟨by omega,r,hβ,by rw[ce];simp⟩
     ·cases h
    ·cases h
   ·cases h
  ·cases h
 ·cases h
theorem aPQ{τ:Shape}{d:Ab τ}{z:Array Value}(hd:Bf σ.w σ.S τ d z.toList)(_hw:0<z.size)(n:Nat):Rows σ.w σ.S τ (madeCells z (n*z.size)) 0 (aq n d):=by
 have hl:=hd.len;simp at hl;intro i x hi;rw[ln]at hi;split at hi
 ·rename_i hin;cases hi;refine⟨z.toList,hd,fun j v hj=>?_⟩;have hjl:j<z.size:=by simpa using(bj.1 hj).1
  rw[←hl,cz];refine aPP ?_ ?_
  ·have:=aw z.size (show i+1<=n by omega);rw[kh]at this;omega
  ·rw[Nat.add_comm,Nat.add_mul_mod_self_right,Nat.mod_eq_of_lt hjl];simpa using hj
 ·cases hi
theorem bIT{a:Act}{l c:Operand}(h:vT l c=true){n m:Int}{kn km:IntKind}(hn:a.eval l=.int kn n)(hm:a.eval c=.int km m):kn=km/\n=m:=by
 unfold vT at h;split at h
 ·rename_i t t';have:=aj h;subst this;rw[hn]at hm;cases hm;exact⟨rfl,rfl⟩
 ·simp only[ah,decide_eq_true_eq]at h;obtain⟨rfl,rfl⟩:=h;have h1:=hn.symm.trans hm;cases h1;exact⟨rfl,rfl⟩
 ·cases h
theorem bCu(ho:Ok base S0 σ)(hr:RelT σ s a)(hx:BG a ctx){T:TypeId}{l c:Operand}(hop:o.op=.makeSlice T l c)(h:Ay C s ctx o=some (.ok true x mem')):BV C base S0 id σ a o x mem':=by
 unfold Ay at h;rw[hop]at h;simp only at h;split at h
 ·rename_i e n m hT en em;obtain⟨kn,hn,_⟩:=U3 hr hx en;obtain⟨km,hm,_⟩:=U3 hr hx em;split at h
  ·rename_i τ z eτ hz;split at h
   ·rename_i d ep;obtain⟨ie,zv,hi,hzv,hzr⟩:=aAu hz;obtain⟨y1,y2,hyy,p1,p2⟩:=Pa (hzr σ).cells ep;cases p2;rw[dl]at hyy;rw[←hyy]at p1;have hw:=Lx eτ;have hzl:=p1.len;have hsz:ie.size=C.P.cellsOf e:=by simp[Program.cellsOf,hi]
    have hby:(ie.bytes:Int)=(C.P.bytesOf e:Int):=by simp[qe,hi]
    cases hb0:(vT l c&&Nat.blt 0 (C.P.cellsOf e)&&Nat.blt 0 (C.P.bytesOf e))with
    |true=>
     rw[hb0]at h;simp only[ah]at hb0;simp only[cond_true,ae,Res.ok.injEq,ah,decide_eq_true_eq]at h;obtain⟨⟨g1,g2⟩,rfl,rfl⟩:=h;have hnm:kn=km/\n=m:=bIT hb0.1.1 hn hm;obtain⟨rfl,rfl⟩:=hnm;have hpos:0<C.P.cellsOf e:=by simpa using hb0.1.2
     have hbpos:0<C.P.bytesOf e:=by simpa using hb0.2
     have hnle:n<=Fc:=by
      refine lx ?_ g2;have:=me (a:=1) (b:=(C.P.bytesOf e:Int)) (c:=n) (by omega) g1;omega
     have hrun:=run_make (P:=C.P) σ.w T e ie zv hT hi hzv kn kn n n g1 (li _) (by rw[hby,nq];unfold Fc at g2;omega) (by unfold Fc at hnle;omega);have hzs:zv.cells.size=C.P.cellsOf e:=by simpa[hw]using hzl
     obtain⟨k1,k2,k3,k4,k5⟩:=aDl ho (T:=e) (τ:=τ) (xs:=aq n.toNat d) (vs:=madeCells zv.cells (n.toNat*ie.size)) (k:=n.toNat) (by simp) (by unfold B0;unfold Fc at hnle;omega) (by rw[size_madeCells,hsz,hw])
      (by rw[hsz,←hzs];exact aPQ p1 (by omega) n.toNat)
     refine Bh (σ':=σ.push (.arr τ (aq n.toNat d)) (.cells (madeCells zv.cells (n.toNat*ie.size)) e) n.toNat) ?_ k1 k2.moves (by simp[Sit.push,hr.mem]) ?_ (v:=.slice (some ⟨σ.w.heap.size,0,none⟩) n.toNat n.toNat)
     ·simp only[execOp,hop,hn,hm];exact BU hrun
     ·rw[←hr.mem];refine⟨by simp[Sit.push],trivial,?_⟩;rw[k3];simp only[k4,k5,jz,List.length_replicate]
    |false=>
     rw[hb0]at h;simp only[cond_false]at h;cases hb:(Nat.blt 0 (C.P.cellsOf e)&&Nat.blt 0 (C.P.bytesOf e))with
     |false=>rw[hb]at h;cases h
     |true=>
      rw[hb]at h;simp only[ah]at hb;simp only[cond_true,ae,Res.ok.injEq,ah,decide_eq_true_eq]at h;obtain⟨⟨⟨g0,g1⟩,g2⟩,rfl,rfl⟩:=h;have hpos:0<C.P.cellsOf e:=by simpa using hb.1
      have hbpos:0<C.P.bytesOf e:=by simpa using hb.2
      have hnle:m<=Fc:=by
       refine lx ?_ g2;have:=me (a:=1) (b:=(C.P.bytesOf e:Int)) (c:=m) (by omega) (lx g0 g1);omega
      have hrun:=run_make (P:=C.P) σ.w T e ie zv hT hi hzv kn km n m g0 g1 (by rw[hby,nq];unfold Fc at g2;omega) (by unfold Fc at hnle;omega);have hzs:zv.cells.size=C.P.cellsOf e:=by simpa[hw]using hzl
      have hg:=Z8 ho (.acc τ (aq n.toNat d)) (.cells (madeCells zv.cells (m.toNat*ie.size)) e) m.toNat;have hblk:Ac (σ.push (.acc τ (aq n.toNat d)) (.cells (madeCells zv.cells (m.toNat*ie.size)) e) m.toNat).mem σ.mem.length=.acc τ (aq n.toNat d):=Jd;have hrows:Rows σ.w σ.S τ (madeCells zv.cells (m.toNat*ie.size)) 0 (aq n.toNat d):=by
       have:=aPQ p1 (by omega) m.toNat;rw[hsz,←hzs];intro i x hi;refine this i x ?_;rw[ln]at hi⊢;split at hi
       ·rw[if_pos (by omega)];exact hi
       ·cases hi
      have hok:Ok base S0 (σ.push (.acc τ (aq n.toNat d)) (.cells (madeCells zv.cells (m.toNat*ie.size)) e) m.toNat):=by
       refine lB ho _ _ _ ?_;unfold AE;rw[hblk];refine⟨by simp[Sit.push,AI];omega,by simp[Sit.push,AI];unfold B0;unfold Fc at hnle;omega,.inr ⟨σ.w.heap.size,_,e,by simp[Sit.push,AI],U1,?_,hrows.mono hg.stab hg.heap⟩⟩;rw[size_madeCells,hsz,hw];simp[Sit.push,AI]
      refine Bh (σ':=σ.push (.acc τ (aq n.toNat d)) (.cells (madeCells zv.cells (m.toNat*ie.size)) e) m.toNat) ?_ hok hg.moves (by simp[Sit.push,hr.mem]) ?_ (v:=.slice (some ⟨σ.w.heap.size,0,none⟩) n.toNat m.toNat)
      ·simp only[execOp,hop,hm,hn];exact BU hrun
      ·rw[←hr.mem];refine⟨by simp[Sit.push],trivial,?_⟩;rw[hblk];simp[Sit.push,AI]
   ·cases h
  ·cases h
 ·cases h
theorem bCh(ho:Ok base S0 σ)(hr:RelT σ s a)(hx:BG a ctx){y:Operand}{i:Nat}(hop:o.op=.extract y i)(h:Ay C s ctx o=some (.ok true x mem')):BV C base S0 id σ a o x mem':=by
 unfold Ay at h;rw[hop]at h;simp only at h;split at h
 ·rename_i l e;split at h
  ·rename_i v ev;simp only[ae,Res.ok.injEq,true_and]at h;obtain⟨rfl,rfl⟩:=h;obtain⟨_,ys,hy,ha⟩:=Yv hr hx e;obtain⟨u,hu,hR⟩:=ha.get ev;refine Bh (σ':=σ) (v:=u) ?_ ho (Goes.refl σ).moves hr.mem hR;simp only[execOp,hop,hy];refine BU ?_;simp[Instr.extract,hu]
  ·cases h
 ·rename_i c j r e;have hR:=Yv hr hx e;split at h
  ·simp only[ae,Res.ok.injEq,true_and]at h;obtain⟨rfl,rfl⟩:=h;refine Bh (σ':=σ) (v:=.bool c) ?_ ho (Goes.refl σ).moves hr.mem ⟨rfl,trivial⟩;simp only[execOp,hop];refine BU ?_;cases c with
   |true=>rw[hR.1];rfl
   |false=>rw[show _=_ from hR];rfl
  ·simp only[ae,Res.ok.injEq]at h;obtain⟨rfl,rfl,rfl⟩:=h;refine Bh (σ':=σ) (v:=.int .i64 j) ?_ ho (Goes.refl σ).moves hr.mem ⟨rfl,hR.2.1⟩;simp only[execOp,hop];refine BU ?_;rw[hR.1];rfl
  ·simp only[ae,Res.ok.injEq]at h;obtain⟨rfl,rfl,rfl⟩:=h;refine Bh (σ':=σ) (v:=.int .i32 r) ?_ ho (Goes.refl σ).moves hr.mem ⟨rfl,hR.2.2⟩;simp only[execOp,hop];refine BU ?_;rw[hR.1];rfl
  ·cases h
 ·cases h
theorem bCm(ho:Ok base S0 σ)(hr:RelT σ s a)(hx:BG a ctx){T:TypeId}{y z:Operand}(hop:o.op=.index T y z)(h:Ay C s ctx o=some (.ok true x mem')):BV C base S0 id σ a o x mem':=by
 unfold Ay at h;rw[hop]at h;simp only at h;split at h
 ·rename_i str i hT ec ei;obtain⟨k,hi,_⟩:=U3 hr hx ei;obtain⟨hy,_⟩:=BO hr hx ec;simp only[ae,Res.ok.injEq,ah,decide_eq_true_eq]at h;obtain⟨⟨g1,g2⟩,rfl,rfl⟩:=h;have hlt:i.toNat<str.size:=by omega
  have hb:str.data.toList.getD i.toNat 0=str[i.toNat]:=by
   rw[al,bq (by simpa using hlt)];rfl
  refine Bh (σ':=σ) (v:=.int .u8 ((str.data.toList.getD i.toNat 0).toNat:Int)) ?_ ho (Goes.refl σ).moves hr.mem ⟨rfl,?_⟩
  ·simp only[execOp,hop,hy,hi];refine BU ?_;unfold Instr.index;simp only[ci,asIntOf,di,bm,Cw hT];rw[if_pos g1,getElem?_pos str i.toNat hlt];rw[hb];rfl
  ·generalize str.data.toList.getD i.toNat 0=u;have:=u.toNat_lt;simp only[JD,mp,lv,jh,iw];simp;omega
 ·cases h
theorem bCi(ho:Ok base S0 σ)(hr:RelT σ s a)(hx:BG a ctx){T:TypeId}{y:Operand}{i:Nat}(hop:o.op=.field T y i)(h:Ay C s ctx o=some (.ok true x mem')):BV C base S0 id σ a o x mem':=by
 unfold Ay at h;rw[hop]at h;simp only at h;split at h
 ·rename_i cs d ft ec ef;obtain⟨ys,hy,ha⟩:=HF hr hx ec;have hfd:∃fs f,C.P.underlying T=some (.struct fs)/\fs[i]? = some f/\f.offset=d/\f.type=ft:=by
   unfold jH at ef;split at ef
   ·rename_i fs e;split at ef
    ·rename_i f eff;cases hb:Nat.beq (C.P.cellsOf f.type) 0 with
     |true=>rw[hb]at ef;cases ef
     |false=>rw[hb]at ef;cases ef;exact⟨fs,f,e,by simpa using eff,rfl,rfl⟩
    ·cases ef
   ·cases ef
  obtain⟨fs,f,hu,hf,rfl,rfl⟩:=hfd;have hex:∀{v:Value},(part f.type ys.toArray f.offset).run C.P σ.w=.ok v σ.w->(execOp a.eval o).run C.P σ.w=.ok (.value v) σ.w:=fun hv=>by
   simp only[execOp,hop,hy];refine BU ?_;unfold Instr.field;simp[Cw hu,hf,asAgg,hv]
  split at h
  ·rename_i hT;split at h
   ·rename_i l et;simp only[ae,Res.ok.injEq,true_and]at h;obtain⟨rfl,rfl⟩:=h;obtain⟨v,h1,h2⟩:=aE0 ha hT et σ.w;exact Bh (σ':=σ) (v:=v) (hex h1) ho (Goes.refl σ).moves hr.mem h2
   ·cases h
  ·rename_i hT;split at h
   ·rename_i c l et;simp only[ae,Res.ok.injEq,true_and]at h;obtain⟨rfl,rfl⟩:=h;obtain⟨v,h1,h2⟩:=aE1 ha hT et σ.w;exact Bh (σ':=σ) (v:=v) (hex h1) ho (Goes.refl σ).moves hr.mem h2
   ·cases h
  ·cases h
 ·cases h
end Vx
namespace Vx
open Go Go.RowKit
variable {C:Cfg}{base:Base}{S0:Nat->Prop}{σ:Sit}{s:St}{a:Act}{ctx:List (Nat×Bool)}{o:Oper}{x:TV}{mem':Ai}
theorem aTq{c:Nat}(h:Utf8.valid (c:Int)=true):c<=1114111:=by
 unfold Utf8.valid at h;simp only[dv,ah,decide_eq_true_eq]at h;omega
theorem aZq(str:ByteArray)(i:Nat):(Utf8.decode str i).1<=1114111:=by
 unfold Utf8.decode;dsimp only;split
 ·simp only;omega
 ·split
  ·split
   ·simp only;omega
   ·simp[Utf8.runeError]
  ·split
   ·split
    ·rename_i h;simp only[ah]at h;exact aTq h.2
    ·simp[Utf8.runeError]
   ·split
    ·split
     ·rename_i h;simp only[ah]at h;exact aTq h.2
     ·simp[Utf8.runeError]
    ·simp[Utf8.runeError]
def Sit.iterAt(σ:Sit)(b r:Nat)(str:ByteArray)(p:Nat):Sit:={E:=σ.E,mem:=σ.mem.set b (.itr str p),w:=C3 σ.w r (.stringIter str p),S:=σ.S}
theorem bBc(ho:Ok base S0 σ){b r p q:Nat}{str:ByteArray}(e:Ac σ.mem b=.itr str p)(hb:σ.owned b r):
  Ok base S0 (σ.iterAt b r str q)/\Goes σ (σ.iterAt b r str q):=by
 have hlt:b<σ.mem.length:=DI (by rw[e];simp);have hrs:=ho.own b r hb;have hset:∀b',Ac (σ.iterAt b r str q).mem b'=if b'=b then .itr str q else Ac σ.mem b':=fun b'=>Cf hlt;have hg:Goes σ (σ.iterAt b r str q):=by
  refine⟨fun _ h=>h,fun r' hr'=>O2 (fun e=>hrs.2.2 (e▸hr')),by simp[Sit.iterAt],fun b' hb'=>?_⟩;by_cases hbb:b'=b
  ·subst hbb;unfold BP;rw[e];exact .inl ⟨rfl,str,q,by rw[hset,if_pos rfl]⟩
  ·exact BP.refl (by rw[hset,if_neg hbb]) rfl rfl
 have hold:∀b' r',(σ.iterAt b r str q).owned b' r'->σ.owned b' r':=fun b' r' h=>by
  obtain⟨h1,h2⟩:=h;rw[hset]at h1;split at h1
  ·rename_i hbb;subst hbb;exact⟨hb.1,h2⟩
  ·exact⟨h1,h2⟩
 refine⟨⟨ho.below.step rfl rfl rfl (by simp[Sit.iterAt,C3]) (fun k _ hn=>O2 (fun e=>hn (e▸hrs.1))),ho.stab0,fun r' h=>?_,fun b'=>?_,fun b' r' h=>?_,fun b1 b2 r' h1 h2=>ho.inj b1 b2 r' (hold _ _ h1) (hold _ _ h2)⟩,hg⟩
 ·have:=ho.stab r' h;exact⟨by simp only[Sit.iterAt,lO];exact this.1,this.2⟩
 ·by_cases hbb:b'=b
  ·subst hbb;have he:=ho.ent b';unfold AE at he⊢;rw[e]at he;rw[hset,if_pos rfl];exact⟨he.1,r,hb.2,Wx hrs.2.1⟩
  ·refine AE.keep hg (by rw[hset,if_neg hbb]) rfl rfl (fun r' hr'=>O2 (fun e=>hbb (ho.inj b' b r (e▸hr') hb))) (ho.ent b')
 ·have:=ho.own b' r' (hold _ _ h);exact⟨this.1,by simp only[Sit.iterAt,lO];exact this.2.1,this.2.2⟩
theorem bCA(ho:Ok base S0 σ)(hr:RelT σ s a)(hx:BG a ctx){T:TypeId}{y:Operand}(hop:o.op=.range T y)(h:Ay C s ctx o=some (.ok true x mem')):BV C base S0 id σ a o x mem':=by
 unfold Ay at h;rw[hop]at h;simp only at h;split at h
 ·rename_i str hT ec;simp only[ae,Res.ok.injEq,true_and]at h;obtain⟨rfl,rfl⟩:=h;obtain⟨hy,hw⟩:=BO hr hx ec;have hg:=Z8 ho (.itr str 0) (.stringIter str 0) 0;have hblk:Ac (σ.push (.itr str 0) (.stringIter str 0) 0).mem σ.mem.length=.itr str 0:=Jd;have hheap:(σ.push (.itr str 0) (.stringIter str 0) 0).w.heap[σ.w.heap.size]? = some (.stringIter str 0):=U1;refine Bh (σ':=σ.push (.itr str 0) (.stringIter str 0) 0) (v:=.pointer (some ⟨σ.w.heap.size,0,none⟩)) ?_ (lB ho _ _ _ ?_) hg.moves (by simp[Sit.push,hr.mem]) ?_
  ·simp only[execOp,hop,hy];refine BU ?_;unfold Instr.range;simp only[ci,Cw hT,bm,di];simp[newObj,Sem.run,Sit.push]
  ·unfold AE;rw[hblk];exact⟨hw,σ.w.heap.size,by simp[Sit.push,AI],hheap⟩
  ·rw[←hr.mem];refine⟨by simp[Sit.push],⟨_,rfl⟩,?_⟩;rw[hblk];exact⟨σ.w.heap.size,by simp[Sit.push,AI],rfl⟩
 ·cases h
theorem bCx(ho:Ok base S0 σ)(hr:RelT σ s a)(hx:BG a ctx){y:Operand}{st:Bool}(hop:o.op=.next y st)(h:Ay C s ctx o=some (.ok true x mem')):BV C base S0 id σ a o x mem':=by
 unfold Ay at h;rw[hop]at h;simp only at h;split at h
 ·rename_i b ec;split at h
  ·rename_i str pos eb;simp only[ae,Res.ok.injEq,true_and]at h;obtain⟨rfl,rfl⟩:=h;obtain⟨_,_,hm⟩:=BO hr hx ec;rw[←hr.mem]at eb⊢;rw[eb]at hm;obtain⟨r,hβ,hy⟩:=hm;have he:=ho.ent b;unfold AE at he;rw[eb]at he;obtain⟨hsz,r',hβ',hheap⟩:=he;rw[hβ]at hβ';cases hβ';have hown:σ.owned b r:=⟨by rw[eb];trivial,hβ⟩
   cases hp:Nat.blt pos str.size with
   |true=>
    have hlt:pos<str.size:=by simpa using hp
    obtain⟨k1,k2⟩:=bBc ho (q:=pos+(Utf8.decode str pos).2) eb hown;refine Bh (σ':=σ.iterAt b r str (pos+(Utf8.decode str pos).2)) (v:=.tuple #[.bool true,.int .i64 pos,.int .i32 (Utf8.decode str pos).1]) ?_ k1 k2.moves (by simp[Sit.iterAt]) ?_
    ·simp only[execOp,hop,hy];refine BU ?_;simp only[Instr.next,getObj,setObj,ci,Sem.run,hheap,oi];rw[if_pos hlt];simp only[ci,setObj,Sem.run,hheap,oi,di];rfl
    ·have h1:=aZq str pos;refine⟨rfl,?_,?_⟩
     ·unfold B0 at hsz;simp only[JD,mp,lv,jh,iw];simp;omega
     ·simp only[JD,mp,lv,jh,iw];simp;omega
   |false=>
    have hlt:¬pos<str.size:=fun h=>by rw[show Nat.blt pos str.size=true by simpa using h]at hp;cases hp
    have hmem:σ.mem.set b (.itr str pos)=σ.mem:=lM eb (by simp);refine Bh (σ':=σ) (v:=.tuple #[.bool false]) ?_ ho (Goes.refl σ).moves (by show σ.mem=σ.mem.set b (.itr str pos);exact hmem.symm) rfl;simp only[execOp,hop,hy];refine BU ?_;simp only[Instr.next,getObj,setObj,ci,Sem.run,hheap,oi];rw[if_neg hlt];rfl
  ·cases h
 ·cases h
end Vx
namespace Vx
open Go Go.RowKit
variable {C:Cfg}{base:Base}{S0:Nat->Prop}{σ:Sit}{s:St}{a:Act}{ctx:List (Nat×Bool)}{o:Oper}{x:TV}{mem':Ai}
theorem Jy{P:Program}{c:Call}{b:Builtin}(hop:o.op=.call c)(hc:c.callee=.builtin b)(w:World):
  ∃cs:Array Bool,(execOp a.eval o).run P w=(builtin b c.argTypes o.type cs (c.args.map a.eval)).run P w:=by
 simp only[execOp,hop,resolve,hc];simp only[ci,di,bm,invoke];exact⟨_,rfl⟩
theorem Ja{c:Call}{l:List Operand}(h:c.args.toList=l):c.args.map a.eval=(l.map a.eval).toArray:=by
 apply gk.1;simp[h]
theorem aN{c:Call}{l:List TypeId}(h:c.argTypes.toList=l):c.argTypes=l.toArray:=by
 apply gk.1;simp[h]
theorem U4{n:Nat}(h:n<B0):JD (.int .i64 (n:Int)):=by
 simp only[JD,mp,lv,jh,iw];unfold B0 at h;simp;omega
theorem bCp(ho:Ok base S0 σ)(hr:RelT σ s a)(hx:BG a ctx){c:Call}(hop:o.op=.call c)(hc:c.callee=.builtin .len)(h:Ay C s ctx o=some (.ok true x mem')):BV C base S0 id σ a o x mem':=by
 unfold Ay at h;rw[hop]at h;simp only[hc]at h;have hex:∀{y:Operand} {T:TypeId} {v:Value},c.args.toList=[y]->c.argTypes.toList=[T]->(mv #[T] o.type #[a.eval y]).run C.P σ.w=.ok v σ.w->(execOp a.eval o).run C.P σ.w=.ok (.value v) σ.w:=
  fun h1 h2 hv=>by
   obtain⟨cs,hcs⟩:=Jy (a:=a) (P:=C.P) hop hc σ.w;rw[hcs,Ja h1,aN h2];simp only[builtin];exact BU hv
 split at h
 ·rename_i y T e1 e2;split at h
  ·rename_i n e hT;cases hb:Nat.blt n 9223372036854775808 with
   |false=>rw[hb]at h;cases h
   |true=>
    rw[hb]at h;simp only[cond_true,ae,Res.ok.injEq,true_and]at h;obtain⟨rfl,rfl⟩:=h;refine Bh (σ':=σ) (v:=.int .i64 (n:Int)) (hex e1 e2 ?_) ho (Goes.refl σ).moves hr.mem ⟨rfl,U4 (by simpa[B0]using hb)⟩;unfold mv;simp[Cw hT,goInt]
  ·rename_i e hT;split at h
   ·rename_i q eq;split at h
    ·cases h
    ·rename_i b lo n;split at h
     ·rename_i τ' xs eb;simp only[ae,Res.ok.injEq,true_and]at h;obtain⟨rfl,rfl⟩:=h;have hq:=BO hr hx eq;rw[←hr.mem]at eb;obtain⟨_,_,hm⟩:=hq;rw[eb]at hm;obtain⟨q1,A,cc,hy,q2,q3,q4⟩:=hm;refine Bh (σ':=σ) (v:=.int .i64 (n:Int)) (hex e1 e2 ?_) ho (Goes.refl σ).moves hr.mem ⟨rfl,U4 (by omega)⟩;rw[hy];unfold mv;simp[Cw hT,goInt]
     ·cases h
    ·rename_i hns hns2;split at h
     ·rename_i n en;simp only[ae,Res.ok.injEq,true_and]at h;obtain⟨rfl,rfl⟩:=h;have hq:=BO hr hx eq;rw[←hr.mem]at en;obtain⟨A,k,hy⟩:=bBk hq (fun str e=>hns str e) en;refine Bh (σ':=σ) (v:=.int .i64 (n:Int)) (hex e1 e2 ?_) ho (Goes.refl σ).moves hr.mem ⟨rfl,U4 (bBj ho hq en)⟩;rw[hy];unfold mv;simp[Cw hT,goInt]
     ·cases h
   ·cases h
  ·rename_i hT;split at h
   ·rename_i str es;simp only[ae,Res.ok.injEq,true_and]at h;obtain⟨rfl,rfl⟩:=h;obtain⟨hy,hl⟩:=BO hr hx es;refine Bh (σ':=σ) (v:=.int .i64 (str.size:Int)) (hex e1 e2 ?_) ho (Goes.refl σ).moves hr.mem ⟨rfl,U4 hl⟩;rw[hy];unfold mv;simp[Cw hT,goInt]
   ·cases h
  ·cases h
 ·cases h
theorem bCw(ho:Ok base S0 σ)(hr:RelT σ s a)(hx:BG a ctx){c:Call}(hop:o.op=.call c)(hc:c.callee=.builtin .min)(h:Ay C s ctx o=some (.ok true x mem')):BV C base S0 id σ a o x mem':=by
 unfold Ay at h;rw[hop]at h;simp only[hc]at h;split at h
 ·rename_i y z e1;split at h
  ·rename_i k p k' q ep eq;split at h
   ·rename_i hk;subst hk;simp only[ae,Res.ok.injEq,true_and]at h;obtain⟨rfl,rfl⟩:=h;obtain⟨hp,wp⟩:=BO hr hx ep;obtain⟨hq,wq⟩:=BO hr hx eq;refine Bh (σ':=σ) (v:=.int k' (if q<p then q else p)) ?_ ho (Goes.refl σ).moves hr.mem ⟨rfl,?_⟩
    ·obtain⟨cs,hcs⟩:=Jy (a:=a) (P:=C.P) hop hc σ.w;rw[hcs,Ja e1];simp only[builtin];refine BU ?_;simp only[Builtin.min_,gb,jq,hp,hq];simp[Builtin.min2]
    ·split
     ·exact wq
     ·exact wp
   ·cases h
  ·cases h
 ·cases h
theorem bCv(ho:Ok base S0 σ)(hr:RelT σ s a)(hx:BG a ctx){c:Call}(hop:o.op=.call c)(hc:c.callee=.builtin .max)(h:Ay C s ctx o=some (.ok true x mem')):BV C base S0 id σ a o x mem':=by
 unfold Ay at h;rw[hop]at h;simp only[hc]at h;split at h
 ·rename_i y z e1;split at h
  ·rename_i k p k' q ep eq;split at h
   ·rename_i hk;subst hk;simp only[ae,Res.ok.injEq,true_and]at h;obtain⟨rfl,rfl⟩:=h;obtain⟨hp,wp⟩:=BO hr hx ep;obtain⟨hq,wq⟩:=BO hr hx eq;refine Bh (σ':=σ) (v:=.int k' (if q>p then q else p)) ?_ ho (Goes.refl σ).moves hr.mem ⟨rfl,?_⟩
    ·obtain⟨cs,hcs⟩:=Jy (a:=a) (P:=C.P) hop hc σ.w;rw[hcs,Ja e1];simp only[builtin];refine BU ?_;simp only[Builtin.max_,gb,jq,hp,hq];simp[Builtin.max2]
    ·split
     ·exact wq
     ·exact wp
   ·cases h
  ·cases h
 ·cases h
theorem bCe(ho:Ok base S0 σ)(hr:RelT σ s a)(hx:BG a ctx){c:Call}(hop:o.op=.call c)(hc:c.callee=.builtin .complex)(h:Ay C s ctx o=some (.ok true x mem')):BV C base S0 id σ a o x mem':=by
 unfold Ay at h;rw[hop]at h;simp only[hc]at h;split at h
 ·rename_i y z e1;split at h
  ·rename_i k p k' q ep eq;split at h
   ·rename_i hk;subst hk;simp only [ae,Res.ok.injEq,true_and] at h;obtain ⟨rfl,rfl⟩:=h;obtain ⟨b1,hp,wp⟩:=BO hr hx ep;obtain ⟨b2,hq,wq⟩:=BO hr hx eq;refine Bh (σ':=σ) (v:=.complex k' b1 b2) ?_ ho (Goes.refl σ).moves hr.mem ⟨b1,b2,rfl,⟨b1,rfl,wp⟩,⟨b2,rfl,wq⟩⟩;obtain ⟨cs,hcs⟩:=Jy (a:=a) (P:=C.P) hop hc σ.w;rw [hcs,Ja e1];simp only [builtin];refine BU ?_;simp only [gb,jq,hp,hq];show ((if k' = k' then pure (.complex k' b1 b2) else stuck "complex: parts of different kinds" : Sem Value)).run C.P σ.w = _;rw [if_pos rfl]; rfl
   ·cases h
  ·cases h
 ·cases h
theorem bCB(ho:Ok base S0 σ)(hr:RelT σ s a)(hx:BG a ctx){c:Call}(hop:o.op=.call c)(hc:c.callee=.builtin .real)(h:Ay C s ctx o=some (.ok true x mem')):BV C base S0 id σ a o x mem':=by
 unfold Ay at h;rw[hop]at h;simp only[hc]at h;split at h
 ·rename_i y e1;split at h
  ·rename_i k p q ep;simp only[ae,Res.ok.injEq,true_and]at h;obtain⟨rfl,rfl⟩:=h;obtain⟨b1,b2,hp,wp,wq⟩:=BO hr hx ep;refine Bh (σ':=σ) (v:=.float k b1) ?_ ho (Goes.refl σ).moves hr.mem wp;obtain⟨cs,hcs⟩:=Jy (a:=a) (P:=C.P) hop hc σ.w;rw[hcs,Ja e1];simp only[builtin];refine BU ?_;simp only[gb,jq,hp];rfl
  ·cases h
 ·cases h
theorem bCl(ho:Ok base S0 σ)(hr:RelT σ s a)(hx:BG a ctx){c:Call}(hop:o.op=.call c)(hc:c.callee=.builtin .imag)(h:Ay C s ctx o=some (.ok true x mem')):BV C base S0 id σ a o x mem':=by
 unfold Ay at h;rw[hop]at h;simp only[hc]at h;split at h
 ·rename_i y e1;split at h
  ·rename_i k p q ep;simp only[ae,Res.ok.injEq,true_and]at h;obtain⟨rfl,rfl⟩:=h;obtain⟨b1,b2,hp,wp,wq⟩:=BO hr hx ep;refine Bh (σ':=σ) (v:=.float k b2) ?_ ho (Goes.refl σ).moves hr.mem wq;obtain⟨cs,hcs⟩:=Jy (a:=a) (P:=C.P) hop hc σ.w;rw[hcs,Ja e1];simp only[builtin];refine BU ?_;simp only[gb,jq,hp];rfl
  ·cases h
 ·cases h
theorem aQZ:∀{l:List SV} {ys:List Value} {cl:List (Nat×Nat)},All2 (BH σ) l ys->Eg σ.mem l=some cl ->
  (∀p∈cl,p.1<σ.mem.length)/\∃rs:List Nat,cl.map (fun p=>σ.E.β p.1)=rs.map some/\ys=(cl.zip rs).map fun q=>jf (some ⟨q.2,q.1.2,none⟩)
 | [],_,cl,.nil,h=>by simp[Eg]at h;subst h;exact⟨by simp,[],rfl,rfl⟩
 |.one (.ptr b off)::r,_,cl,.cons hc ht,h=>by
  simp only[Eg]at h
  split at h
  ·rename_i cs l e1 e2
   cases h
   obtain⟨g1,rs,g2,g3⟩:=aQZ ht e2
   obtain⟨q,hq,hy⟩:=AB.ptr_raw hc e1
   refine⟨?_,q::rs,?_,?_⟩
   ·intro p hp
    rcases dc.1 hp with rfl|hp
    ·exact hc.1
    ·exact g1 p hp
   ·simp[hq,g2]
   ·simp[hy,g3]
  ·cases h
 |.one .undef::_,_,_,_,h=>by simp[Eg]at h
 |.one (.v _)::_,_,_,_,h=>by simp[Eg]at h
 |.one (.fl _ _)::_,_,_,_,h=>by simp[Eg]at h
 |.one (.sl _ _)::_,_,_,_,h=>by simp[Eg]at h
 |.one (.own _)::_,_,_,_,h=>by simp[Eg]at h
 |.one (.eptr _ _ _)::_,_,_,_,h=>by simp[Eg]at h
 |.one (.iptr _ _ _)::_,_,_,_,h=>by simp[Eg]at h
 |.one (.sub _ _ _)::_,_,_,_,h=>by simp[Eg]at h
 |.one (.gptr _)::_,_,_,_,h=>by simp[Eg]at h
 |.one (.fnv _)::_,_,_,_,h=>by simp[Eg]at h
 |.one (.ifv _)::_,_,_,_,h=>by simp[Eg]at h
 |.one (.cx _ _ _)::_,_,_,_,h=>by simp[Eg]at h
 |.one (.fn _ _)::_,_,_,_,h=>by simp[Eg]at h
 |.agg _::_,_,_,_,h=>by simp[Eg]at h
theorem bCs(ho:Ok base S0 σ)(hr:RelT σ s a)(hx:BG a ctx){fn:Fn}{first captured:Array Operand}(hop:o.op=.makeFunc fn first captured)(h:Ay C s ctx o=some (.ok true x mem')):BV C base S0 id σ a o x mem':=by
 unfold Ay at h;rw[hop]at h;simp only at h;split at h
 ·rename_i f hf;split at h
  ·rename_i vs ev;split at h
   ·rename_i cl ecl;simp only[ae,Res.ok.injEq,true_and]at h;obtain⟨rfl,rfl⟩:=h;rw[←hr.mem]at ecl;obtain⟨g1,rs,g2,g3⟩:=aQZ (Wn hr hx ev) ecl;have e1:first.map a.eval=#[]:=by apply gk.1;simp[hf]
    have e2:captured.map a.eval=((cl.zip rs).map fun q=>jf (some ⟨q.2,q.1.2,none⟩)).toArray:=by
     apply gk.1;simpa using g3
    refine Bh (σ':=σ) (v:=.func (.func f) #[] ((cl.zip rs).map fun q=>jf (some ⟨q.2,q.1.2,none⟩)).toArray) ?_ ho (Goes.refl σ).moves hr.mem ⟨g1,trivial,.inr ⟨rs,g2,rfl⟩⟩;simp only[execOp,hop,e1,e2];exact BU rfl
   ·cases h
  ·cases h
 ·cases h
end Vx
namespace Vx
open Go Go.RowKit
variable {C:Cfg}{base:Base}{S0:Nat->Prop}{σ:Sit}{s:St}{a:Act}{ctx:List (Nat×Bool)}{o:Oper}{x:TV}{mem':Ai}
theorem aFm:∀(L:List Value) (vs:Array Value) (p q:Nat),p+L.length<=vs.size->(CG vs p L)[q]? = if p<=q/\q<p+L.length then L[q-p]? else vs[q]?:=by
 intro L vs p q h;rw[←Array.getElem?_toList,Z9 L vs p h,fg];split
 ·rename_i hq;rw[cj (by simp;omega)];have:(kv p vs.toList).length=p:=by simp;omega
  rw[this,co (by omega)]
 ·rename_i hq;rcases ay q p with hlt|hge
  ·rw[co (by simp;omega),ct hlt];simp
  ·rw[cj (by simp;omega)];have:(kv p vs.toList).length=p:=by simp;omega
   rw[this,cj (by omega),du];rw[show p+L.length+(q-p-L.length)=q by omega];simp
def Xg(w:World)(S:Nat->Prop)(e:Shape)(L:List Value)(xs:List (Ab e)):Prop:=∀i x,xs[i]? = some x->∃ds,Bf w S e x ds/\∀j d,ds[j]? = some d->L[i*e.width+j]? = some d
theorem LV{i k w j:Nat}(h:i<k)(hj:j<w):i*w+j<k*w:=by
 have:=aw w (show i+1<=k by omega);rw[kh]at this;omega
theorem aN0{P:Program}{w:World}{S:Nat->Prop}{e:Shape}{ys:List (Ab e)}{A:Option Addr}{m c:Nat}(hne:ys≠[]->∃r q vs T fz,A=some ⟨r,q,none⟩/\w.heap[r]? = some (.cells vs T fz)/\Rows w S e vs q ys){n:Nat}(hn:n<=ys.length):
  ∃L:List Value,(jb e.width n (.slice A m c)).run P w=.ok L.toArray w/\L.length=n*e.width/\Xg w S e L (ys.take n)/\(∀v∈L,scalar v):=by
 rcases br n with h0|hpos
 ·subst h0;refine⟨[],?_,by simp,fun i x hi=>by simp at hi,by simp⟩;cases A with
  |none=>simp[jb]
  |some ad=>simp[jb,loadCells,loadCellsFrom]
 ·have hys:ys≠[]:=by intro e;subst e;simp at hn;omega
  obtain⟨r,q,vs,T,fz,rfl,hh,hrow⟩:=hne hys;have hsz:q+n*e.width<=vs.size∨e.width=0:=by
   rcases br e.width with hw|hw
   ·exact .inr hw
   ·left;obtain⟨ds,d1,d2⟩:=hrow (n-1) (ys.getD (n-1) e.dflt) (getD_some (by omega));have hdl:=d1.len;obtain⟨v,hv⟩:∃v,ds[e.width-1]? = some v:=⟨ds[e.width-1]'(by omega),bq (by omega)⟩
    have:=(Array.getElem?_eq_some_iff.1 (d2 _ _ hv)).1;have h1:(n-1)*e.width+e.width=n*e.width:=by
     rw[←kh];congr 1;omega
    omega
  have hfirst:(ys.take n).length=n:=by simp;omega
  rcases hsz with hsz|hw0
  ·refine⟨(vs.toList.drop q).take (n*e.width),by simp[jb,bH3 hh hsz],by simp;omega,fun i x hi=>?_,?_⟩
   ·have hin:=(bj.1 hi).1;rw[hfirst]at hin;rw[ct hin]at hi;obtain⟨ds,d1,d2⟩:=hrow i x hi;refine⟨ds,d1,fun j d hj=>?_⟩;have hjl:=(bj.1 hj).1;rw[d1.len]at hjl;rw[ct (LV hin hjl),du];have:=d2 j d hj;rw[←Nat.add_assoc];simpa using this
   ·intro v hv;obtain⟨k,hk⟩:=List.mem_iff_getElem?.1 hv;have hkl:=(bj.1 hk).1;have hkn:k<n*e.width:=by simp at hkl;omega
    rw[ct hkn,du]at hk;have hw:0<e.width:=by
     rcases br e.width with h|h
     ·rw[h]at hkn;simp at hkn
     ·exact h
    have hi:k/e.width<ys.length:=ao ((Nat.div_lt_iff_lt_mul hw).2 hkn) hn;obtain⟨ds,d1,d2⟩:=hrow (k/e.width) _ (getD_some (d:=e.dflt) hi);have hdl:=d1.len;have hjl:k%e.width<ds.length:=by rw[hdl];exact ca _ hw
    have h2:=d2 (k%e.width) _ (bq hjl);have h3:q+k/e.width*e.width+k%e.width=q+k:=by
     have:=Nat.div_add_mod k e.width;rw[Nat.mul_comm]at this;omega
    rw[h3]at h2;have h4:vs.toList[q+k]? = some ds[k%e.width]:=by simpa using h2
    rw[hk]at h4;cases h4;exact d1.scalar _ (jn _)
  ·refine⟨[],by rw[hw0];simp[jb,loadCells,loadCellsFrom],by rw[hw0];simp,fun i x hi=>?_,by simp⟩;have hin:=(bj.1 hi).1;rw[hfirst]at hin;rw[ct hin]at hi;obtain⟨ds,d1,d2⟩:=hrow i x hi;refine⟨ds,d1,fun j d hj=>?_⟩;have hjl:=(bj.1 hj).1;rw[d1.len,hw0]at hjl;omega
theorem jJ{P:Program}{e:Shape}{ys:List (Ab e)}{y:Value}(hd:Bf σ.w σ.S (.slice e) ys [y]){n:Nat}(hn:n<=ys.length):
  ∃L:List Value,(jb e.width n y).run P σ.w=.ok L.toArray σ.w/\L.length=n*e.width/\Xg σ.w σ.S e L (ys.take n)/\(∀v∈L,scalar v):=by
 obtain⟨A,c,hy,hc,hl,hne⟩:=hd;cases hy;exact aN0 (fun h=>by obtain⟨r,q,vs,T,fz,h1,_,h2,h3⟩:=hne h;exact⟨r,q,vs,T,fz,h1,h2,h3⟩) hn
theorem aFA{w:World}{S:Nat->Prop}{e:Shape}{vs:Array Value}{xs ys:List (Ab e)}{L:List Value}{k:Nat}(hx:Rows w S e vs 0 xs)(hy:Xg w S e L ys)(hl:L.length=ys.length*e.width)(hk:k<=xs.length)
  (hfit:k*e.width+L.length<=vs.size):Rows w S e (CG vs (k*e.width) L) 0 (xs.take k++ys++xs.drop (k+ys.length)):=by
 intro i x hi;rw[fg]at hi;have hkl:(xs.take k).length=k:=by simp;omega
 rcases ay i k with h1|h1
 ·rw[co (by omega),ct h1]at hi;obtain⟨ds,d1,d2⟩:=hx i x hi;refine⟨ds,d1,fun j d hj=>?_⟩;have hjl:=(bj.1 hj).1;rw[d1.len]at hjl;have:=LV h1 hjl;rw[aFm _ _ _ _ hfit,if_neg (by omega)];exact d2 j d hj
 ·rw[cj (by omega),hkl]at hi;rcases ay (i-k) ys.length with h2|h2
  ·rw[co h2]at hi;obtain⟨ds,d1,d2⟩:=hy (i-k) x hi;refine⟨ds,d1,fun j d hj=>?_⟩;have hjl:=(bj.1 hj).1;rw[d1.len]at hjl;have h3:=LV h2 hjl;have h4:(i-k)*e.width+k*e.width=i*e.width:=by rw[←ce];congr 1;omega
   rw[aFm _ _ _ _ hfit,if_pos (by omega)];rw[show 0+i*e.width+j-k*e.width=(i-k)*e.width+j by omega];exact d2 j d hj
  ·rw[cj h2,du]at hi;rw[show k+ys.length+(i-k-ys.length)=i by omega]at hi;obtain⟨ds,d1,d2⟩:=hx i x hi;refine⟨ds,d1,fun j d hj=>?_⟩;have h3:=aw e.width (show k+ys.length<=i by omega);rw[ce]at h3;rw[aFm _ _ _ _ hfit,if_neg (by omega)];exact d2 j d hj
theorem Xg.mono{w w':World}{S S':Nat->Prop}(hS:∀r,S r->S' r)(hH:∀r,S r->w'.heap[r]? = w.heap[r]?){e:Shape}{L:List Value}{xs:List (Ab e)}
  (h:Xg w S e L xs):Xg w' S' e L xs:=fun i x hi=>by
 obtain⟨ds,h1,h2⟩:=h i x hi
 exact⟨ds,h1.mono hS hH,h2⟩
theorem WB{P:Program}{e:Shape}{ys:List (Ab e)}{y:Value}(hd:Bf σ.w σ.S (.slice e) ys [y])(w:World):(Builtin.lenOf y).run P w=.ok ys.length w:=by
 obtain⟨A,c,hy,_⟩:=hd;cases hy;rfl
theorem bCg(ho:Ok base S0 σ)(hr:RelT σ s a)(hx:BG a ctx){c:Call}(hop:o.op=.call c)(hc:c.callee=.builtin .copy)(h:Ay C s ctx o=some (.ok true x mem')):BV C base S0 id σ a o x mem':=by
 unfold Ay at h;rw[hop]at h;simp only[hc]at h;split at h
 ·rename_i y z T Ts e1 e2;split at h
  ·rename_i e b yc hT eb ey;split at h
   ·rename_i τ eτ;cases hf:Dm s.mem yc with
    |mk yc' m1=>
     rw[hf]at h;simp only at h;rw[←hr.mem]at hf;obtain⟨σ1,a1,a2,a3,a4,a5,a6⟩:=UW ho hf;split at h
     ·rename_i ys τ' xs0 eys exs;split at h
      ·rename_i xs ecast;obtain⟨hττ,hxs⟩:=Jf ecast;subst hττ;simp only at hxs;subst hxs;simp only[ae,Res.ok.injEq,true_and]at h;obtain⟨rfl,rfl⟩:=h;have hd:=i1 (a6 _ (BO hr hx ey)) (jN hf) (by rw[a1];exact eys);have hb:=a5.repC (BO hr hx eb);rw[←a1]at exs;obtain⟨hlt,_,hm⟩:=hb;rw[exs]at hm;simp only at hm;cases hβ:σ1.E.β b with
       |none=>
        have hnil:xs=[]/\σ1.E.κ b=0:=by
         have he:=a4.ent b;unfold AE at he;rw[exs]at he;obtain⟨q1,q2,q3⟩:=he;rcases q3 with⟨_,q4⟩|⟨r,_,_,q4,_⟩
         ·exact⟨cr (by omega),q4⟩
         ·rw[hβ]at q4;cases q4
        obtain⟨rfl,hκ⟩:=hnil;rw[hβ,hκ]at hm;have hset:m1.set b (.arr τ' (ys.take ([]:List (Ab τ')).length++([]:List (Ab τ')).drop ys.length))=m1:=by
         have e0:(ys.take ([]:List (Ab τ')).length++([]:List (Ab τ')).drop ys.length)=[]:=by simp
         rw[e0,←a1];exact lM exs (by simp)
        rw[hset];obtain⟨L,f1,f2,f3,f4⟩:=jJ (P:=C.P) hd (n:=0) (dp _);refine Bh (σ':=σ1) (v:=.int .i64 ((min ys.length 0:Nat):Int)) ?_ a4 a5.moves a1 ⟨rfl,U4 (n:=min ys.length 0) (bl (lf _ _) (by decide))⟩;obtain⟨cs,hcs⟩:=Jy (a:=a) (P:=C.P) hop hc σ.w;rw[hcs,Ja e1,aN e2];simp only[builtin];refine BU ?_;unfold ni;simp only[gb,jq,gf,gh,gv,hm,Option.map_none,List.length_nil];have hmz:Nat.min ys.length 0=0:=Nat.min_zero _;simp only[ci,Cw hT,bm,WB hd,Fv (UR eτ),Lx eτ,hmz];rw[←a2,f1];simp[goInt]
       |some r=>
       rw[hβ]at hm;have hy:=hm;simp only[jz]at hy;obtain⟨hl0,hl1,vs,T',h2,h3,h4⟩:=sV (a4.ent b) exs hβ;have hown:σ1.owned b r:=⟨by rw[exs];trivial,hβ⟩
       have hrl:=(a4.own b r hown).2.1;obtain⟨L,f1,f2,f3,f4⟩:=jJ (P:=C.P) hd (n:=Nat.min ys.length xs.length) (lq _ _);have hmin:(ys.take (Nat.min ys.length xs.length)).length=Nat.min ys.length xs.length:=by simp
       have hnle:Nat.min ys.length xs.length<=xs.length:=lf _ _;have hfit:0*τ'.width+L.length<=vs.size:=by
        rw[f2,h3];have:=aw τ'.width (ga hnle hl0);omega
       have hrows:=aFA (k:=0) h4 f3 (by rw[hmin];exact f2) (dp _) hfit;have hres:xs.take 0++ys.take (Nat.min ys.length xs.length)++xs.drop (0+(ys.take (Nat.min ys.length xs.length)).length)=ys.take xs.length++xs.drop ys.length:=by
        rw[hmin];simp only[List.take_zero,List.nil_append,cz];rcases pw ys.length xs.length with hle|hle
        ·have:Nat.min ys.length xs.length=ys.length:=gn hle;rw[this,cm (bu _),cm hle]
        ·have:Nat.min ys.length xs.length=xs.length:=lg hle;rw[this,jl (bu _),jl hle]
       rw[hres]at hrows;have hlen:(ys.take xs.length++xs.drop ys.length).length=xs.length:=by simp;omega
       obtain⟨g1,g2⟩:=v5 a4 hown (e:=.arr τ' (ys.take xs.length++xs.drop ys.length)) (vs:=CG vs (0*τ'.width) L) (T:=T') (by rw[exs];exact⟨_,rfl,hlen⟩) (fun hg=>by
        unfold AE;simp only[Sit.store];rw[Cf hlt,if_pos rfl];exact⟨by rw[hlen];exact hl0,hl1,.inr ⟨r,_,T',hβ,Wx hrl,by rw[lC,h3],hrows.mono hg.stab hg.heap⟩⟩)
       refine Bh (σ':=σ1.store b r (.arr τ' (ys.take xs.length++xs.drop ys.length)) (CG vs (0*τ'.width) L) T') (v:=.int .i64 ((min ys.length xs.length:Nat):Int)) ?_ g1 (a5.trans g2).moves (by simp[Sit.store,a1]) ⟨rfl,U4 (by omega)⟩;obtain⟨cs,hcs⟩:=Jy (a:=a) (P:=C.P) hop hc σ.w;rw[hcs,Ja e1,aN e2];simp only[builtin];refine BU ?_;unfold ni;simp only[gb,jq,gf,gh,gv,hy];simp only[ci,Cw hT,bm,WB hd,Fv (UR eτ),Lx eτ];rw[←a2,f1];simp only[bm];have h0:=lK (P:=C.P) (r:=r) (o:=0) (T:=T') L 0 σ1.w vs h2 (by simpa using hfit) f4;rw[h0];simp[goInt,Sit.store]
      ·cases h
     ·cases h
   ·cases h
  ·rename_i e b lo n yc hT eb ey;split at h
   ·rename_i τ eτ;cases hf:Dm s.mem yc with
    |mk yc' m1=>
     rw[hf]at h;simp only at h;rw[←hr.mem]at hf;obtain⟨σ1,a1,a2,a3,a4,a5,a6⟩:=UW ho hf;split at h
     ·rename_i ys τ' xs0 eys exs;split at h
      ·rename_i xs ecast;obtain⟨hττ,hxs⟩:=Jf ecast;subst hττ;simp only at hxs;subst hxs;simp only[ae,Res.ok.injEq,true_and]at h;obtain⟨rfl,rfl⟩:=h;have hd:=i1 (a6 _ (BO hr hx ey)) (jN hf) (by rw[a1];exact eys);have hb:=a5.repC (BO hr hx eb);rw[←a1]at exs;obtain⟨hlt,_,hm⟩:=hb;rw[exs]at hm;obtain⟨p1,A,cc,hy,p2,p3,p4⟩:=hm;obtain⟨L,f1,f2,f3,f4⟩:=jJ (P:=C.P) hd (n:=Nat.min ys.length n) (lq _ _);have hmin:(ys.take (Nat.min ys.length n)).length=Nat.min ys.length n:=by
        rw[ig];exact gn (lq _ _)
       have hmn:Nat.min ys.length n<=n:=lf _ _;have htake:ys.take (Nat.min ys.length n)=ys.take n:=by
        rcases pw ys.length n with hle|hle
        ·have:Nat.min ys.length n=ys.length:=gn hle;rw[this,cm (bu _),cm hle]
        ·have:Nat.min ys.length n=n:=lg hle;rw[this]
       have hlen:(xs.take lo++ys.take n++xs.drop (lo+min ys.length n)).length=xs.length:=by
        rw[←htake];simp only[ff,hmin,ig,List.length_drop];show min lo xs.length+Nat.min ys.length n+(xs.length-(lo+Nat.min ys.length n))=_;omega
       by_cases hz:Nat.min ys.length n=0
       ·have e0:xs.take lo++ys.take n++xs.drop (lo+min ys.length n)=xs:=by
         have e1:ys.take n=[]:=by rw[←htake,hz];simp
         have e2:min ys.length n=0:=hz;rw[e1,e2];simp
        have hL:L=[]:=cr (by rw[f2,hz];simp);rw[e0];refine Bh (σ':=σ1) (v:=.int .i64 ((min ys.length n:Nat):Int)) ?_ a4 a5.moves (by rw[←a1];exact(lM exs (by simp)).symm) ⟨rfl,U4 (n:=min ys.length n) (bl (show Nat.min ys.length n<=0 by omega) (by decide))⟩;obtain⟨cs,hcs⟩:=Jy (a:=a) (P:=C.P) hop hc σ.w;rw[hcs,Ja e1,aN e2];simp only[builtin];refine BU ?_;unfold ni;simp only[gb,jq,gf,gh,gv,hy];simp only[ci,Cw hT,bm,WB hd,Fv (UR eτ),Lx eτ];rw[←a2,f1,hL];cases A<;>simp[goInt,storeCells]
       ·obtain⟨r,hβ,rfl⟩:=p4 (by omega);obtain⟨hl0,hl1,vs,T',h2,h3,h4⟩:=sV (a4.ent b) exs hβ;have hown:σ1.owned b r:=⟨by rw[exs];trivial,hβ⟩
        have hrl:=(a4.own b r hown).2.1;have hfit:lo*τ'.width+L.length<=vs.size:=by
         rw[f2,h3,←ce];exact aw τ'.width (by omega)
        have hrows:=aFA (k:=lo) h4 f3 (by rw[hmin];exact f2) (by omega) hfit;rw[hmin,htake]at hrows;obtain⟨g1,g2⟩:=v5 a4 hown (e:=.arr τ' (xs.take lo++ys.take n++xs.drop (lo+min ys.length n))) (vs:=CG vs (lo*τ'.width) L) (T:=T') (by rw[exs];exact⟨_,rfl,hlen⟩) (fun hg=>by
         unfold AE;simp only[Sit.store];rw[Cf hlt,if_pos rfl];exact⟨by rw[hlen];exact hl0,hl1,.inr ⟨r,_,T',hβ,Wx hrl,by rw[lC,h3],hrows.mono hg.stab hg.heap⟩⟩)
        refine Bh (σ':=σ1.store b r (.arr τ' (xs.take lo++ys.take n++xs.drop (lo+min ys.length n))) (CG vs (lo*τ'.width) L) T') (v:=.int .i64 ((min ys.length n:Nat):Int)) ?_ g1 (a5.trans g2).moves (by simp[Sit.store,a1]) ⟨rfl,U4 (by show Nat.min ys.length n<B0;omega)⟩;obtain⟨cs,hcs⟩:=Jy (a:=a) (P:=C.P) hop hc σ.w;rw[hcs,Ja e1,aN e2];simp only[builtin];refine BU ?_;unfold ni;simp only[gb,jq,gf,gh,gv,hy];simp only[ci,Cw hT,bm,WB hd,Fv (UR eτ),Lx eτ];rw[←a2,f1];simp only[bm];have h0:=lK (P:=C.P) (r:=r) (o:=lo*τ'.width) (T:=T') L 0 σ1.w vs h2 (by simpa using hfit) f4;rw[h0];simp[goInt,Sit.store]
      ·cases h
     ·cases h
   ·cases h
  ·cases h
 ·cases h
end Vx
namespace Vx
open Go Go.RowKit
variable {C:Cfg}{base:Base}{S0:Nat->Prop}{σ:Sit}{s:St}{a:Act}{ctx:List (Nat×Bool)}{o:Oper}{x:TV}{mem':Ai}
theorem aOQ:∀(r newLen c:Nat),256<=c->c<=2*newLen->qj newLen r c<=2*newLen
 |0,newLen,c,_,h=>h
 |r+1,newLen,c,h1,h2=>by
  unfold qj
  split
  ·exact h2
  ·exact aOQ r newLen _ (by omega) (by omega)
theorem bB2{need cap:Nat}(h:cap<need):lc need cap<=2*need:=by
 unfold lc;split
 ·omega
 ·split
  ·omega
  ·exact aOQ 4 need cap (by omega) (by omega)
theorem Moves.of_acc{σ σ':Sit}{b:Nat}(stab:∀r,σ.S r->σ'.S r)(heap:∀r,σ.S r->σ'.w.heap[r]? = σ.w.heap[r]?)(len:σ.mem.length<=σ'.mem.length)
  (turns:∀b',b'<σ.mem.length->b'≠b->BP σ σ' b') (hb:∃τ xs τ' xs',Ac σ.mem b=.acc τ xs/\Ac σ'.mem b=.acc τ' xs'):Moves (ED b) σ σ':=by
 refine⟨stab,heap,fun c y hc=>?_,len,fun b' hb' ha=>by
  by_cases h:b'=b
  ·subst h;obtain⟨_,_,_,_,e,_⟩:=hb;rw[e];trivial
  ·have ht:=turns b' hb' h;unfold BP at ht;cases e:Ac σ.mem b' with
   |gone=>rw[e]at ht;simp only at ht;rw[ht]at ha;exact ha
   |raw cs=>rw[e]at ht;rcases ht with⟨_,cs',h2⟩|h2<;>(rw[h2]at ha;exact ha)
   |arr τ xs=>
    rw[e]at ht;rcases ht with⟨_,_,xs',h2,_⟩|⟨xs',h2,_⟩|h2
    ·rw[h2]at ha;exact ha
    ·rw[h2]at ha;exact ha
    ·rw[h2]at ha;exact ha
   |acc τ xs=>trivial
   |froz τ xs=>rw[e]at ht;simp only at ht;rw[ht]at ha;exact ha
   |itr s p=>rw[e]at ht;rcases ht with⟨_,_,_,h2⟩|h2<;>(rw[h2]at ha;exact ha)⟩
 have key:(∀b',c=.own b'->¬b'=b)->AB σ' c y:=fun hne=>aQ7 stab heap len (fun b'=>b'=b) (fun b' hb'=>by
  by_cases h:b'=b
  ·subst h;exact .inr ⟨rfl,hb⟩
  ·exact .inl (turns b' hb' h)) hc hne
 cases c with
 |own b' =>
  simp only[ED];cases hbb:Nat.beq b b' with
  |true=>exact hc.2.1
  |false=>exact key fun b'' e=>by cases e;intro e;subst e;simp[dt]at hbb
 |undef=>exact key fun _ e=>by cases e
 |v _=>exact key fun _ e=>by cases e
 |fl _ _=>exact key fun _ e=>by cases e
 |sl _ _=>exact key fun _ e=>by cases e
 |ptr _ _=>exact key fun _ e=>by cases e
 |eptr _ _ _=>exact key fun _ e=>by cases e
 |iptr _ _ _=>exact key fun _ e=>by cases e
 |sub _ _ _=>exact key fun _ e=>by cases e
 |gptr _=>exact key fun _ e=>by cases e
 |fnv _=>exact key fun _ e=>by cases e
 |ifv _=>exact key fun _ e=>by cases e
 |cx _ _ _=>exact key fun _ e=>by cases e
 |fn _ _=>exact key fun _ e=>by cases e
def Sit.grow(σ:Sit)(b:Nat)(e:Blk)(r:Option Nat)(k:Nat)(w':World):Sit:={E:={β:=AI σ.E.β b r,κ:=AI σ.E.κ b k},mem:=(σ.mem.set b e).map (UQ b),w:=w',S:=σ.S}
theorem aDp{mem:Ai}{f:Blk->Blk}(hf:f .gone=.gone){b:Nat}:Ac (mem.map f) b=f (Ac mem b):=by
 unfold Ac;rw[List.getElem?_map];cases mem[b]?<;>simp[hf]
theorem YG{b:Nat}{τ:Shape}{zs:List (Ab τ)}{r:Option Nat}{k:Nat}{w':World}(hb:b<σ.mem.length)(b':Nat):
  Ac (σ.grow b (.acc τ zs) r k w').mem b'=if b'=b then .acc τ zs else UQ b (Ac σ.mem b'):=by
 simp only[Sit.grow];rw[aDp rfl,Cf hb];split<;>rfl
theorem bCP{b:Nat}{e:Blk}:LO (UQ b e)↔LO e:=by
 cases e<;>exact Iff.rfl
theorem aEr(ho:Ok base S0 σ){b:Nat}{τ:Shape}{xs zs:List (Ab τ)}(hb:Ac σ.mem b=.acc τ xs){r:Option Nat}{k:Nat}{w':World}
  (hw:Low base w') (hsz:σ.w.heap.size<=w'.heap.size) (hheap:∀q,q<σ.w.heap.size->σ.E.β b≠some q->w'.heap[q]? = σ.w.heap[q]?)
  (hr:∀q,r=some q->base.new q/\q<w'.heap.size/\(σ.E.β b=some q∨σ.w.heap.size<=q))
  (hlen:zs.length<=k) (hk:k<B0)
  (hat:(r=none/\k=0)∨∃q vs T,r=some q/\w'.heap[q]? = some (.cells vs T (0,0))/\vs.size=k*τ.width/\Rows w' σ.S τ vs 0 zs) :
  Ok base S0 (σ.grow b (.acc τ zs) r k w')/\Moves (ED b) σ (σ.grow b (.acc τ zs) r k w')/\AB (σ.grow b (.acc τ zs) r k w') (.own b) (.slice (r.map fun q=>⟨q,0,none⟩) zs.length k):=by
 have hlt:b<σ.mem.length:=DI (by rw[hb];simp);have hS:∀q,σ.S q->w'.heap[q]? = σ.w.heap[q]?:=fun q hq=>hheap q (ho.stab q hq).1 (fun e=>(ho.own b q ⟨by rw[hb];trivial,e⟩).2.2 hq);have hturn:∀b',b'<σ.mem.length->b'≠b->BP σ (σ.grow b (.acc τ zs) r k w') b':=fun b' hb' hne=>by
  have e1:Ac (σ.grow b (.acc τ zs) r k w').mem b'=UQ b (Ac σ.mem b'):=by rw[YG hlt,if_neg hne]
  have e2:(σ.grow b (.acc τ zs) r k w').E.β b'=σ.E.β b':=by simp[Sit.grow,AI,hne]
  have e3:(σ.grow b (.acc τ zs) r k w').E.κ b'=σ.E.κ b':=by simp[Sit.grow,AI,hne]
  unfold BP;cases e:Ac σ.mem b' with
  |gone=>simp only;rw[e1,e];rfl
  |raw cs=>exact .inl ⟨e2,_,by rw[e1,e];rfl⟩
  |arr τ' ys=>exact .inl ⟨e2,e3,ys,by rw[e1,e];rfl,rfl⟩
  |acc τ' ys=>exact .inl ⟨e2,e3,by rw[e1,e];rfl⟩
  |froz τ' ys=>simp only;rw[e1,e];rfl
  |itr s p=>exact .inl ⟨e2,s,p,by rw[e1,e];rfl⟩
 have hmv:Moves (ED b) σ (σ.grow b (.acc τ zs) r k w'):=
  Moves.of_acc (fun _ h=>h) (fun q hq=>hS q hq) (by simp[Sit.grow]) hturn ⟨τ,xs,τ,zs,hb,by rw[YG hlt,if_pos rfl]⟩
 have hold:∀b' q,b'≠b->(σ.grow b (.acc τ zs) r k w').owned b' q->σ.owned b' q:=fun b' q hne ⟨h1,h2⟩=>by
  rw[YG hlt,if_neg hne]at h1;exact⟨bCP.1 h1,by simpa[Sit.grow,AI,hne]using h2⟩
 have hnew:∀q,(σ.grow b (.acc τ zs) r k w').owned b q->r=some q:=fun q h=>by simpa[Sit.grow,AI]using h.2
 have hbown:∀q,σ.E.β b=some q->σ.owned b q:=fun q e=>⟨by rw[hb];trivial,e⟩
 refine⟨⟨hw,ho.stab0,fun q hq=>⟨ao (ho.stab q hq).1 hsz,(ho.stab q hq).2⟩,fun b'=>?_,fun b' q h=>?_,fun b1 b2 q h1 h2=>?_⟩,hmv,?_⟩
 ·by_cases hbb:b'=b
  ·subst hbb;unfold AE;rw[YG hlt,if_pos rfl];refine⟨by simpa[Sit.grow,AI]using hlen,by simpa[Sit.grow,AI]using hk,?_⟩;rcases hat with⟨h1,h2⟩|⟨q,vs,T,h1,h2,h3,h4⟩
   ·exact .inl ⟨by simp[Sit.grow,AI,h1],by simp[Sit.grow,AI,h2]⟩
   ·exact .inr ⟨q,vs,T,by simp[Sit.grow,AI,h1],h2,by simpa[Sit.grow,AI]using h3,h4⟩
  ·have he:=ho.ent b';have howned:∀q,σ.owned b' q->w'.heap[q]? = σ.w.heap[q]?:=fun q hq=>hheap q (ho.own b' q hq).2.1 (fun e=>hbb (ho.inj b' b q hq (hbown q e)));unfold AE at he⊢;rw[YG hlt,if_neg hbb];have e2:(σ.grow b (.acc τ zs) r k w').E.β b'=σ.E.β b':=by simp[Sit.grow,AI,hbb]
   have e3:(σ.grow b (.acc τ zs) r k w').E.κ b'=σ.E.κ b':=by simp[Sit.grow,AI,hbb]
   cases e:Ac σ.mem b' with
   |gone=>trivial
   |froz τ' ys=>trivial
   |itr s p=>
    rw[e]at he;obtain⟨h0,q,h1,h2⟩:=he;exact⟨h0,q,e2.trans h1,(howned q ⟨by rw[e];trivial,h1⟩).trans h2⟩
   |raw cs=>
    rw[e]at he;obtain⟨q,vs,T,h1,h2,h3⟩:=he;exact⟨q,vs,T,e2.trans h1,(howned q ⟨by rw[e];trivial,h1⟩).trans h2,h3.mapL (ED b) hmv.rep⟩
   |arr τ' ys=>
    rw[e]at he;obtain⟨h0,h00,h⟩:=he;refine⟨by rw[e3];exact h0,by rw[e3];exact h00,?_⟩;rcases h with⟨h1,h2⟩|⟨q,vs,T,h1,h2,h3,h4⟩
    ·exact .inl ⟨e2.trans h1,e3.trans h2⟩
    ·exact .inr ⟨q,vs,T,e2.trans h1,(howned q ⟨by rw[e];trivial,h1⟩).trans h2,by rw[e3];exact h3,h4.mono (fun _ h=>h) hS⟩
   |acc τ' ys=>
    rw[e]at he;obtain⟨h0,h00,h⟩:=he;refine⟨by rw[e3];exact h0,by rw[e3];exact h00,?_⟩;rcases h with⟨h1,h2⟩|⟨q,vs,T,h1,h2,h3,h4⟩
    ·exact .inl ⟨e2.trans h1,e3.trans h2⟩
    ·exact .inr ⟨q,vs,T,e2.trans h1,(howned q ⟨by rw[e];trivial,h1⟩).trans h2,by rw[e3];exact h3,h4.mono (fun _ h=>h) hS⟩
 ·by_cases hbb:b'=b
  ·subst hbb;obtain⟨g1,g2,g3⟩:=hr q (hnew q h);refine⟨g1,g2,fun hs=>?_⟩;rcases g3 with g3|g3
   ·exact(ho.own b' q (hbown q g3)).2.2 hs
   ·exact absurd (ho.stab q hs).1 (by omega)
  ·have:=ho.own b' q (hold b' q hbb h);exact⟨this.1,ao this.2.1 hsz,this.2.2⟩
 ·have key:∀b' q,b'≠b->(σ.grow b (.acc τ zs) r k w').owned b' q->r=some q->False:=fun b' q hne h e=>by
   have h':=hold b' q hne h;rcases(hr q e).2.2 with g|g
   ·exact hne (ho.inj b' b q h' (hbown q g))
   ·exact absurd (ho.own b' q h').2.1 (by omega)
  by_cases hb1:b1=b<;>by_cases hb2:b2=b
  ·rw[hb1,hb2]
  ·subst hb1;exact(key b2 q hb2 h2 (hnew q h1)).elim
  ·subst hb2;exact(key b1 q hb1 h1 (hnew q h2)).elim
  ·exact ho.inj b1 b2 q (hold b1 q hb1 h1) (hold b2 q hb2 h2)
 ·refine⟨by simp[Sit.grow];exact hlt,trivial,?_⟩;rw[YG hlt,if_pos rfl];simp[Sit.grow,AI]
theorem bJX{P:Program}{e:TypeId}(h:lZ P e=true):∃z:Value,z.cells.size=P.cellsOf e/\∀w,(zeroValue e).run P w=.ok z w:=by
 unfold lZ at h;split at h
 ·rename_i x ex;obtain⟨z,h1,h2⟩:=mA (P:=P) (σ:=⟨⟨fun _=>none,fun _=>0⟩,[],default,fun _=>False⟩) ex;refine⟨z,?_,h2⟩;have:=h1.cells.length;rw[ZP h]at this;simpa using this.symm
 ·cases h
theorem aO9{L1 L2:List Value}{rest:Array Value}{q:Nat}:((L1.toArray++L2.toArray)++rest)[q]? = if q<L1.length then L1[q]? else if q<L1.length+L2.length then L2[q-L1.length]? else rest[q-(L1.length+L2.length)]?:=by
 rw[nr,nr];simp only[pj,pk,gf];by_cases h1:q<L1.length
 ·rw[if_pos (by omega),if_pos h1,if_pos h1]
 ·by_cases h2:q<L1.length+L2.length
  ·rw[if_pos h2,if_neg h1,if_neg h1,if_pos h2]
  ·rw[if_neg h2,if_neg h1,if_neg h2]
theorem aMP(ho:Ok base S0 σ){b:Nat}{τ:Shape}{xs ys:List (Ab τ)}{yv:Value}{T T2 e:TypeId}{ty:TypeId}{e2:TypeId}{Ts:List TypeId}(hb:Ac σ.mem b=.acc τ xs)(hd:Bf σ.w σ.S (.slice τ) ys [yv])
  (hT:C.P.underlying T=some (.slice e)) (hT2:C.P.underlying T2=some (.slice e2)) (eτ:CU C.P e=some τ) (hg:((xs.length:Int)+(ys.length:Int))*2*(C.P.bytesOf e:Int)<=Fc) (hby:0<C.P.bytesOf e) (hz:lZ C.P e=true) :
  ∃r k w',(lr (T::T2::Ts).toArray ty #[.slice ((σ.E.β b).map fun r=>⟨r,0,none⟩) xs.length (σ.E.κ b),yv]).run C.P σ.w=.ok (.slice (r.map fun q=>⟨q,0,none⟩) (xs++ys).length k) w' /\
   Ok base S0 (σ.grow b (.acc τ (xs++ys)) r k w')/\Moves (ED b) σ (σ.grow b (.acc τ (xs++ys)) r k w')/\AB (σ.grow b (.acc τ (xs++ys)) r k w') (.own b) (.slice (r.map fun q=>⟨q,0,none⟩) (xs++ys).length k):=by
 have he:=ho.ent b
 unfold AE at he
 rw[hb]at he
 obtain⟨hle,hlim,hblk⟩:=he
 have hw:=Lx eτ
 have hsize:∀w,(Go.sizeOf e).run C.P w=.ok τ.width w:=fun w=>by rw[Fv (UR eτ),hw]
 obtain⟨ie,hie⟩:=UR eτ
 have hbytes:ie.bytes=C.P.bytesOf e:=by simp[qe,hie]
 have hneed:xs.length+ys.length<=70368744177664:=by
  have h1:(((xs.length+ys.length)*2*C.P.bytesOf e:Nat):Int)<=Fc:=by push_cast;exact hg
  have h2:(xs.length+ys.length)*2*C.P.bytesOf e<=140737488355328:=by unfold Fc at h1;omega
  have h3:=Nat.le_mul_of_pos_right ((xs.length+ys.length)*2) hby
  omega
 obtain⟨L,f1,f2,f3,f4⟩:=jJ (P:=C.P) hd (bu ys.length)
 rw[dq]at f3
 by_cases hroom:xs.length+ys.length<=σ.E.κ b
 ·rcases hblk with⟨h1,h2⟩|⟨r,vs,T',h1,h2,h3,h4⟩
  ·have hx0:xs=[]:=cr (by omega)
   have hy0:ys=[]:=cr (by omega)
   subst hx0;subst hy0
   obtain⟨k1,k2,k3⟩:=aEr ho hb (zs:=[]) (r:=none) (k:=0) (w':=σ.w) ho.below (bu _) (fun _ _ _=>rfl) (fun q hq=>by cases hq) (by simp) (by unfold B0;omega) (.inl ⟨rfl,rfl⟩)
   refine⟨none,0,σ.w,?_,k1,k2,k3⟩
   unfold lr
   simp[Cw hT,Cw hT2,hsize,WB hd,h1,h2]
   rw[show(0:Nat)=([]:List (Ab τ)).length from rfl,f1]
   simp
  ·have hfit:xs.length*τ.width+L.length<=vs.size:=by
    rw[f2,h3,←ce]
    exact aw _ hroom
   have hrows:=aFA (k:=xs.length) h4 f3 f2 (bu _) hfit
   rw[dq,jl (by omega),dl]at hrows
   have hrl:=(ho.own b r ⟨by rw[hb];trivial,h1⟩)
   have hS:∀q,σ.S q->(C3 σ.w r (.cells (CG vs (xs.length*τ.width) L) T' (0,0))).heap[q]? = σ.w.heap[q]?:=fun q hq=>O2 (fun e=>hrl.2.2 (e▸hq))
   obtain⟨k1,k2,k3⟩:=aEr ho hb (zs:=xs++ys) (r:=some r) (k:=σ.E.κ b) (w':=C3 σ.w r (.cells (CG vs (xs.length*τ.width) L) T' (0,0)))
    (ho.below.step rfl rfl rfl (by simp[C3]) (fun k _ hn=>O2 (fun e=>hn (e▸hrl.1)))) (by simp[C3]) (fun q _ hne=>O2 (fun e=>hne (e▸h1))) (fun q hq=>by cases hq;exact⟨hrl.1,by rw[lO];exact hrl.2.1,.inl h1⟩)
    (by simpa using hroom) hlim (.inr ⟨r,_,T',rfl,Wx hrl.2.1,by rw[lC];exact h3,hrows.mono (fun _ h=>h) hS⟩)
   refine⟨some r,σ.E.κ b,_,?_,k1,k2,k3⟩
   have h0:=lK (P:=C.P) (r:=r) (o:=xs.length*τ.width) (T:=T') L 0 σ.w vs h2 (by simpa using hfit) f4
   unfold lr
   simp[Cw hT,Cw hT2,hsize,WB hd,h1,hroom,f1,Lp]
   rw[h0]
   simp
 ·obtain⟨z,z1,z2⟩:=bJX hz
  have hnext:lc (xs.length+ys.length) (σ.E.κ b)*C.P.bytesOf e<=281474976710656:=by
   have h1:=bB2 (need:=xs.length+ys.length) (cap:=σ.E.κ b) (by omega)
   have h2:=aw (C.P.bytesOf e) h1
   have h3:((2*(xs.length+ys.length)*C.P.bytesOf e:Nat):Int)<=Fc:=by
    push_cast
    have:(2:Int)*((xs.length:Int)+(ys.length:Int))=((xs.length:Int)+(ys.length:Int))*2:=nq _ _
    rw[this]
    exact hg
   unfold Fc at h3
   omega
  obtain⟨L0,g1,g2,g3,g4⟩:=aN0 (P:=C.P) (w:=σ.w.drew) (S:=σ.S) (e:=τ) (ys:=xs) (A:=(σ.E.β b).map fun r=>⟨r,0,none⟩) (m:=xs.length) (c:=σ.E.κ b) (fun hne=>by
   rcases hblk with⟨h1,h2⟩|⟨r,vs,T',h1,h2,h3,h4⟩
   ·exact absurd (cr (by omega)) hne
   ·exact⟨r,0,vs,T',(0,0),by rw[h1];rfl,h2,Rows.mono (w:=σ.w) (w':=σ.w.drew) (fun _ h=>h) (fun _ _=>rfl) h4⟩) (bu xs.length)
  rw[dq]at g3
  obtain⟨L',f1',f2',f3',f4'⟩:=jJ (P:=C.P) (σ:={σ with w:=σ.w.drew}) (Bf.mono (w:=σ.w) (w':=σ.w.drew) (fun _ h=>h) (fun _ _=>rfl) hd) (bu ys.length)
  rw[dq]at f3'
  let q:Question:=.appendCap (xs.length+ys.length) (σ.E.κ b) e
  let k:=xs.length+ys.length+σ.w.tape σ.w.drawn q%(2^63-(xs.length+ys.length))
  have hk:xs.length+ys.length<=k/\k<B0:=by
   have hpos:0<2^63-(xs.length+ys.length):=by omega
   have:=ca (σ.w.tape σ.w.drawn q) hpos
   unfold B0
   omega
  let vs':Array Value:=L0.toArray++L'.toArray++nh z.cells (k-(xs.length+ys.length))
  have hzs:(nh z.cells (k-(xs.length+ys.length))).size=(k-(xs.length+ys.length))*τ.width:=by
   simp[nh,z1,hw]
  have hvs:vs'.size=k*τ.width:=by
   simp only[vs',pj,pk,hzs,g2,f2']
   rw[←ce,←ce]
   congr 1
   omega
  have hrows:Rows (σ.w.drew.alloc (.cells vs' e)) σ.S τ vs' 0 (xs++ys):=by
   have hS:∀p,σ.S p->(σ.w.drew.alloc (.cells vs' e)).heap[p]? = σ.w.drew.heap[p]?:=fun p hp=>O1 (ho.stab p hp).1
   intro i x hi
   rcases ay i xs.length with h1|h1
   ·rw[co h1]at hi
    obtain⟨ds,d1,d2⟩:=g3 i x hi
    refine⟨ds,d1.mono (fun _ h=>h) hS,fun j d hj=>?_⟩
    have hjl:=(bj.1 hj).1
    rw[d1.len]at hjl
    have:=LV h1 hjl
    simp only[vs']
    rw[aO9,if_pos (by omega),cz]
    exact d2 j d hj
   ·rw[cj h1]at hi
    have h2:=(bj.1 hi).1
    obtain⟨ds,d1,d2⟩:=f3' (i-xs.length) x hi
    refine⟨ds,d1.mono (fun _ h=>h) hS,fun j d hj=>?_⟩
    have hjl:=(bj.1 hj).1
    rw[d1.len]at hjl
    have h3:=LV h2 hjl
    have h4:(i-xs.length)*τ.width+xs.length*τ.width=i*τ.width:=by rw[←ce];congr 1;omega
    simp only[vs']
    rw[aO9,if_neg (by omega),if_pos (by omega)]
    rw[show 0+i*τ.width+j-L0.length=(i-xs.length)*τ.width+j by omega]
    exact d2 j d hj
  obtain⟨k1,k2,k3⟩:=aEr ho hb (zs:=xs++ys) (r:=some σ.w.heap.size) (k:=k) (w':=σ.w.drew.alloc (.cells vs' e)) (ho.below.drew.alloc _) (by simp)
   (fun p hp _=>O1 (w:=σ.w.drew) hp) (fun p hp=>by cases hp;exact⟨.inl ho.below.size,by simp,.inr (bu _)⟩) (by simpa using hk.1) hk.2
   (.inr ⟨σ.w.heap.size,vs',e,rfl,U1 (w:=σ.w.drew),hvs,hrows⟩)
  refine⟨some σ.w.heap.size,k,_,?_,k1,k2,k3⟩
  have hti:∀w,(typeInfo e).run C.P w=.ok ie w:=fun w=>by simp[typeInfo,hie]
  have hn1:¬((xs.length+ys.length:Nat):Int)>IntKind.i64.max:=by
   simp[lv,jh,iw];omega
  have hn2:¬lc (xs.length+ys.length) (σ.E.κ b)*ie.bytes>2^48:=by rw[hbytes];omega
  have hcut:(choose (.appendCap (xs.length+ys.length) (σ.E.κ b) e)).run C.P σ.w=.ok k σ.w.drew:=by
   simp[q,k,Question.forced,Question.cut]
  unfold lr
  simp only[gf,gh,gv,ci,Cw hT,Cw hT2,bm,hsize,di,Bool.false_eq_true,if_false,WB hd,if_neg hroom,hti]
  rw[if_neg (fun h=>hn1 h.1)]
  simp only[ci,hti,bm]
  rw[if_neg hn2]
  have f1'':(jb τ.width ys.length yv).run C.P σ.w.drew=.ok L'.toArray σ.w.drew:=f1'
  simp only[ci,hcut,bm,hti,run_askRoom,g1,z2,di]
  simp[newRow,vs',f1'']
def aTB(C:Cfg)(base:Base)(S0:Nat->Prop)(b:Nat)(σ:Sit)(a:Act)(o:Oper)(mem':Ai):Prop:=BV C base S0 (ED b) σ a o (.val (.one (.own b))) (mem'.map (UQ b))
theorem Goes.dropMoves{σ σ1 σ2:Sit}{b:Nat}(h:Goes σ σ1)(h':Moves (ED b) σ1 σ2):Moves (ED b) σ σ2:=
 ⟨fun r hr=>h'.stab r (h.stab r hr),fun r hr=>(h'.heap r (h.stab r hr)).trans (h.heap r hr),fun c y hc=>h'.rep c y (h.repC hc),ga h.len h'.len,fun b hb ha=>h.noacc b hb (h'.noacc b (ao hb h.len) ha)⟩
theorem aRd{n b:Nat}(h:EM n b=true):(n:Int)*2*(b:Int)<=Fc:=by
 have h:=Nat.le_of_ble_eq_true h;have e:((n*2*b:Nat):Int)=(n:Int)*2*(b:Int):=by rw[ka,ka];rfl
 rw[←e];exact Int.ofNat_le.2 h
theorem bB9(ho:Ok base S0 σ)(hr:RelT σ s a)(hx:BG a ctx){c:Call}(hop:o.op=.call c)(hc:c.callee=.builtin .append)(h:Ay C s ctx o=some (.ok true x mem')):
  ∃b,x=.val (.one (.own b))/\HA (Ac (mem'.map (UQ b)) b)/\aTB C base S0 b σ a o mem':=by
 unfold Ay at h;rw[hop]at h;simp only[hc]at h;split at h
 ·rename_i y z T T2 Ts e1 e2;split at h
  ·rename_i e e3 ac yc hT hT2 ea ey;split at h
   ·rename_i τ eτ;cases hf:Dm s.mem yc with
    |mk yc' m1=>
     rw[hf]at h;simp only at h;rw[←hr.mem]at hf;obtain⟨σ1,a1,a2,a3,a4,a5,a6⟩:=UW ho hf;have hya:=BO hr hx ey;have hexec:∀{v w'},(lr (T::T2::Ts).toArray o.type #[a.eval y,a.eval z]).run C.P σ.w=.ok v w'->(execOp a.eval o).run C.P σ.w=.ok (.value v) w':=fun hv=>by
      obtain⟨cs,hcs⟩:=Jy (a:=a) (P:=C.P) hop hc σ.w;rw[hcs,Ja e1,aN e2];simp only[builtin];exact BU hv
     split at h
     ·rename_i ys eys;simp only[ae,Res.ok.injEq,ah]at h;obtain⟨⟨⟨g1,g2⟩,g3⟩,rfl,rfl⟩:=h;have hd:=i1 (a6 _ hya) (jN hf) (by rw[a1];exact eys);obtain⟨hay,_⟩:=BO hr hx ea;have ho2:=aPZ a4 τ;have hg2:=aEN σ1 (.acc τ []);have hb2:Ac (σ1.name (.acc τ [])).mem σ1.mem.length=.acc τ []:=Jd;have hβ:(σ1.name (.acc τ [])).E.β σ1.mem.length=none:=by simp[Sit.name,AI]
      have hκ:(σ1.name (.acc τ [])).E.κ σ1.mem.length=0:=by simp[Sit.name,AI]
      obtain⟨r,k,w',k1,k2,k3,k4⟩:=aMP (C:=C) (T2:=T2) (ty:=o.type) (Ts:=Ts) ho2 hb2 (hd.mono hg2.stab hg2.heap) hT hT2 eτ (by simpa using aRd g1) (by simpa using g2) g3;rw[hβ,hκ]at k1;refine⟨σ1.mem.length,by rw[a1],by rw[←a1,aDp rfl,Jd];trivial,Bh (σ':=_) (v:=.slice (r.map fun q=>⟨q,0,none⟩) (([]:List (Ab τ))++ys).length k) ?_ k2 ((a5.trans hg2).dropMoves k3) ?_ k4⟩
      ·refine hexec ?_;rw[hay];have:(σ1.name (.acc τ [])).w=σ.w:=by simp[Sit.name,a2]
       rw[this]at k1;exact k1
      ·simp[Sit.grow,Sit.name,a1]
     ·rename_i ys b eys;split at h
      ·rename_i τ' xs0 eb;split at h
       ·rename_i xs ecast;obtain⟨hττ,hxs⟩:=Jf ecast;subst hττ;simp only at hxs;subst hxs;simp only[ae,Res.ok.injEq,ah,decide_eq_true_eq]at h;obtain⟨⟨⟨g1,g2⟩,g3⟩,rfl,rfl⟩:=h;have hd:=i1 (a6 _ hya) (jN hf) (by rw[a1];exact eys);have hb:=a5.repC (BO hr hx ea);rw[←a1]at eb;obtain⟨hlt,_,hm⟩:=hb;rw[eb]at hm;obtain⟨r,k,w',k1,k2,k3,k4⟩:=aMP (C:=C) (T2:=T2) (ty:=o.type) (Ts:=Ts) a4 eb hd hT hT2 eτ (by have:=aRd g1;rw[Int.natCast_add]at this;exact this) (by simpa using g2) g3;refine⟨b,rfl,by rw[←a1,aDp rfl,Cf hlt,if_pos rfl];trivial,Bh (σ':=_) (v:=.slice (r.map fun q=>⟨q,0,none⟩) (xs++ys).length k) ?_ k2 (a5.dropMoves k3) ?_ k4⟩
        ·refine hexec ?_;rw[hm,←a2];exact k1
        ·simp[Sit.grow,a1]
       ·cases h
      ·cases h
     ·cases h
   ·cases h
  ·cases h
 ·cases h
end Vx
namespace Vx
open Go Go.RowKit
def D4(w:World)(S:Nat->Prop)(a:Bool)(τ:Shape)(x:Ab τ)(y:Value):Prop:=
 match a with
 |true=>∃cs:List Value,y=.agg cs.toArray/\Bf w S τ x cs
 |false=>Bf w S τ x [y]
def Gn(w:World)(S:Nat->Prop)(τ:Shape)(xs:List (Ab τ))(y:Value)(rs:List Nat):Prop:=∃k,xs.length<=k/\k<B0/\((y=.slice none xs.length k/\k=0/\rs=[]) ∨ ∃r vs T,y=.slice (some ⟨r,0,none⟩) xs.length k/\rs=[r]/\w.heap[r]? = some (.cells vs T (0,0))/\vs.size=k*τ.width/\Rows w S τ vs 0 xs)
def Gd(w:World)(S:Nat->Prop)(a:Bool):(τ:Shape)->Ab τ->Value->List Nat->Prop
 |.slice e,x,y,rs=>(match a with
  |true=>Gn w S e x y rs
  |false=>rs=[]/\D4 w S false (.slice e) x y)
 |.int k,x,y,rs=>rs=[]/\D4 w S a (.int k) x y
 |.flt k,x,y,rs=>rs=[]/\D4 w S a (.flt k) x y
 |.bool,x,y,rs=>rs=[]/\D4 w S a .bool x y
 |.str,x,y,rs=>rs=[]/\D4 w S a .str x y
 |.fn,x,y,rs=>rs=[]/\D4 w S a .fn x y
 |.unit,x,y,rs=>rs=[]/\D4 w S a .unit x y
 |.pair σ τ,x,y,rs=>rs=[]/\D4 w S a (.pair σ τ) x y
 |.box σ,x,y,rs=>rs=[]/\D4 w S a (.box σ) x y
 |.ifc,x,y,rs=>rs=[]/\D4 w S a .ifc x y
 |.pfn,x,y,rs=>rs=[]/\D4 w S a .pfn x y
 |.cx k,x,y,rs=>rs=[]/\D4 w S a (.cx k) x y
def Cz(w:World)(S:Nat->Prop):(sg:Aa)->DenS sg->List Value->List Nat->Prop
 | [],_,ys,rs=>ys=[]/\rs=[]
 |(a,τ)::sg,x,ys,rs=>∃y ys' r1 r2,ys=y::ys'/\rs=r1++r2/\Gd w S a τ x.1 y r1/\Cz w S sg x.2 ys' r2
theorem D4.mono{w w':World}{S S':Nat->Prop}(hS:∀r,S r->S' r)(hH:∀r,S r->w'.heap[r]? = w.heap[r]?){a:Bool}{τ:Shape}{x:Ab τ}{y:Value}(h:D4 w S a τ x y):D4 w' S' a τ x y:=by
 cases a with
 |true=>obtain⟨cs,h1,h2⟩:=h;exact⟨cs,h1,h2.mono hS hH⟩
 |false=>exact Bf.mono hS hH h
theorem Gd.mono{w w':World}{S S':Nat->Prop}(hS:∀r,S r->S' r)(hH:∀r,S r->w'.heap[r]? = w.heap[r]?){a:Bool}{τ:Shape}{x:Ab τ}{y:Value}{rs:List Nat}(hR:∀r∈rs,w'.heap[r]? = w.heap[r]?)(h:Gd w S a τ x y rs):Gd w' S' a τ x y rs:=by
 cases τ with
 |slice e=>
  cases a with
  |true=>
   obtain⟨k,h1,h2,h3⟩:=h;refine⟨k,h1,h2,?_⟩;rcases h3 with h3|⟨r,vs,T,h4,rfl,h5,h6,h7⟩
   ·exact .inl h3
   ·exact .inr ⟨r,vs,T,h4,rfl,(hR r (by simp)).trans h5,h6,h7.mono hS hH⟩
  |false=>exact⟨h.1,h.2.mono hS hH⟩
 |_=>exact⟨h.1,D4.mono hS hH h.2⟩
theorem Cz.mono{w w':World}{S S':Nat->Prop}(hS:∀r,S r->S' r)(hH:∀r,S r->w'.heap[r]? = w.heap[r]?):∀{sg:Aa} {x:DenS sg} {ys:List Value} {rs:List Nat},(∀r∈rs,w'.heap[r]? = w.heap[r]?)->Cz w S sg x ys rs->Cz w' S' sg x ys rs
 | [],_,_,_,_,h=>h
 |(a,τ)::sg,_,_,_,hR,⟨y,ys',r1,r2,h1,h2,h3,h4⟩=>by
  subst h2
  exact⟨y,ys',r1,r2,h1,rfl,h3.mono hS hH (fun r hr=>hR r (cy.2 (.inl hr))),h4.mono hS hH (fun r hr=>hR r (cy.2 (.inr hr)))⟩
variable {base:Base}{S0:Nat->Prop}{σ:Sit}
theorem ZQ(ho:Ok base S0 σ){b:Nat}{τ:Shape}{xs:List (Ab τ)}(he:Ac σ.mem b=.arr τ xs∨Ac σ.mem b=.acc τ xs){y:Value}(hy:AB σ (.own b) y):
  ∃(σ':Sit) (rs:List Nat),σ'.mem=σ.mem.set b .gone/\σ'.w=σ.w/\σ'.E=σ.E/\σ'.S=σ.S/\Ok base S0 σ'/\Goes σ σ'/\Gn σ.w σ.S τ xs y rs/\rs.Nodup/\(∀r∈rs,(∃b,σ.owned b r)/\∀b,¬σ'.owned b r)/\∀b r,σ'.owned b r->σ.owned b r:=by
 have hlt:b<σ.mem.length:=DI (by rcases he with h|h<;>rw[h]<;>simp);have hset:∀b',Ac (σ.mem.set b .gone) b'=if b'=b then .gone else Ac σ.mem b':=fun b'=>Cf hlt;have hold:∀b' r,Sit.owned ⟨σ.E,σ.mem.set b .gone,σ.w,σ.S⟩ b' r->σ.owned b' r/\b'≠b:=fun b' r ⟨h1,h2⟩=>by
  simp only at h1;rw[hset]at h1;split at h1
  ·exact h1.elim
  ·rename_i hne;exact⟨⟨h1,h2⟩,hne⟩
 have hg:Goes σ ⟨σ.E,σ.mem.set b .gone,σ.w,σ.S⟩:=by
  refine⟨fun _ h=>h,fun _ _=>rfl,by simp,fun b' hb'=>?_⟩;by_cases hbb:b'=b
  ·subst hbb;have hgone:Ac (σ.mem.set b' .gone) b'=.gone:=by rw[hset,if_pos rfl]
   unfold BP;rcases he with h|h
   ·rw[h];exact .inr (.inr hgone)
   ·rw[h];exact .inr (.inr hgone)
  ·exact BP.refl (by simp only;rw[hset,if_neg hbb]) rfl rfl
 have hok:Ok base S0 ⟨σ.E,σ.mem.set b .gone,σ.w,σ.S⟩:=by
  refine⟨ho.below,ho.stab0,ho.stab,fun b'=>?_,fun b' r h=>ho.own b' r (hold b' r h).1,fun b1 b2 r h1 h2=>ho.inj b1 b2 r (hold b1 r h1).1 (hold b2 r h2).1⟩;by_cases hbb:b'=b
  ·subst hbb;unfold AE;simp only;rw[hset,if_pos rfl];trivial
  ·exact AE.keep hg (by simp only;rw[hset,if_neg hbb]) rfl rfl (fun _ _=>rfl) (ho.ent b')
 have hent:xs.length<=σ.E.κ b/\σ.E.κ b<B0/\((σ.E.β b=none/\σ.E.κ b=0) ∨
   ∃r vs T,σ.E.β b=some r/\σ.w.heap[r]? = some (.cells vs T (0,0))/\vs.size=σ.E.κ b*τ.width/\Rows σ.w σ.S τ vs 0 xs):=by
  have:=ho.ent b;unfold AE at this;rcases he with h|h
  ·rw[h]at this;exact this
  ·rw[h]at this;exact this
 have hyv:y=.slice ((σ.E.β b).map fun r=>⟨r,0,none⟩) xs.length (σ.E.κ b):=by
  obtain⟨_,_,hm⟩:=hy;rcases he with h|h
  ·rw[h]at hm;exact hm
  ·rw[h]at hm;exact hm
 obtain⟨h1,h2,h3⟩:=hent;rcases h3 with⟨h4,h5⟩|⟨r,vs,T,h4,h5,h6,h7⟩
 ·rw[h4]at hyv;exact⟨⟨σ.E,σ.mem.set b .gone,σ.w,σ.S⟩,[],rfl,rfl,rfl,rfl,hok,hg,⟨_,h1,h2,.inl ⟨hyv,h5,rfl⟩⟩,kl,fun r hr=>by simp at hr,fun b' r h=>(hold b' r h).1⟩
 ·rw[h4]at hyv;have hown:σ.owned b r:=⟨by rcases he with h|h<;>rw[h]<;>trivial,h4⟩
  refine⟨⟨σ.E,σ.mem.set b .gone,σ.w,σ.S⟩,[r],rfl,rfl,rfl,rfl,hok,hg,⟨_,h1,h2,.inr ⟨r,vs,T,hyv,rfl,h5,h6,h7⟩⟩,by simp,fun r' hr'=>?_,fun b' r h=>(hold b' r h).1⟩;simp at hr';subst hr';exact⟨⟨b,hown⟩,fun b' h=>(hold b' r' h).2 (ho.inj b' b r' (hold b' r' h).1 hown)⟩
theorem bJy(ho:Ok base S0 σ){a:Bool}{τ:Shape}{z:SV}{y:Value}(hz:BH σ z y){x:Ab τ}{mem':Ai}(h:JB σ.mem a τ z=some (x,mem')):
  ∃(σ':Sit) (rs:List Nat),σ'.mem=mem'/\σ'.w=σ.w/\σ'.E=σ.E/\σ'.S=σ.S/\Ok base S0 σ'/\Goes σ σ'/\Gd σ.w σ.S a τ x y rs/\rs.Nodup/\(∀r∈rs,(∃b,σ.owned b r)/\∀b,¬σ'.owned b r)/\∀b r,σ'.owned b r->σ.owned b r:=by
 have plain:∀{a:Bool} {τ:Shape} {x:Ab τ},Ef σ.mem a τ z=some (x,mem')->mem'=σ.mem/\D4 σ.w σ.S a τ x y:=fun {a τ x} h=>by
  unfold Ef at h;split at h
  ·rename_i c;cases a with
   |true=>cases h
   |false=>
    simp only[cond_false]at h;split at h
    ·rename_i u eu;cases h;obtain⟨y1,y2,e,d,r⟩:=Pa (All2.cons hz All2.nil) eu;cases r;rw[dl]at e;exact⟨rfl,by show Bf _ _ _ _ _;rw[e];exact d⟩
    ·cases h
  ·rename_i cs;cases a with
   |false=>cases h
   |true=>
    simp only[cond_true]at h;split at h
    ·rename_i u eu;cases h;obtain⟨zs,e0,ha⟩:=hz;obtain⟨y1,y2,e,d,r⟩:=Pa ha eu;cases r;rw[dl]at e;exact⟨rfl,zs,e0,by rw[e];exact d⟩
    ·cases h
 have CI:∀{rs:List Nat},mem'=σ.mem->rs=[]->Gd σ.w σ.S a τ x y rs->∃(σ':Sit) (rs:List Nat),σ'.mem=mem'/\σ'.w=σ.w/\σ'.E=σ.E/\σ'.S=σ.S/\Ok base S0 σ'/\Goes σ σ'/\Gd σ.w σ.S a τ x y rs/\rs.Nodup/\(∀r∈rs,(∃b,σ.owned b r)/\∀b,¬σ'.owned b r)/\∀b r,σ'.owned b r->σ.owned b r:=
  fun hm hr he=>⟨σ,_,hm.symm,rfl,rfl,rfl,ho,Goes.refl σ,he,by subst hr;exact kl,fun r h=>by subst hr;simp at h,fun _ _ h=>h⟩
 cases τ with
 |slice e=>
  cases a with
  |false=>obtain⟨h1,h2⟩:=plain h;exact CI h1 rfl ⟨rfl,h2⟩
  |true=>
   simp only[JB,cond_true]at h;split at h
   ·rename_i b;split at h
    ·rename_i τ' xs eb;split at h
     ·rename_i xs' ec;cases h;obtain⟨hττ,hxs⟩:=Jf ec;subst hττ;simp only at hxs;subst hxs;exact ZQ ho (.inl eb) hz
     ·cases h
    ·rename_i τ' xs eb;split at h
     ·rename_i xs' ec;cases h;obtain⟨hττ,hxs⟩:=Jf ec;subst hττ;simp only at hxs;subst hxs;exact ZQ ho (.inr eb) hz
     ·cases h
    ·cases h
   ·cases h;exact CI rfl rfl ⟨0,bu _,by decide,.inl ⟨hz.1,rfl,rfl⟩⟩
   ·cases h
 |_=>obtain⟨h1,h2⟩:=plain h;exact CI h1 rfl ⟨rfl,h2⟩
theorem lU:∀{sg:Aa} {σ:Sit} (_:Ok base S0 σ) {args:List SV} {ys:List Value} (_:All2 (BH σ) args ys) {x:DenS sg} {mem':Ai},CH σ.mem sg args=some (x,mem') ->
  ∃(σ':Sit) (rs:List Nat),σ'.mem=mem'/\σ'.w=σ.w/\σ'.E=σ.E/\σ'.S=σ.S/\Ok base S0 σ'/\Goes σ σ'/\Cz σ.w σ.S sg x ys rs/\rs.Nodup/\(∀r∈rs,(∃b,σ.owned b r)/\∀b,¬σ'.owned b r)/\∀b r,σ'.owned b r->σ.owned b r
 | [],σ,ho,[],_,.nil,x,mem',h=>by
  simp only[CH]at h;cases h
  exact⟨σ,[],rfl,rfl,rfl,rfl,ho,Goes.refl σ,⟨rfl,rfl⟩,kl,fun r h=>by simp at h,fun _ _ h=>h⟩
 | [],σ,ho,_::_,_,_,x,mem',h=>by simp[CH]at h
 |_::_,σ,ho,[],_,_,x,mem',h=>by simp[CH]at h
 |(a,τ)::sg,σ,ho,z::args,_,.cons (b:=y) (bs:=ys) hz ht,x,mem',h=>by
  simp only[CH]at h
  split at h
  ·rename_i u m1 e1
   split at h
   ·rename_i v m2 e2
    cases h
    obtain⟨σ1,r1,a1,a2,a3,a4,a5,a6,a7,a8,a9,a10⟩:=bJy ho hz e1
    rw[←a1]at e2
    obtain⟨σ2,r2,b1,b2,b3,b4,b5,b6,b7,b8,b9,b10⟩:=lU a5 (ht.mono fun _ _=>a6.repV) e2
    rw[a2,a4]at b7
    refine⟨σ2,r1++r2,b1,b2.trans a2,b3.trans a3,b4.trans a4,b5,a6.trans b6,⟨y,ys,r1,r2,rfl,rfl,a7,b7⟩,?_,fun r hr=>?_,fun b r h=>a10 b r (b10 b r h)⟩
    ·refine kb.2 ⟨a8,b8,fun r h1 r' h2 e=>?_⟩
     subst e
     obtain⟨b,hb⟩:=(b9 r h2).1
     exact(a9 r h1).2 b hb
    ·rcases cy.1 hr with hr|hr
     ·exact⟨(a9 r hr).1,fun b h=>(a9 r hr).2 b (b10 b r h)⟩
     ·obtain⟨⟨b,hb⟩,h2⟩:=b9 r hr
      exact⟨⟨b,a10 b r hb⟩,h2⟩
   ·cases h
  ·cases h
theorem Wt:∀{sg:Aa} {σ:Sit} (_:Ok base S0 σ) {args args':List SV} {mem':Ai},BF σ.mem sg args=(args',mem') ->
  ∃σ':Sit,σ'.mem=mem'/\σ'.w=σ.w/\σ'.E=σ.E/\Ok base S0 σ'/\Goes σ σ'/\∀ys,All2 (BH σ) args ys->All2 (BH σ') args' ys
 | [],σ,ho,args,args',mem',h=>by
  simp only[BF]at h;cases h
  exact⟨σ,rfl,rfl,rfl,ho,Goes.refl σ,fun _ h=>h⟩
 |_::_,σ,ho,[],args',mem',h=>by
  simp only[BF]at h;cases h
  exact⟨σ,rfl,rfl,rfl,ho,Goes.refl σ,fun _ h=>h⟩
 |(a,τ)::sg,σ,ho,z::args,args',mem',h=>by
  simp only[BF]at h
  cases hb:LN a τ with
  |true=>
   rw[hb]at h
   simp only[cond_true]at h
   cases e:BF σ.mem sg args with
   |mk r' m' =>
    rw[e]at h;simp only at h;cases h
    obtain⟨σ1,a1,a2,a3,a4,a5,a6⟩:=Wt ho e
    exact⟨σ1,a1,a2,a3,a4,a5,fun ys hy=>by
     cases hy with
     |cons h1 h2=>exact .cons (a5.repV h1) (a6 _ h2)⟩
  |false=>
   rw[hb]at h
   simp only[cond_false]at h
   cases e1:FZ σ.mem z with
   |mk z' m1=>
    rw[e1]at h;simp only at h
    obtain⟨σ1,a1,a2,a3,a4,a5,a6⟩:=aOa ho e1
    cases e2:BF m1 sg args with
    |mk r' m' =>
     rw[e2]at h;simp only at h;cases h
     rw[←a1]at e2
     obtain⟨σ2,b1,b2,b3,b4,b5,b6⟩:=Wt a4 e2
     refine⟨σ2,b1,b2.trans a2,b3.trans a3,b4,a5.trans b5,fun ys hy=>?_⟩
     cases hy with
     |cons h1 h2=>exact .cons (b5.repV (a6 _ h1)) (b6 _ (h2.mono fun _ _=>a5.repV))
def ET(base:Base)(σ:Sit)(r:Nat):Prop:=base.new r/\r<σ.w.heap.size/\¬σ.S r/\∀b,¬σ.owned b r
theorem aON(ho:Ok base S0 σ){τ:Shape}{xs:List (Ab τ)}{y:Value}{rs:List Nat}(h:Gn σ.w σ.S τ xs y rs)(hl:∀r∈rs,ET base σ r):
  ∃σ':Sit,σ'.mem=σ.mem++[.arr τ xs]/\σ'.w=σ.w/\σ'.S=σ.S/\Ok base S0 σ'/\Goes σ σ'/\AB σ' (.own σ.mem.length) y/\∀b r,σ'.owned b r->σ.owned b r∨r∈rs:=by
 obtain⟨k,h1,h2,h3⟩:=h;have main:∀(A:Option Nat),y=.slice (A.map fun r=>⟨r,0,none⟩) xs.length k->(∀r,A=some r->r∈rs)->((A=none/\k=0)∨∃r vs T,A=some r/\σ.w.heap[r]? = some (.cells vs T (0,0))/\vs.size=k*τ.width/\Rows σ.w σ.S τ vs 0 xs) ->
   ∃σ':Sit,σ'.mem=σ.mem++[.arr τ xs]/\σ'.w=σ.w/\σ'.S=σ.S/\Ok base S0 σ'/\Goes σ σ'/\AB σ' (.own σ.mem.length) y/\∀b r,σ'.owned b r->σ.owned b r∨r∈rs:=fun A hy hA hc=>by
  let σ':Sit:={E:=⟨AI σ.E.β σ.mem.length A,AI σ.E.κ σ.mem.length k⟩,mem:=σ.mem++[.arr τ xs],w:=σ.w,S:=σ.S}
  have hblk:Ac σ'.mem σ.mem.length=.arr τ xs:=Jd;have hold:∀b r,b≠σ.mem.length->σ'.owned b r->σ.owned b r:=fun b r hne ⟨g1,g2⟩=>by
   rcases ay b σ.mem.length with hb|hb
   ·simp only[σ']at g1 g2;rw[HE hb]at g1;exact⟨g1,by simpa[AI,hne]using g2⟩
   ·simp only[σ']at g1;rw[UN (by omega)]at g1;exact g1.elim
  have hnew:∀r,σ'.owned σ.mem.length r->A=some r:=fun r ⟨_,g2⟩=>by simpa[σ',AI]using g2
  have hg:Goes σ σ':=⟨fun _ h=>h,fun _ _=>rfl,by simp[σ'],fun b hb=>BP.refl (HE hb) (by simp[σ',AI];omega) (by simp[σ',AI];omega)⟩
  refine⟨σ',rfl,rfl,rfl,⟨ho.below,ho.stab0,ho.stab,fun b=>?_,fun b r h=>?_,fun b b' r h h'=>?_⟩,hg,⟨by simp[σ'],by rw[hy];trivial,?_⟩,fun b r h=>?_⟩
  ·by_cases hb:b=σ.mem.length
   ·subst hb;unfold AE;rw[hblk];refine⟨by simpa[σ',AI]using h1,by simpa[σ',AI]using h2,?_⟩;rcases hc with⟨g1,g2⟩|⟨r,vs,T,g1,g2,g3,g4⟩
    ·exact .inl ⟨by simp[σ',AI,g1],by simp[σ',AI,g2]⟩
    ·exact .inr ⟨r,vs,T,by simp[σ',AI,g1],g2,by simpa[σ',AI]using g3,g4⟩
   ·rcases ay b σ.mem.length with h' | h'
    ·exact AE.keep hg (HE h') (by simp[σ',AI,hb]) (by simp[σ',AI,hb]) (fun _ _=>rfl) (ho.ent b)
    ·unfold AE;simp only[σ'];rw[UN (by omega)];trivial
  ·by_cases hb:b=σ.mem.length
   ·subst hb;have:=hl r (hA r (hnew r h));exact⟨this.1,this.2.1,this.2.2.1⟩
   ·exact ho.own b r (hold b r hb h)
  ·by_cases hb:b=σ.mem.length<;>by_cases hb':b'=σ.mem.length
   ·rw[hb,hb']
   ·subst hb;exact((hl r (hA r (hnew r h))).2.2.2 b' (hold b' r hb' h')).elim
   ·subst hb';exact((hl r (hA r (hnew r h'))).2.2.2 b (hold b r hb h)).elim
   ·exact ho.inj b b' r (hold b r hb h) (hold b' r hb' h')
  ·rw[hblk];simp only[σ',AI,if_true];exact hy
  ·by_cases hb:b=σ.mem.length
   ·subst hb;exact .inr (hA r (hnew r h))
   ·exact .inl (hold b r hb h)
 rcases h3 with⟨g1,g2,g3⟩|⟨r,vs,T,g1,g2,g3,g4,g5⟩
 ·exact main none g1 (fun r h=>by cases h) (.inl ⟨rfl,g2⟩)
 ·subst g2;exact main (some r) g1 (fun r' h=>by cases h;simp) (.inr ⟨r,vs,T,rfl,g3,g4,g5⟩)
theorem bA4(ho:Ok base S0 σ){a:Bool}{τ:Shape}{x:Ab τ}{y:Value}{rs:List Nat}(h:Gd σ.w σ.S a τ x y rs)(hl:∀r∈rs,ET base σ r){v:SV}{mem':Ai}(hg:DV σ.mem a τ x=some (v,mem')):
  ∃σ':Sit,σ'.mem=mem'/\σ'.w=σ.w/\σ'.S=σ.S/\Ok base S0 σ'/\Goes σ σ'/\BH σ' v y/\∀b r,σ'.owned b r->σ.owned b r∨r∈rs:=by
 have plain:∀{a:Bool} {τ:Shape} {x:Ab τ},D4 σ.w σ.S a τ x y->DV.giveP σ.mem a τ x=some (v,mem')->∃σ':Sit,σ'.mem=mem'/\σ'.w=σ.w/\σ'.S=σ.S/\Ok base S0 σ'/\Goes σ σ'/\BH σ' v y/\∀b r,σ'.owned b r->σ.owned b r∨r∈rs:=fun {a τ x} hp e=>by
  unfold DV.giveP at e;cases a with
  |true=>
   simp only[cond_true,ae]at e;cases e;obtain⟨cs,h4,h5⟩:=hp;exact⟨σ,rfl,rfl,rfl,ho,Goes.refl σ,⟨cs,h4,OM h5⟩,fun _ _ h=>.inl h⟩
  |false=>
   simp only[cond_false]at e;split at e
   ·rename_i c ec;cases e;have:=OM (σ:=σ) hp;rw[ec]at this;cases this with
    |cons h _=>exact⟨σ,rfl,rfl,rfl,ho,Goes.refl σ,h,fun _ _ h=>.inl h⟩
   ·cases e
 cases τ with
 |slice e=>
  cases a with
  |true=>
   simp only[DV,cond_true,ae]at hg;cases hg;exact aON ho h hl
  |false=>exact plain h.2 hg
 |_=>exact plain h.2 hg
theorem j1:∀{sg:Aa} {σ:Sit} (_:Ok base S0 σ) {x:DenS sg} {ys:List Value} {rs:List Nat} (_:Cz σ.w σ.S sg x ys rs) (_:rs.Nodup) (_:∀r∈rs,ET base σ r) {vs:List SV} {mem':Ai},CE σ.mem sg x=some (vs,mem') ->
  ∃σ':Sit,σ'.mem=mem'/\σ'.w=σ.w/\σ'.S=σ.S/\Ok base S0 σ'/\Goes σ σ'/\All2 (BH σ') vs ys
 | [],σ,ho,x,ys,rs,h,_,_,vs,mem',e=>by
  simp only[CE]at e;cases e
  obtain⟨rfl,_⟩:=h
  exact⟨σ,rfl,rfl,rfl,ho,Goes.refl σ,.nil⟩
 |(a,τ)::sg,σ,ho,x,ys,rs,h,hn,hl,vs,mem',e=>by
  simp only[CE]at e
  obtain⟨y,ys',r1,r2,rfl,rfl,h1,h2⟩:=h
  split at e
  ·rename_i v m1 e1
   split at e
   ·rename_i r m2 e2
    cases e
    obtain⟨n1,n2,n3⟩:=kb.1 hn
    obtain⟨σ1,a1,a2,a3,a4,a5,a6,a7⟩:=bA4 ho h1 (fun r hr=>hl r (cy.2 (.inl hr))) e1
    rw[←a1]at e2
    rw[←a2,←a3]at h2
    obtain⟨σ2,b1,b2,b3,b4,b5,b6⟩:=j1 a4 h2 n2 (fun r hr=>by
     obtain⟨l1,l2,l3,l4⟩:=hl r (cy.2 (.inr hr))
     refine⟨l1,by rw[a2];exact l2,by rw[a3];exact l3,fun b hb=>?_⟩
     rcases a7 b r hb with g|g
     ·exact l4 b g
     ·exact n3 r g r hr rfl) e2
    exact⟨σ2,b1,b2.trans a2,b3.trans a3,b4,a5.trans b5,.cons (b5.repV a6) b6⟩
   ·cases e
  ·cases e
theorem bJw(ho:Ok base S0 σ){a:Bool}{τ:Shape}{z:SV}{x:Ab τ}{mem':Ai}(h:JB σ.mem a τ z=some (x,mem')):
  ∃σ':Sit,σ'.mem=mem'/\σ'.w=σ.w/\Ok base S0 σ'/\Goes σ σ'/\mem'.length=σ.mem.length:=by
 have plain:∀{a:Bool} {τ:Shape} {x:Ab τ},Ef σ.mem a τ z=some (x,mem')->mem'=σ.mem:=fun {a τ x} h=>by
  unfold Ef at h;cases z<;>cases a<;>simp only[cond_true,cond_false]at h<;>first|(cases h;done)|skip
  ·split at h
   ·cases h;rfl
   ·cases h
  ·split at h
   ·cases h;rfl
   ·cases h
 have same:mem'=σ.mem->∃σ':Sit,σ'.mem=mem'/\σ'.w=σ.w/\Ok base S0 σ'/\Goes σ σ'/\mem'.length=σ.mem.length:=fun e=>⟨σ,e.symm,rfl,ho,Goes.refl σ,by rw[e]⟩
 have gone:∀{b:Nat} {τ:Shape} {xs:List (Ab τ)},Ac σ.mem b=.arr τ xs∨Ac σ.mem b=.acc τ xs->mem'=σ.mem.set b .gone->∃σ':Sit,σ'.mem=mem'/\σ'.w=σ.w/\Ok base S0 σ'/\Goes σ σ'/\mem'.length=σ.mem.length:=fun {b τ xs} he e=>by
  have hy:AB σ (.own b) (.slice ((σ.E.β b).map fun r=>⟨r,0,none⟩) xs.length (σ.E.κ b)):=by
   refine⟨DI (by rcases he with h|h<;>rw[h]<;>simp),trivial,?_⟩;rcases he with h|h
   ·rw[h]
   ·rw[h]
  obtain⟨σ',rs,a1,a2,a3,a4,a5,a6,_⟩:=ZQ ho he hy;exact⟨σ',a1.trans e.symm,a2,a5,a6,by rw[e];simp⟩
 cases τ with
 |slice e=>
  cases a with
  |false=>exact same (plain h)
  |true=>
   simp only[JB,cond_true]at h;split at h
   ·split at h
    ·rename_i eb;split at h
     ·cases h;exact gone (.inl eb) rfl
     ·cases h
    ·rename_i eb;split at h
     ·cases h;exact gone (.inr eb) rfl
     ·cases h
    ·cases h
   ·cases h;exact same rfl
   ·cases h
 |_=>exact same (plain h)
theorem aTe:∀{sg:Aa} {σ:Sit} (_:Ok base S0 σ) {args:List SV} {x:DenS sg} {mem':Ai},CH σ.mem sg args=some (x,mem')->∃σ':Sit,σ'.mem=mem'/\σ'.w=σ.w/\Ok base S0 σ'/\Goes σ σ'/\mem'.length=σ.mem.length
 | [],σ,ho,[],x,mem',h=>by simp only[CH]at h;cases h;exact⟨σ,rfl,rfl,ho,Goes.refl σ,rfl⟩
 | [],σ,ho,_::_,x,mem',h=>by simp[CH]at h
 |_::_,σ,ho,[],x,mem',h=>by simp[CH]at h
 |(a,τ)::sg,σ,ho,z::args,x,mem',h=>by
  simp only[CH]at h
  split at h
  ·rename_i u m1 e1
   split at h
   ·rename_i v m2 e2
    cases h
    obtain⟨σ1,a1,a2,a3,a4,a5⟩:=bJw ho e1
    rw[←a1]at e2
    obtain⟨σ2,b1,b2,b3,b4,b5⟩:=aTe a3 e2
    exact⟨σ2,b1,b2.trans a2,b3,a4.trans b4,by rw[b5,a1,a5]⟩
   ·cases h
  ·cases h
theorem aNb:∀{l:List (Nat×Nat)} {mem m:Ai} {ns:List Nat},Je mem l=some (ns,m)->m.length=mem.length
 | [],mem,m,ns,h=>by simp only[Je]at h;cases h;rfl
 |(b,off+1)::l,mem,m,ns,h=>by simp[Je]at h
 |(b,0)::l,mem,m,ns,h=>by
  simp only[Je]at h
  split at h
  ·split at h
   ·rename_i e2
    cases h
    rw[aNb e2]
    simp
   ·cases h
  ·cases h
theorem aZ6:∀{sg:Aa} {mem:Ai} {args args':List SV} {mem':Ai},BF mem sg args=(args',mem')->mem'.length=mem.length:=by
 have h1:∀(mem:Ai) (c:SC),(Dm mem c).2.length=mem.length:=fun mem c=>by
  unfold Dm;split
  ·split
   ·rename_i e;exact aNb e
   ·rfl
  ·split<;>simp
  ·rfl
 have h2:∀(l:List SC) (mem:Ai),(E9 mem l).2.length=mem.length:=fun l=>by
  induction l with
  |nil=>intro mem;rfl
  |cons c r ih=>intro mem;simp only[E9];rw[ih,h1]
 have h3:∀(mem:Ai) (z:SV),(FZ mem z).2.length=mem.length:=fun mem z=>by
  cases z with
  |one c=>simp only[FZ];exact h1 mem c
  |agg cs=>simp only[FZ];exact h2 cs mem
 intro sg;induction sg with
 |nil=>intro mem args args' mem' h;simp only[BF]at h;cases h;rfl
 |cons p sg ih=>
  intro mem args args' mem' h;obtain⟨a,τ⟩:=p;cases args with
  |nil=>simp only[BF]at h;cases h;rfl
  |cons z r=>
   simp only[BF]at h;cases hb:LN a τ with
   |true=>
    rw[hb]at h;simp only[cond_true]at h;cases e:BF mem sg r with
    |mk r' m'=>rw[e]at h;simp only at h;cases h;exact ih e
   |false=>
    rw[hb]at h;simp only[cond_false]at h;cases e:BF (FZ mem z).2 sg r with
    |mk r' m'=>rw[e]at h;simp only at h;cases h;rw[ih e,h3]
theorem aEp:∀{sg:Aa} {mem:Ai} {x:DenS sg} {vs:List SV} {mem':Ai},CE mem sg x=some (vs,mem')->∃l,mem'=mem++l
 | [],mem,x,vs,mem',h=>by simp only[CE]at h;cases h;exact⟨[],by simp⟩
 |(a,τ)::sg,mem,x,vs,mem',h=>by
  simp only[CE]at h
  split at h
  ·rename_i v m1 e1
   split at h
   ·rename_i r m2 e2
    cases h
    obtain⟨l2,h2⟩:=aEp e2
    have plain:∀{τ:Shape} {y:Ab τ},DV.giveP mem a τ y=some (v,m1)->m1=mem:=fun {τ y} h=>by
     unfold DV.giveP at h
     cases a with
     |true=>simp only[cond_true]at h;cases h;rfl
     |false=>
      simp only[cond_false]at h
      split at h
      ·cases h;rfl
      ·cases h
    have h1:∃l,m1=mem++l:=by
     cases τ with
     |slice e=>
      simp only[DV]at e1
      cases a with
      |true=>simp only[cond_true]at e1;cases e1;exact⟨_,rfl⟩
      |false=>
       simp only[cond_false]at e1
       split at e1
       ·cases e1;exact⟨[],by simp⟩
       ·cases e1
     |_=>exact⟨[],by rw[dl];exact plain e1⟩
    obtain⟨l1,h1⟩:=h1
    exact⟨l1++l2,by rw[h2,h1,fg]⟩
   ·cases h
  ·cases h
theorem aEq{sg:Aa}{mem:Ai}{x:DenS sg}{vs:List SV}{mem':Ai}(h:CE mem sg x=some (vs,mem'))(hl:mem'.length=mem.length):mem'=mem:=by
 obtain⟨l,rfl⟩:=aEp h;have:l=[]:=cr (by rw[ff]at hl;omega);rw[this,dl]
end Vx
namespace Vx
open Go Go.RowKit
def Vo(w:World)(S:Nat->Prop):(k:LK)->k.D->Value->Value->List Nat->Prop
 |.win e,x,y,y0,rs=>Gn w S e x.1 y0 rs/\x.2.1+x.2.2<=x.1.length/\∃A c,y=.slice A x.2.2 c/\x.2.2<=c/\c<B0 /\
   (0<x.2.2->∃r k,y0=.slice (some ⟨r,0,none⟩) x.1.length k/\A=some ⟨r,x.2.1*e.width,none⟩)
 |.ref τ,x,y,y0,rs=>y0=y/\∃r vs T,y=.pointer (some ⟨r,0,none⟩)/\rs=[r]/\w.heap[r]? = some (.cells vs T (0,0))/\Bf w S τ x vs.toList
def LY(w:World)(S:Nat->Prop):(k:LK)->k.B->Value->List Nat->Prop
 |.win e,xs,y0,rs=>Gn w S e xs y0 rs
 |.ref τ,x,y0,rs=>∃r vs T,y0=.pointer (some ⟨r,0,none⟩)/\rs=[r]/\w.heap[r]? = some (.cells vs T (0,0))/\Bf w S τ x vs.toList
theorem Gn.mono{w w':World}{S S':Nat->Prop}(hS:∀r,S r->S' r)(hH:∀r,S r->w'.heap[r]? = w.heap[r]?){e:Shape}{xs:List (Ab e)}{y:Value}{rs:List Nat}(hR:∀r∈rs,w'.heap[r]? = w.heap[r]?)(h:Gn w S e xs y rs):Gn w' S' e xs y rs:=by
 obtain⟨k,h1,h2,h3⟩:=h;refine⟨k,h1,h2,?_⟩;rcases h3 with h3|⟨r,vs,T,h4,rfl,h5,h6,h7⟩
 ·exact .inl h3
 ·exact .inr ⟨r,vs,T,h4,rfl,(hR r (by simp)).trans h5,h6,h7.mono hS hH⟩
theorem Vo.mono{w w':World}{S S':Nat->Prop}(hS:∀r,S r->S' r)(hH:∀r,S r->w'.heap[r]? = w.heap[r]?){k:LK}{x:k.D}{y y0:Value}{rs:List Nat}(hR:∀r∈rs,w'.heap[r]? = w.heap[r]?)(h:Vo w S k x y y0 rs):Vo w' S' k x y y0 rs:=by
 cases k with
 |win e=>exact⟨h.1.mono hS hH hR,h.2⟩
 |ref τ=>
  obtain⟨h1,r,vs,T,h2,rfl,h3,h4⟩:=h;exact⟨h1,r,vs,T,h2,rfl,(hR r (by simp)).trans h3,h4.mono hS hH⟩
theorem LY.mono{w:World}{S S':Nat->Prop}(hS:∀r,S r->S' r){k:LK}{x:k.B}{y0:Value}{rs:List Nat}(h:LY w S k x y0 rs):LY w S' k x y0 rs:=by
 cases k with
 |win e=>exact Gn.mono hS (fun _ _=>rfl) (fun _ _=>rfl) h
 |ref τ=>
  obtain⟨r,vs,T,h2,h2',h3,h4⟩:=h;exact⟨r,vs,T,h2,h2',h3,h4.mono hS (fun _ _=>rfl)⟩
def Was(σ:Sit)(k:LK)(b:Nat)(y0:Value):Prop:=
 b<σ.mem.length/\match k with
  |.win e=>∃xs:List (Ab e),Ac σ.mem b=.arr e xs/\y0=.slice ((σ.E.β b).map fun r=>⟨r,0,none⟩) xs.length (σ.E.κ b)
  |.ref _=>∃cs r,Ac σ.mem b=.raw cs/\σ.E.β b=some r/\y0=.pointer (some ⟨r,0,none⟩)
variable {base:Base}{S0:Nat->Prop}{σ:Sit}
theorem aML{α β:Type}{R R':α->β->Prop}:∀{as:List α} {bs:List β},All2 R as bs->(∀a b,a∈as->R a b->R' a b)->All2 R' as bs
 |_,_,.nil,_=>.nil
 |_,_,.cons h t,hR=>.cons (hR _ _ (by simp) h) (aML t fun a b ha=>hR a b (by simp[ha]))
theorem BP.same{σ σ' σ'':Sit}{b:Nat}(h:BP σ σ' b)(hm:Ac σ''.mem b=Ac σ'.mem b)(hβ:σ''.E.β b=σ'.E.β b)(hκ:σ''.E.κ b=σ'.E.κ b)(hw:σ''.w=σ'.w)(hS:σ''.S=σ'.S):BP σ σ'' b:=by
 unfold BP at h⊢;cases e:Ac σ.mem b with
 |gone=>rw[e]at h;simp only at h⊢;rw[hm];exact h
 |raw cs=>rw[e]at h;simp only at h⊢;rw[hm,hβ];exact h
 |arr τ xs=>rw[e]at h;simp only at h⊢;rw[hm,hβ,hκ,hw,hS];exact h
 |acc τ xs=>rw[e]at h;simp only at h⊢;rw[hm,hβ,hκ,hw,hS];exact h
 |froz τ xs=>rw[e]at h;simp only at h⊢;rw[hm];exact h
 |itr s p=>rw[e]at h;simp only at h⊢;rw[hm,hβ];exact h
theorem bBn(ho:Ok base S0 σ){b:Nat}{cs:List SC}(he:Ac σ.mem b=.raw cs):
  ∃σ':Sit,σ'.mem=σ.mem.set b .gone/\σ'.w=σ.w/\σ'.E=σ.E/\σ'.S=σ.S/\Ok base S0 σ'/\Goes σ σ'/\(∀r,σ.E.β b=some r->∀b,¬σ'.owned b r)/\∀b r,σ'.owned b r->σ.owned b r:=by
 have hlt:b<σ.mem.length:=DI (by rw[he];simp);have hset:∀b',Ac (σ.mem.set b .gone) b'=if b'=b then .gone else Ac σ.mem b':=fun b'=>Cf hlt;have hold:∀b' r,Sit.owned ⟨σ.E,σ.mem.set b .gone,σ.w,σ.S⟩ b' r->σ.owned b' r/\b'≠b:=fun b' r ⟨h1,h2⟩=>by
  simp only at h1;rw[hset]at h1;split at h1
  ·exact h1.elim
  ·rename_i hne;exact⟨⟨h1,h2⟩,hne⟩
 have hg:Goes σ ⟨σ.E,σ.mem.set b .gone,σ.w,σ.S⟩:=by
  refine⟨fun _ h=>h,fun _ _=>rfl,by simp,fun b' hb'=>?_⟩;by_cases hbb:b'=b
  ·subst hbb;unfold BP;rw[he];exact .inr (by rw[hset,if_pos rfl])
  ·exact BP.refl (by simp only;rw[hset,if_neg hbb]) rfl rfl
 refine⟨⟨σ.E,σ.mem.set b .gone,σ.w,σ.S⟩,rfl,rfl,rfl,rfl,?_,hg,fun r hr b' h=>?_,fun b' r h=>(hold b' r h).1⟩
 ·refine⟨ho.below,ho.stab0,ho.stab,fun b'=>?_,fun b' r h=>ho.own b' r (hold b' r h).1,fun b1 b2 r h1 h2=>ho.inj b1 b2 r (hold b1 r h1).1 (hold b2 r h2).1⟩;by_cases hbb:b'=b
  ·subst hbb;unfold AE;simp only;rw[hset,if_pos rfl];trivial
  ·exact AE.keep hg (by simp only;rw[hset,if_neg hbb]) rfl rfl (fun _ _=>rfl) (ho.ent b')
 ·exact(hold b' r h).2 (ho.inj b' b r (hold b' r h).1 ⟨by rw[he];trivial,hr⟩)
theorem aQX(ho:Ok base S0 σ)(k:LK)(z:SV):∃σ':Sit,σ'.mem=LS σ.mem k z/\σ'.w=σ.w/\σ'.E=σ.E/\Ok base S0 σ'/\Goes σ σ':=by
 have same:∃σ':Sit,σ'.mem=σ.mem/\σ'.w=σ.w/\σ'.E=σ.E/\Ok base S0 σ'/\Goes σ σ':=⟨σ,rfl,rfl,rfl,ho,Goes.refl σ⟩
 cases k with
 |win e=>exact same
 |ref τ=>
  simp only[LS];split
  ·rename_i b;split
   ·rename_i cs eb;cases hf:E9 σ.mem cs with
    |mk cs' m1=>
     simp only;obtain⟨σ1,a1,a2,a3,a4,a5,a6⟩:=jO ho hf;have hlt:b<σ.mem.length:=DI (by rw[eb];simp);split;case h_2=>exact same
     rename_i cs1 hraw;rw[←a1]at hraw;have hlt1:b<σ1.mem.length:=DI (by rw[hraw];simp);have he:=ho.ent b;unfold AE at he;rw[eb]at he;obtain⟨r,vs,T,h1,h2,h3⟩:=he;have hset:∀b',Ac (σ1.mem.set b (.raw cs')) b'=if b'=b then .raw cs' else Ac σ1.mem b':=fun b'=>Cf hlt1;have hg:Goes σ1 ⟨σ1.E,σ1.mem.set b (.raw cs'),σ1.w,σ1.S⟩:=by
      refine⟨fun _ h=>h,fun _ _=>rfl,by simp,fun b' hb'=>?_⟩;by_cases hbb:b'=b
      ·subst hbb;unfold BP;rw[hraw];exact .inl ⟨rfl,cs',by rw[hset,if_pos rfl]⟩
      ·exact BP.refl (by simp only;rw[hset,if_neg hbb]) rfl rfl
     have hold:∀b' r,Sit.owned ⟨σ1.E,σ1.mem.set b (.raw cs'),σ1.w,σ1.S⟩ b' r->σ1.owned b' r:=fun b' r ⟨g1,g2⟩=>by
      simp only at g1;rw[hset]at g1;split at g1
      ·rename_i hbb;exact⟨by rw[hbb,hraw];trivial,g2⟩
      ·exact⟨g1,g2⟩
     refine⟨⟨σ1.E,σ1.mem.set b (.raw cs'),σ1.w,σ1.S⟩,by rw[a1],a2,a3,⟨a4.below,a4.stab0,a4.stab,fun b'=>?_,fun b' r h=>a4.own b' r (hold b' r h),fun b1 b2 r h1 h2=>a4.inj b1 b2 r (hold b1 r h1) (hold b2 r h2)⟩,a5.trans hg⟩;by_cases hbb:b'=b
     ·subst hbb;unfold AE;simp only;rw[hset,if_pos rfl];exact⟨r,vs,T,by rw[a3];exact h1,by rw[a2];exact h2,(a6 _ h3).mono fun _ _=>hg.repC⟩
     ·exact AE.keep hg (by simp only;rw[hset,if_neg hbb]) rfl rfl (fun _ _=>rfl) (a4.ent b')
   ·exact same
  ·exact same
theorem bBl(ho:Ok base S0 σ){k:LK}{z:SV}{y:Value}(hz:BH σ z y){b:Nat}{x:k.D}{mem':Ai}(h:WC σ.mem k z=some (b,x,mem')):
  ∃(σ':Sit) (rs:List Nat) (y0:Value),σ'.mem=mem'/\σ'.w=σ.w/\σ'.S=σ.S/\Ok base S0 σ'/\Goes σ σ'/\Vo σ'.w σ'.S k x y y0 rs/\rs.Nodup/\(∀r∈rs,ET base σ' r)/\Was σ k b y0/\Ac σ'.mem b=.gone/\(∀r∈rs,∃b,σ.owned b r)/\(∀b r,σ'.owned b r->σ.owned b r)/\σ'.E=σ.E/\mem'=σ.mem.set b .gone:=by
 have row:∀{τ:Shape} {xs:List (Ab τ)} {b:Nat},Ac σ.mem b=.arr τ xs ->
   ∃(σ':Sit) (rs:List Nat),σ'.mem=σ.mem.set b .gone/\σ'.w=σ.w/\σ'.S=σ.S/\Ok base S0 σ'/\Goes σ σ'/\Gn σ'.w σ'.S τ xs (.slice ((σ.E.β b).map fun r=>⟨r,0,none⟩) xs.length (σ.E.κ b)) rs/\rs.Nodup/\(∀r∈rs,ET base σ' r)/\Ac σ'.mem b=.gone/\(∀r∈rs,∃b,σ.owned b r)/\(∀b r,σ'.owned b r->σ.owned b r)/\σ'.E=σ.E:=fun {τ xs b} eb=>by
  have hlt:b<σ.mem.length:=DI (by rw[eb];simp);obtain⟨σ',rs,a1,a2,a3,a4,a5,a6,a7,a8,a9,a10⟩:=ZQ ho (.inl eb) (y:=.slice ((σ.E.β b).map fun r=>⟨r,0,none⟩) xs.length (σ.E.κ b)) ⟨hlt,trivial,by rw[eb]⟩;refine⟨σ',rs,a1,a2,a4,a5,a6,by rw[a2,a4];exact a7,a8,fun r hr=>?_,by rw[a1,Cf hlt,if_pos rfl],fun r hr=>(a9 r hr).1,a10,a3⟩;obtain⟨⟨b',hb'⟩,hn⟩:=a9 r hr;have:=ho.own b' r hb';exact⟨this.1,by rw[a2];exact this.2.1,by rw[a4];exact this.2.2,hn⟩
 cases k with
 |win e=>
  simp only[WC]at h;split at h
  ·rename_i b' lo len;split at h
   ·rename_i τ xs eb;split at h
    ·rename_i xs' ec;simp only[ae,cw]at h;obtain⟨rfl,rfl,rfl⟩:=h;obtain⟨hττ,hxs⟩:=Jf ec;subst hττ;simp only at hxs;subst hxs;obtain⟨σ',rs,a1,a2,a2',a3,a4,a5,a6,a7,a8,a9,a10,a11⟩:=row eb;obtain⟨hlt,_,hm⟩:=hz;rw[eb]at hm;obtain⟨q1,A,c,hy,q2,q3,q4⟩:=hm;refine⟨σ',rs,_,a1,a2,a2',a3,a4,⟨a5,q1,A,c,hy,q2,q3,fun hn=>?_⟩,a6,a7,⟨hlt,_,eb,rfl⟩,a8,a9,a10,a11,rfl⟩;obtain⟨r,hr,hA⟩:=q4 hn;exact⟨r,_,by rw[hr];rfl,hA⟩
    ·cases h
   ·cases h
  ·rename_i b';split at h
   ·rename_i τ xs eb;split at h
    ·rename_i xs' ec;simp only[ae,cw]at h;obtain⟨rfl,rfl,rfl⟩:=h;obtain⟨hττ,hxs⟩:=Jf ec;subst hττ;simp only at hxs;subst hxs;obtain⟨σ',rs,a1,a2,a2',a3,a4,a5,a6,a7,a8,a9,a10,a11⟩:=row eb;obtain⟨hlt,_,hm⟩:=hz;rw[eb]at hm;have he:=ho.ent b';unfold AE at he;rw[eb]at he;obtain⟨q1,q2,_⟩:=he;refine⟨σ',rs,_,a1,a2,a2',a3,a4,⟨a5,by simp,_,_,hm,q1,q2,fun hn=>?_⟩,a6,a7,⟨hlt,_,eb,rfl⟩,a8,a9,a10,a11,rfl⟩;obtain⟨r,hβ⟩:=aDm (ho.ent b') eb hn;exact⟨r,_,by rw[hβ];rfl,by rw[hβ];simp⟩
    ·cases h
   ·cases h
  ·cases h
 |ref τ=>
  simp only[WC]at h;split at h
  ·rename_i b';split at h
   ·rename_i cs eb;split at h
    ·rename_i x' ep;simp only[ae,cw]at h;obtain⟨rfl,rfl,rfl⟩:=h;obtain⟨hlt,_,hm⟩:=hz;rw[eb]at hm;obtain⟨r,hβ,hy⟩:=hm;have he:=ho.ent b';unfold AE at he;rw[eb]at he;obtain⟨r',vs,T,h1,h2,h3⟩:=he;rw[hβ]at h1;cases h1;obtain⟨y1,y2,hyy,p1,p2⟩:=Pa h3 ep;cases p2;rw[dl]at hyy;obtain⟨σ2,b1,b2,b3,b4,b5,b6,b7,b8⟩:=bBn ho eb;have hown:=ho.own b' r ⟨by rw[eb];trivial,hβ⟩;refine⟨σ2,[r],_,b1,b2,b4,b5,b6,⟨rfl,r,vs,T,hy,rfl,by rw[b2];exact h2,?_⟩,by simp,fun q hq=>?_,⟨hlt,cs,r,eb,hβ,hy⟩,?_,fun q hq=>?_,b8,b3,rfl⟩
     ·rw[b2,b4,hyy];exact p1
     ·simp at hq;subst hq;exact⟨hown.1,by rw[b2];exact hown.2.1,by rw[b4];exact hown.2.2,b7 q hβ⟩
     ·rw[b1,Cf hlt,if_pos rfl]
     ·simp at hq;subst hq;exact⟨b',by rw[eb];trivial,hβ⟩
    ·cases h
   ·cases h
  ·cases h
theorem bHN{σ σ':Sit}{b:Nat}(hw:σ'.w=σ.w)(hS:σ'.S=σ.S)(hlen:σ'.mem.length=σ.mem.length)(hoth:∀b',b'≠b->Ac σ'.mem b'=Ac σ.mem b'/\σ'.E.β b'=σ.E.β b'/\σ'.E.κ b'=σ.E.κ b'){c:SC}{y:Value}(hc:AB σ c y)(hn:ZT b c=false):AB σ' c y:=by
 have ne:∀{b':Nat},Nat.beq b' b=false->b'≠b:=fun h e=>by subst e;rw[dt]at h;cases h
 cases c with
 |undef=>exact hc
 |v x=>exact hc
 |fl k o=>exact hc
 |sl τ xs=>simp only[AB];rw[hw,hS];exact hc
 |own b' =>
  obtain⟨g1,g2,g3⟩:=hoth b' (ne hn);obtain⟨h1,h2,h3⟩:=hc;refine⟨by rw[hlen];exact h1,h2,?_⟩;rw[g1,g2,g3,hw,hS];exact h3
 |ptr b' off=>
  obtain⟨g1,g2,g3⟩:=hoth b' (ne hn);obtain⟨h1,h2,h3⟩:=hc;refine⟨by rw[hlen];exact h1,h2,?_⟩;rw[g1,g2];exact h3
 |eptr b' i off=>
  obtain⟨g1,g2,g3⟩:=hoth b' (ne hn);obtain⟨h1,h2,h3⟩:=hc;refine⟨by rw[hlen];exact h1,h2,?_⟩;rw[g1,g2];exact h3
 |sub b' lo n=>
  obtain⟨g1,g2,g3⟩:=hoth b' (ne hn);obtain⟨h1,h2,h3⟩:=hc;refine⟨by rw[hlen];exact h1,h2,?_⟩;rw[g1,g2];exact h3
 |iptr τ x off=>simp only[AB];rw[hw,hS];exact hc
 |gptr g=>exact hc
 |fnv o=>simp only[AB];rw[hw,hS];exact hc
 |ifv o=>simp only[AB];rw[hw,hS];exact hc
 |cx k x y=>exact hc
 |fn f caps=>
  have hne:∀p∈caps,p.1≠b:=fun p hp e=>by
   simp only[ZT,List.any_eq_false]at hn;have:=hn p hp;rw[e,dt]at this;exact this rfl
  obtain⟨h1,h2,h3⟩:=hc;refine⟨fun p hp=>by rw[hlen];exact h1 p hp,h2,?_⟩;rcases h3 with⟨p,hp,hq⟩|⟨rs,g1,g2⟩
  ·exact .inl ⟨p,hp,by rw[(hoth p.1 (hne p hp)).1];exact hq⟩
  ·refine .inr ⟨rs,?_,g2⟩;rw[←g1];exact List.map_congr_left fun p hp=>(hoth p.1 (hne p hp)).2.1
theorem aZZ{b:Nat}{mem:Ai}(h:aD5 b mem=true){b':Nat}{cs:List SC}(e:Ac mem b'=.raw cs):∀c∈cs,ZT b c=false:=fun c hc=>by
 unfold aD5 at h
 rw[mf]at h
 have hlt:b'<mem.length:=DI (by rw[e];simp)
 have hmem:(.raw cs:Blk)∈mem:=by
  unfold Ac at e
  rw[bq hlt]at e
  simp only[Option.getD_some]at e
  rw[←e];exact jn hlt
 have:=h _ hmem
 simp only[aN9,mf,fc]at this
 exact this c hc
theorem aFn(ho:Ok base S0 σ){b:Nat}(hlt:b<σ.mem.length)(hgone:Ac σ.mem b=.gone)(e:Blk)(A:Option Nat)(k:Nat)(hl:∀r,A=some r->ET base σ r)
  (hm:∀σ':Sit,σ'.mem=σ.mem.set b e->σ'.w=σ.w->σ'.S=σ.S->Ac σ'.mem b=e->σ'.E.β b=A->σ'.E.κ b=k->AE σ' b)
  (hraw:∀σ':Sit,σ'.mem=σ.mem.set b e->σ'.w=σ.w->σ'.S=σ.S->Ac σ'.mem b=e->σ'.E.β b=A->σ'.E.κ b=k->(∀b',b'≠b->Ac σ'.mem b'=Ac σ.mem b'/\σ'.E.β b'=σ.E.β b'/\σ'.E.κ b'=σ.E.κ b') ->
   ∀b' cs,b'≠b->Ac σ.mem b'=.raw cs->AE σ' b') :
  ∃σ':Sit,σ'.mem=σ.mem.set b e/\σ'.w=σ.w/\σ'.S=σ.S/\Ok base S0 σ'/\Ac σ'.mem b=e/\σ'.E.β b=A/\σ'.E.κ b=k/\(∀b',b'≠b->Ac σ'.mem b'=Ac σ.mem b'/\σ'.E.β b'=σ.E.β b'/\σ'.E.κ b'=σ.E.κ b') /\
   ∀b' r,σ'.owned b' r->σ.owned b' r∨A=some r:=by
 let σ':Sit:={E:=⟨AI σ.E.β b A,AI σ.E.κ b k⟩,mem:=σ.mem.set b e,w:=σ.w,S:=σ.S}
 have hset:∀b',Ac σ'.mem b'=if b'=b then e else Ac σ.mem b':=fun b'=>Cf hlt;have hself:Ac σ'.mem b=e:=by rw[hset,if_pos rfl]
 have hβ:σ'.E.β b=A:=by simp[σ',AI]
 have hκ:σ'.E.κ b=k:=by simp[σ',AI]
 have hoth:∀b',b'≠b->Ac σ'.mem b'=Ac σ.mem b'/\σ'.E.β b'=σ.E.β b'/\σ'.E.κ b'=σ.E.κ b':=fun b' hne=>⟨by rw[hset,if_neg hne],by simp[σ',AI,hne],by simp[σ',AI,hne]⟩
 have hold:∀b' r,b'≠b->σ'.owned b' r->σ.owned b' r:=fun b' r hne ⟨h1,h2⟩=>by
  obtain⟨g1,g2,_⟩:=hoth b' hne;rw[g1]at h1;exact⟨h1,g2.symm.trans h2⟩
 have hnew:∀r,σ'.owned b r->A=some r:=fun r ⟨_,h2⟩=>hβ.symm.trans h2;refine⟨σ',rfl,rfl,rfl,⟨ho.below,ho.stab0,ho.stab,fun b'=>?_,fun b' r h=>?_,fun b1 b2 r h1 h2=>?_⟩,hself,hβ,hκ,hoth,fun b' r h=>?_⟩
 ·by_cases hbb:b'=b
  ·subst hbb;exact hm σ' rfl rfl rfl hself hβ hκ
  ·obtain⟨g1,g2,g3⟩:=hoth b' hbb;have he:=ho.ent b';cases eb:Ac σ.mem b' with
   |gone=>unfold AE;rw[g1,eb];trivial
   |froz τ xs=>unfold AE;rw[g1,eb];trivial
   |itr s p=>unfold AE at he⊢;rw[g1,g2];rw[eb]at he⊢;exact he
   |arr τ xs=>unfold AE at he⊢;rw[g1,g2,g3];rw[eb]at he⊢;exact he
   |acc τ xs=>unfold AE at he⊢;rw[g1,g2,g3];rw[eb]at he⊢;exact he
   |raw cs=>exact hraw σ' rfl rfl rfl hself hβ hκ hoth b' cs hbb eb
 ·by_cases hbb:b'=b
  ·subst hbb;have:=hl r (hnew r h);exact⟨this.1,this.2.1,this.2.2.1⟩
  ·exact ho.own b' r (hold b' r hbb h)
 ·by_cases hb1:b1=b<;>by_cases hb2:b2=b
  ·rw[hb1,hb2]
  ·subst hb1;exact((hl r (hnew r h1)).2.2.2 b2 (hold b2 r hb2 h2)).elim
  ·subst hb2;exact((hl r (hnew r h2)).2.2.2 b1 (hold b1 r hb1 h1)).elim
  ·exact ho.inj b1 b2 r (hold b1 r hb1 h1) (hold b2 r hb2 h2)
 ·by_cases hbb:b'=b
  ·subst hbb;exact .inr (hnew r h)
  ·exact .inl (hold b' r hbb h)
theorem aQ0(ho:Ok base S0 σ){b:Nat}(hlt:b<σ.mem.length)(hgone:Ac σ.mem b=.gone)(hfree:aD5 b σ.mem=true)(e:Blk)(A:Option Nat)(k:Nat)(hl:∀r,A=some r->ET base σ r)
  (hm:∀σ':Sit,σ'.mem=σ.mem.set b e->σ'.w=σ.w->σ'.S=σ.S->Ac σ'.mem b=e->σ'.E.β b=A->σ'.E.κ b=k->AE σ' b) :
  ∃σ':Sit,σ'.mem=σ.mem.set b e/\σ'.w=σ.w/\σ'.S=σ.S/\Ok base S0 σ'/\Ac σ'.mem b=e/\σ'.E.β b=A/\σ'.E.κ b=k/\(∀b',b'≠b->Ac σ'.mem b'=Ac σ.mem b'/\σ'.E.β b'=σ.E.β b'/\σ'.E.κ b'=σ.E.κ b') /\
   ∀b' r,σ'.owned b' r->σ.owned b' r∨A=some r:=
 aFn ho hlt hgone e A k hl hm (fun σ' h1 h2 h3 h4 h5 h6 hoth b' cs hne eb=>by
  have he:=ho.ent b'
  obtain⟨g1,g2,_⟩:=hoth b' hne
  unfold AE at he⊢
  rw[eb]at he
  rw[g1,eb]
  obtain⟨r,vs,T,q1,q2,q3⟩:=he
  refine⟨r,vs,T,g2.trans q1,by rw[h2];exact q2,?_⟩
  have hcs:=aZZ hfree eb
  exact aML q3 fun c y hc hy=>bHN (σ:=σ) (σ':=σ') h2 h3 (by rw[h1];simp) hoth hy (hcs c hc))
theorem aYS{σ3:Sit}(ho:Ok base S0 σ3)(hg:Goes σ σ3){k:LK}{b:Nat}{y0:Value}(hw:Was σ k b y0)(hgone:Ac σ3.mem b=.gone)(hoσ:Ok base S0 σ)(hsame:∀b',b'≠b->Ac σ3.mem b'=Ac σ.mem b'/\σ3.E.β b'=σ.E.β b'/\σ3.E.κ b'=σ.E.κ b')(hheap:∀b' r,b'≠b->σ.owned b' r->σ3.w.heap[r]? = σ.w.heap[r]?){x:k.B}{rs:List Nat}(hb:LY σ3.w σ3.S k x y0 rs)(hl:∀r∈rs,ET base σ3 r):
  ∃σ4:Sit,σ4.mem=Wg σ3.mem b k x/\σ4.w=σ3.w/\σ4.S=σ3.S/\Ok base S0 σ4/\Goes σ σ4/\∀b' r,σ4.owned b' r->σ3.owned b' r∨r∈rs:=by
 have hlt:b<σ3.mem.length:=ao hw.1 hg.len;cases k with
 |win e=>
  obtain⟨k0,h1,h2,h3⟩:=hb;obtain⟨hltb,xs0,eb,hy0⟩:=hw;have main:∀A:Option Nat,y0=.slice (A.map fun r=>⟨r,0,none⟩) x.length k0->(∀r,A=some r->r∈rs)->((A=none/\k0=0)∨∃r vs T,A=some r/\σ3.w.heap[r]? = some (.cells vs T (0,0))/\vs.size=k0*e.width/\Rows σ3.w σ3.S e vs 0 x) ->
    ∃σ4:Sit,σ4.mem=Wg σ3.mem b (.win e) x/\σ4.w=σ3.w/\σ4.S=σ3.S/\Ok base S0 σ4/\Goes σ σ4/\∀b' r,σ4.owned b' r->σ3.owned b' r∨r∈rs:=fun A hy hA hc=>by
   have heq:A=σ.E.β b/\x.length=xs0.length/\k0=σ.E.κ b:=by
    rw[hy]at hy0;simp only[ra]at hy0;refine⟨?_,hy0.2⟩;have:=hy0.1;cases A<;>cases hbb:σ.E.β b<;>rw[hbb]at this<;>simp at this⊢;exact this
   have hgo:∀σ4:Sit,σ4.mem=σ3.mem.set b (.arr e x)->σ4.w=σ3.w->σ4.S=σ3.S->Ac σ4.mem b=.arr e x->σ4.E.β b=A->σ4.E.κ b=k0->(∀b',b'≠b->Ac σ4.mem b'=Ac σ3.mem b'/\σ4.E.β b'=σ3.E.β b'/\σ4.E.κ b'=σ3.E.κ b')->Goes σ σ4:=fun σ4 c1 c2 c3 c5 c6 c7 c8=>
    ⟨fun r hr=>by rw[c3];exact hg.stab r hr,fun r hr=>by rw[c2];exact hg.heap r hr,by rw[c1];simp;exact hg.len,fun b' hb'=>by
     by_cases hbb:b'=b
     ·subst hbb;unfold BP;rw[eb];exact .inl ⟨c6.trans heq.1,c7.trans heq.2.2,x,c5,heq.2.1⟩
     ·obtain⟨g1,g2,g3⟩:=c8 b' hbb;exact(hg.turns b' hb').same g1 g2 g3 c2 c3⟩
   obtain⟨σ4,c1,c2,c3,c4,c5,c6,c7,c8,c9⟩:=aFn ho hlt hgone (.arr e x) A k0 (fun r hr=>hl r (hA r hr)) (fun σ' m1 m2 m3 m4 m5 m6=>by
    unfold AE;rw[m4,m5,m6,m2,m3];exact⟨h1,h2,hc⟩) (fun σ' m1 m2 m3 m4 m5 m6 m7 b' cs hne _=>by
     obtain⟨q1,q2,q3⟩:=m7 b' hne;obtain⟨p1,p2,p3⟩:=hsame b' hne;exact AE.keep (hgo σ' m1 m2 m3 m4 m5 m6 m7) (q1.trans p1) (q2.trans p2) (q3.trans p3) (fun r hr=>by rw[m2];exact hheap b' r hne hr) (hoσ.ent b'))
   refine⟨σ4,c1,c2,c3,c4,hgo σ4 c1 c2 c3 c5 c6 c7 c8,fun b' r h=>?_⟩
   ·rcases c9 b' r h with g|g
    ·exact .inl g
    ·exact .inr (hA r g)
  rcases h3 with⟨g1,g2,g3⟩|⟨r,vs,T,g1,g2,g3,g4,g5⟩
  ·exact main none g1 (fun r h=>by cases h) (.inl ⟨rfl,g2⟩)
  ·subst g2;exact main (some r) g1 (fun r' h=>by cases h;simp) (.inr ⟨r,vs,T,rfl,g3,g4,g5⟩)
 |ref τ=>
  obtain⟨r,vs,T,h1,rfl,h2,h3⟩:=hb;obtain⟨hltb,cs,r0,eb,hβ,hy0⟩:=hw;have hrr:r=r0:=by rw[h1]at hy0;simpa using hy0
  subst hrr;have hgo:∀σ4:Sit,σ4.mem=σ3.mem.set b (.raw (cellsOf τ x))->σ4.w=σ3.w->σ4.S=σ3.S->Ac σ4.mem b=.raw (cellsOf τ x)->σ4.E.β b=some r->(∀b',b'≠b->Ac σ4.mem b'=Ac σ3.mem b'/\σ4.E.β b'=σ3.E.β b'/\σ4.E.κ b'=σ3.E.κ b')->Goes σ σ4:=fun σ4 c1 c2 c3 c5 c6 c8=>
   ⟨fun r hr=>by rw[c3];exact hg.stab r hr,fun r hr=>by rw[c2];exact hg.heap r hr,by rw[c1];simp;exact hg.len,fun b' hb'=>by
    by_cases hbb:b'=b
    ·subst hbb;unfold BP;rw[eb];exact .inl ⟨c6.trans hβ.symm,_,c5⟩
    ·obtain⟨g1,g2,g3⟩:=c8 b' hbb;exact(hg.turns b' hb').same g1 g2 g3 c2 c3⟩
  obtain⟨σ4,c1,c2,c3,c4,c5,c6,c7,c8,c9⟩:=aFn ho hlt hgone (.raw (cellsOf τ x)) (some r) 0 (fun r' hr=>by cases hr;exact hl r (by simp)) (fun σ' m1 m2 m3 m4 m5 m6=>by
   unfold AE;rw[m4];exact⟨r,vs,T,m5,by rw[m2];exact h2,OM (by rw[m2,m3];exact h3)⟩) (fun σ' m1 m2 m3 m4 m5 m6 m7 b' cs hne _=>by
    obtain⟨q1,q2,q3⟩:=m7 b' hne;obtain⟨p1,p2,p3⟩:=hsame b' hne;exact AE.keep (hgo σ' m1 m2 m3 m4 m5 m7) (q1.trans p1) (q2.trans p2) (q3.trans p3) (fun r hr=>by rw[m2];exact hheap b' r hne hr) (hoσ.ent b'))
  refine⟨σ4,c1,c2,c3,c4,hgo σ4 c1 c2 c3 c5 c6 c8,fun b' r' h=>?_⟩
  ·rcases c9 b' r' h with g|g
   ·exact .inl g
   ·cases g;exact .inr (by simp)
end Vx
namespace Vx
open Go Go.RowKit
def GlobsOk(G:List (Nat×Sigma fun τ=>List (Ab τ)))(w:World)(S:Nat->Prop):Prop:=
 ∀g τ xs,OT G g=some ⟨τ,xs⟩->S g/\∃vs T fz,w.heap[g]? = some (.cells vs T fz)/\Rows w S τ vs 0 xs
theorem bA5{C:Cfg}{w:World}{S:Nat->Prop}(h:GlobsOk C.globs w S):aF4 C w S:=h
theorem GlobsOk.mono{G:List (Nat×Sigma fun τ=>List (Ab τ))}{w w':World}{S S':Nat->Prop}(hS:∀r,S r->S' r)(hH:∀r,S r->w'.heap[r]? = w.heap[r]?)(h:GlobsOk G w S):GlobsOk G w' S':=fun g τ xs e=>by
 obtain⟨h1,vs,T,fz,h2,h3⟩:=h g τ xs e
 exact⟨hS g h1,vs,T,fz,(hH g h1).trans h2,h3.mono hS hH⟩
def Ei:List Value->Value
 | [y]=>y
 |ys=>.tuple ys.toArray
def bA (P:Program) (f:FuncId) (args:Array Value) (w:World) (post:Ending->World->Prop):Prop :=((∃ fn, P.funcs[f]? = some fn /\ fn.body.isNone = false /\ (fn.name == "runtime.NumGoroutine") = false) /\ Calls P f args w post) ∨ ∃ v,(callFunc f args).run P w=.ok (.value v) w/\post (.returned v) w
structure Sound (P:Program) (G:List (Nat×Sigma fun τ=>List (Ab τ))) (f:FuncId) (S:Sum):Prop where
 calls:∀x,S.pre x=true->∀(w:World) (St:Nat->Prop) (ys:List Value) (rs:List Nat),(∀q,St q->q<w.heap.size)->GlobsOk G w St->Cz w St S.ins x ys rs->rs.Nodup->(∀r∈rs,¬St r/\r<w.heap.size) ->
  bA P f ys.toArray w fun e w'=>∃zs rs',e=.returned (Ei zs)/\Low ⟨w,fun r=>r∈rs⟩ w'/\(∀r∈rs',Base.new ⟨w,fun r=>r∈rs⟩ r/\r<w'.heap.size)/\rs'.Nodup /\
   Cz w' (fun q=>(St q∨(Base.new ⟨w,fun r=>r∈rs⟩ q/\q<w'.heap.size))/\q∉rs') S.outs (S.F x) zs rs'
def Sit.later(σ:Sit)(rs rs':List Nat)(w':World):Sit:={E:=σ.E,mem:=σ.mem,w:=w',S:=fun q=>(σ.S q∨(Base.new ⟨σ.w,fun r=>r∈rs⟩ q/\q<w'.heap.size))/\q∉rs' }
theorem aO6{base:Base}{S0:Nat->Prop}{σ:Sit}(ho:Ok base S0 σ){rs rs':List Nat}{w':World}(hl:∀r∈rs,ET base σ r)(hb:Low ⟨σ.w,fun r=>r∈rs⟩ w')(hr':∀r∈rs',Base.new ⟨σ.w,fun r=>r∈rs⟩ r/\r<w'.heap.size):
  Ok base S0 (σ.later rs rs' w')/\Goes σ (σ.later rs rs' w')/\∀r∈rs',ET base (σ.later rs rs' w') r:=by
 have hold:∀q,σ.S q->q<σ.w.heap.size/\q∉rs/\q∉rs':=fun q hq=>by
  refine⟨(ho.stab q hq).1,fun h=>(hl q h).2.2.1 hq,fun h=>?_⟩
  rcases(hr' q h).1 with g|g
  ·have:=(ho.stab q hq).1
   have g:σ.w.heap.size<=q:=g
   omega
  ·exact(hl q g).2.2.1 hq
 have hown:∀b r,σ.owned b r->r<σ.w.heap.size/\r∉rs:=fun b r h=>⟨(ho.own b r h).2.1,fun h'=>(hl r h').2.2.2 b h⟩
 have hnew:∀q,Base.new ⟨σ.w,fun r=>r∈rs⟩ q->base.new q:=fun q h=>by
  rcases h with h|h
  ·exact .inl (ga ho.below.size h)
  ·exact(hl q h).1
 have hg:Goes σ (σ.later rs rs' w'):=⟨fun q h=>⟨.inl h,(hold q h).2.2⟩,fun r hr=>hb.block r (hold r hr).1 (hold r hr).2.1,bu _,fun _ _=>BP.refl rfl rfl rfl⟩
 refine⟨⟨ho.below.step hb.os hb.tape hb.output hb.size (fun k hk hn=>hb.block k hk (fun h=>hn ((hl k h).1))),fun r h=>⟨.inl (ho.stab0 r h),(hold r (ho.stab0 r h)).2.2⟩,fun r h=>?_,fun b=>?_,fun b r h=>?_,fun b b' r h h'=>ho.inj b b' r h h'⟩,hg,fun r hr=>?_⟩
 ·rcases h.1 with g|g
  ·exact⟨ao (ho.stab r g).1 hb.size,(ho.stab r g).2⟩
  ·exact⟨g.2,.inr (hnew r g.1)⟩
 ·exact AE.keep hg rfl rfl rfl (fun r hr=>hb.block r (hown b r hr).1 (hown b r hr).2) (ho.ent b)
 ·have:=ho.own b r h
  refine⟨this.1,ao this.2.1 hb.size,fun hs=>?_⟩
  rcases hs.1 with hs|hs
  ·exact this.2.2 hs
  ·rcases hs.1 with g|g
   ·have g:σ.w.heap.size<=r:=g
    omega
   ·exact(hown b r h).2 g
 ·refine⟨hnew r (hr' r hr).1,(hr' r hr).2,fun h=>h.2 hr,fun b h=>?_⟩
  have h:σ.owned b r:=h
  rcases(hr' r hr).1 with g|g
  ·have:=(hown b r h).1
   have g:σ.w.heap.size<=r:=g
   omega
  ·exact(hown b r h).2 g
structure SoundL (P:Program) (G:List (Nat×Sigma fun τ=>List (Ab τ))) (f:FuncId) (L:SumL):Prop where
 calls:∀x,L.pre x=true->∀(w:World) (St:Nat->Prop) (y y0:Value) (ys:List Value) (rl rs:List Nat),(∀q,St q->q<w.heap.size)->GlobsOk G w St->Vo w St L.lend x.1 y y0 rl->Cz w St L.ins x.2 ys rs->(rl++rs).Nodup->(∀r∈rl++rs,¬St r/\r<w.heap.size) ->
  bA P f (y::ys).toArray w fun e w'=>∃zs rs',e=.returned (Ei zs)/\Low ⟨w,fun r=>r∈rl++rs⟩ w'/\(∀r∈rs',Base.new ⟨w,fun r=>r∈rl++rs⟩ r/\r<w'.heap.size)/\(rl++rs').Nodup /\
   Cz w' (fun q=>(St q∨(Base.new ⟨w,fun r=>r∈rl++rs⟩ q/\q<w'.heap.size))/\q∉rl++rs') L.outs (L.F x).2 zs rs' /\
   LY w' (fun q=>(St q∨(Base.new ⟨w,fun r=>r∈rl++rs⟩ q/\q<w'.heap.size))/\q∉rl++rs') L.lend (L.F x).1 y0 rl
def Xb(w:World)(S:Nat->Prop)(ns:List Nat)(ps:List Value):Prop:=ps.length=ns.length/\∀(i n:Nat),ns[i]? = some n->∃(r:Nat) (vs:Array Value) (T:TypeId) (fz:Nat×Nat),ps[i]? = some (jf (some ⟨r,0,none⟩))/\S r/\w.heap[r]? = some (Obj.cells vs T fz)/\vs[0]? = some (OK n)
theorem Xb.mono{w w':World}{S S':Nat->Prop}(hS:∀r,S r->S' r)(hH:∀r,S r->w'.heap[r]? = w.heap[r]?){ns:List Nat}{ps:List Value}(h:Xb w S ns ps):Xb w' S' ns ps:=
 ⟨h.1,fun i n hi=>by
  obtain⟨r,vs,T,fz,e1,e2,e3,e4⟩:=h.2 i n hi
  exact⟨r,vs,T,fz,e1,hS r e2,(hH r e2).trans e3,e4⟩⟩
structure FnSound (P:Program) (G:List (Nat×Sigma fun τ=>List (Ab τ))) (f:FuncId) (cs:List Nat) (S:Sum):Prop where
 calls:∀x,S.pre x=true->∀(w:World) (St:Nat->Prop) (ys:List Value) (rs:List Nat) (ps:List Value),(∀q,St q->q<w.heap.size)->GlobsOk G w St->Cz w St S.ins x ys rs->rs.Nodup->(∀r∈rs,¬St r/\r<w.heap.size)->Xb w St cs ps ->
  bA P f (ys++ps).toArray w fun e w'=>∃zs rs',e=.returned (Ei zs)/\Low ⟨w,fun r=>r∈rs⟩ w'/\(∀r∈rs',Base.new ⟨w,fun r=>r∈rs⟩ r/\r<w'.heap.size)/\rs'.Nodup /\
   Cz w' (fun q=>(St q∨(Base.new ⟨w,fun r=>r∈rs⟩ q/\q<w'.heap.size))/\q∉rs') S.outs (S.F x) zs rs'
def aEK(P:Program)(m:String)(T:TypeId)(f:FuncId):Bool:=
 match P.info? T,P.underlying T with
 |some i,some (.struct _)=>(match i.methods.find? (·.name==m)with
  |some row=>(match row.path.toList,row.func with
   | [],some (g,false)=>Nat.beq g f
   |_,_=>false)
  |none=>false)
 |_,_=>false
structure MSound (P:Program) (G:List (Nat×Sigma fun τ=>List (Ab τ))) (f:FuncId) (v:Value) (S:Sum):Prop where
 calls:∀x,S.pre x=true->∀(w:World) (St:Nat->Prop) (ys:List Value) (rs:List Nat),(∀q,St q->q<w.heap.size)->GlobsOk G w St->Cz w St S.ins x ys rs->rs.Nodup->(∀r∈rs,¬St r/\r<w.heap.size) ->
  bA P f (v::ys).toArray w fun e w'=>∃zs rs',e=.returned (Ei zs)/\Low ⟨w,fun r=>r∈rs⟩ w'/\(∀r∈rs',Base.new ⟨w,fun r=>r∈rs⟩ r/\r<w'.heap.size)/\rs'.Nodup /\
   Cz w' (fun q=>(St q∨(Base.new ⟨w,fun r=>r∈rs⟩ q/\q<w'.heap.size))/\q∉rs') S.outs (S.F x) zs rs'
def L3(P:Program)(G:List (Nat×Sigma fun τ=>List (Ab τ)))(S:SumF):Prop:=
 ∀v x,S.pre v x=true->∃f cs S1,v=some (f,cs)/\FnSound P G f cs S1/\∃(h1:S1.ins=S.ins) (h2:S1.outs=S.outs),S1.pre (h1▸x)=true/\S.F v x=h2▸S1.F (h1▸x)
def aAC(P:Program)(G:List (Nat×Sigma fun τ=>List (Ab τ)))(m:String)(S:SumM):Prop:=
 ∀d x,S.pre d x=true->∃T ns f S1,d=some (T,ns)/\aEK P m T f=true/\((∀n∈ns,IntKind.i64.min<=n/\n<=IntKind.i64.max)->MSound P G f (.agg (ns.map (mn .i64)).toArray) S1)/\∃(h1:S1.ins=S.ins) (h2:S1.outs=S.outs),S1.pre (h1▸x)=true/\S.F d x=h2▸S1.F (h1▸x)
structure SumsOk (C:Cfg):Prop where
 sums:∀f mem args S,C.sum f mem args=some S->Sound C.P C.globs f S
 lsums:∀f mem args L,C.lsum f mem args=some L->SoundL C.P C.globs f L
 fns:∀T S,(T,S)∈C.fns->L3 C.P C.globs S
 meths:∀m S,(m,S)∈C.meths->aAC C.P C.globs m S
theorem aAm{σ:Sit}{vs:List SV}{ys:List Value}(h:All2 (BH σ) vs ys):Bx σ (Pn vs) (Ei ys):=by
 cases h with
 |nil=>exact⟨by simp,[],rfl,.nil⟩
 |cons h1 t=>
  cases t with
  |nil=>exact h1
  |cons h2 t=>exact⟨by simp,_,rfl,.cons h1 (.cons h2 t)⟩
theorem vS {P : Program} {f : FuncId} (h : ∃ fn, P.funcs[f]? = some fn /\ fn.body.isNone = false /\ (fn.name == "runtime.NumGoroutine") = false) (args : Array Value) (w : World) : (callFunc f args).run P w = .ok (.enter f args) w := by
 obtain⟨fn,h1,h2,h3⟩:=h;unfold callFunc;have h2':¬fn.body=none:=fun e=>by rw[e]at h2;cases h2
 simp[h1];rw[if_neg (by simpa using h3),if_neg h2']
variable {C:Cfg}{base:Base}{S0:Nat->Prop}{σ:Sit}{s:St}{a:Act}{ctx:List (Nat×Bool)}{o:Oper}{x:TV}{mem':Ai}
theorem bCq(hC:SumsOk C)(ho:Ok base S0 σ)(hr:RelT σ s a)(hx:BG a ctx)(hG:GlobsOk C.globs σ.w σ.S){c:Call}{fo:Operand}(hop:o.op=.call c)(hc:c.callee=.value fo){f:FuncId}{args:List SV}(ef:Bm s ctx fo=some (.fn f []))(eargs:EE s ctx c.args.toList=some args)
  {L:SumL} (hL:C.lsum f s.mem args=some L)
  (h:(match(generalizing:=false) args with
      |z::rest=>(match CH (BF (LS s.mem L.lend z) L.ins rest).2 L.ins (BF (LS s.mem L.lend z) L.ins rest).1 with
        |some (x,m2)=>(match WC m2 L.lend z with
         |some (b,xl,m3)=>(match CE (Wg m3 b L.lend (L.F (xl,x)).1) L.outs (L.F (xl,x)).2 with
          |some (vs,m4)=>some (Res.ok (L.pre (xl,x)) (Pn vs) m4)
          |none=>none)
         |none=>none)
        |none=>none)
      | []=>none)=some (Res.ok true x mem')):BV C base S0 id σ a o x mem':=by
 have hargs:=Wn hr hx eargs
 cases args with
 |cons z rest=>
  simp only at h
  generalize hya:c.args.toList.map a.eval=yall at hargs
  cases hargs with
  |cons hz hrest=>
  rename_i y ys
  obtain⟨σ0,l1,l2,l3,l4,l5⟩:=aQX ho L.lend z
  cases hf:BF (LS s.mem L.lend z) L.ins rest with
  |mk rest' m1=>
   rw[hf]at h
   simp only at h
   rw[←hr.mem,←l1]at hf
   obtain⟨σ1,a1,a2,a3,a4,a5,a6⟩:=Wt l4 hf
   split at h
   ·rename_i v m2 ez
    split at h
    ·rename_i b xl m3 el
     split at h
     ·rename_i vs m4 ev
      simp only[ae,Res.ok.injEq]at h
      obtain⟨hpre,rfl,rfl⟩:=h
      rw[←a1]at ez
      obtain⟨σ2,rs,b1,b2,b3,b4,b5,b6,hsr,b8,b9,b10⟩:=lU a4 (a6 _ (hrest.mono fun _ _=>l5.repV)) ez
      have hg2:Goes σ σ2:=l5.trans (a5.trans b6)
      rw[←b1]at el
      obtain⟨σ3,rl,y0,d1,d2,d3,d4,d5,d6,d7,d8,d9,d10,d11,d12,d13,d14⟩:=bBl b5 (hg2.repV hz) el
      have hcalls:=(hC.lsums f _ _ L hL).calls
      have hfv:a.eval fo=.func (.func f) #[] #[]:=by
       obtain⟨_,_,h1⟩:=BO hr hx ef
       rcases h1 with⟨p,hp,_⟩|⟨rs,h1,h2⟩
       ·simp at hp
       ·simpa using h2
      intro K Q hK
      have hexec:(execOp a.eval o).run C.P σ.w=(callFunc f (y::ys).toArray).run C.P σ.w:=by
       simp only[execOp,hop,resolve,hc,hfv]
       simp only[Deferred.ofValue,ci,di,bm,invoke]
       rw[←hya]
       congr 2
       apply gk.1
       simp
      have hw1:σ1.w=σ.w:=a2.trans l2
      have hw2:σ2.w=σ.w:=b2.trans hw1
      have hw3:σ3.w=σ.w:=d2.trans hw2
      have hS3:σ3.S=σ1.S:=d3.trans b4
      have hloose:∀r∈rs,ET base σ3 r:=fun r hr'=>by
       obtain⟨⟨b',hb'⟩,hn⟩:=b9 r hr'
       have:=a4.own b' r hb'
       exact⟨this.1,by rw[d2,b2];exact this.2.1,by rw[hS3];exact this.2.2,fun b'' h=>hn b'' (d12 b'' r h)⟩
      have hdis:∀r∈rl,∀r'∈rs,r≠r':=fun r h1 r' h2 e=>by
       subst e
       obtain⟨b',hb'⟩:=d11 r h1
       exact(b9 r h2).2 b' hb'
      have hall:∀r∈rl++rs,ET base σ3 r:=fun r hr'=>by
       rcases cy.1 hr' with h|h
       ·exact d8 r h
       ·exact hloose r h
      have hnd:(rl++rs).Nodup:=kb.2 ⟨d7,b8,hdis⟩
      have hsr3:Cz σ3.w σ3.S L.ins v ys rs:=by
       rw[hw3,hS3,←hw1];exact hsr
      have hcl:=hcalls (xl,v) hpre σ3.w σ3.S y y0 ys rl rs (fun q hq=>(d4.stab q hq).1) (by rw[hw3];exact GlobsOk.mono (hg2.trans d5).stab (fun _ _=>rfl) hG) d6 hsr3 hnd (fun r hr'=>⟨(hall r hr').2.2.1,(hall r hr').2.1⟩)
      rw[hw3]at hcl
      have hend:∀(e:Ending) (w':World),(∃zs rs',e=.returned (Ei zs)/\Low ⟨σ.w,fun r=>r∈rl++rs⟩ w'/\(∀r∈rs',Base.new ⟨σ.w,fun r=>r∈rl++rs⟩ r/\r<w'.heap.size)/\(rl++rs').Nodup /\
        Cz w' (fun q=>(σ3.S q∨(Base.new ⟨σ.w,fun r=>r∈rl++rs⟩ q/\q<w'.heap.size))/\q∉rl++rs') L.outs (L.F (xl,v)).2 zs rs' /\
        LY w' (fun q=>(σ3.S q∨(Base.new ⟨σ.w,fun r=>r∈rl++rs⟩ q/\q<w'.heap.size))/\q∉rl++rs') L.lend (L.F (xl,v)).1 y0 rl)->∃v,e=.returned v/\K (a.put o.dst v) w':=fun e w' he=>by
       obtain⟨zs,rs',rfl,hb,hr',hn',hz',hbk⟩:=he
       rw[←hw3]at hb hr' hz' hbk
       have hr'':∀r∈rl++rs',Base.new ⟨σ3.w,fun r=>r∈rl++rs⟩ r/\r<w'.heap.size:=fun r h=>by
        rcases cy.1 h with h|h
        ·exact⟨.inr (cy.2 (.inl h)),ao (d8 r h).2.1 hb.size⟩
        ·exact hr' r h
       obtain⟨k1,k2,k3⟩:=aO6 d4 hall hb hr''
       obtain⟨n1,n2,n3⟩:=kb.1 hn'
       have hsm:∀b',b'≠b->Ac σ3.mem b'=Ac σ2.mem b'/\σ3.E.β b'=σ2.E.β b'/\σ3.E.κ b'=σ2.E.κ b':=fun b' hne=>by
        rw[d1,d14,d13,Cf d9.1,if_neg hne];exact⟨rfl,rfl,rfl⟩
       have hhp:∀b' r,b'≠b->σ2.owned b' r->w'.heap[r]? = σ2.w.heap[r]?:=fun b' r hne ho2=>by
        have ho3:σ3.owned b' r:=by
         obtain⟨e1,e2,_⟩:=hsm b' hne
         exact⟨by rw[e1];exact ho2.1,e2.trans ho2.2⟩
        rw[←d2]
        refine hb.block r (by show r<σ3.w.heap.size;rw[d2];exact(b5.own b' r ho2).2.1) (fun hin=>(hall r hin).2.2.2 b' ho3)
       obtain⟨σ4,g1,g2,g3,g4,g5,g6⟩:=aYS k1 (d5.trans k2) d9 (by show Ac σ3.mem b=.gone;exact d10) b5 hsm hhp hbk (fun r h=>k3 r (cy.2 (.inl h)))
       have ev':CE σ4.mem L.outs (L.F (xl,v)).2=some (vs,m4):=by
        rw[g1]
        show CE (Wg σ3.mem b L.lend (L.F (xl,v)).1) L.outs _=_
        rw[d1];exact ev
       have hz4:Cz σ4.w σ4.S L.outs (L.F (xl,v)).2 zs rs':=by rw[g2,g3];exact hz'
       obtain⟨σ5,c1,c2,c3,c4,c5,c6⟩:=j1 g4 hz4 n2 (fun r h=>by
        obtain⟨q1,q2,q3,q4⟩:=k3 r (cy.2 (.inr h))
        refine⟨q1,by rw[g2];exact q2,by rw[g3];exact q3,fun b' hb'=>?_⟩
        rcases g6 b' r hb' with g|g
        ·exact q4 b' g
        ·exact n3 r g r h rfl) ev'
       have:=hK (Ei zs) σ5 c4 ((hg2.trans g5).trans c5).moves c1 (aAm c6)
       rw[c2,g2]at this
       exact⟨_,rfl,this⟩
      rcases hcl with⟨hcall,hcl⟩|⟨v',hv,hpost⟩
      ·unfold Oper.wp
       rw[hexec,vS hcall,Oper.upon_enter]
       refine hcl.mono fun e w' he=>?_
       obtain⟨v,rfl,hk⟩:=hend e w' he
       exact hk
      ·obtain⟨v',hv',hk⟩:=hend _ _ hpost
       cases hv'
       unfold Oper.wp
       rw[hexec,hv]
       exact hk
     ·cases h
    ·cases h
   ·cases h
 |nil=>cases h
theorem bCG(ho:Ok base S0 σ)(hr:RelT σ s a)(hx:BG a ctx){T:TypeId}{y:Operand}{lo hi mx:Option Operand}{b:Nat}(hop:o.op=.slice T y lo hi mx)(hns:Pk C s ctx T y lo hi mx=none)(ht:Vl C s ctx y lo mx=some b)(h:Ay C s ctx o=some (.ok true x mem')):BV C base S0 id σ a o x mem':=by
 have hlo:lo=none/\mx=none/\Bm s ctx y=some (.own b):=by
  unfold Vl at ht;cases lo with
  |some _=>simp at ht
  |none=>
   cases mx with
   |some _=>simp at ht
   |none=>
    have ht:=(AN ht).2;split at ht
    ·rename_i b' e;split at ht<;>first|(cases ht;done)|(cases ht;exact⟨rfl,rfl,e⟩)
    ·cases ht
 obtain⟨rfl,rfl,ey⟩:=hlo;unfold Ay at h;rw[hop]at h;simp only[hns,ht]at h;split at h
 ·rename_i e hT;split at h
  ·rename_i τ eτ;split at h
   ·rename_i xs exs;split at h
    ·rename_i hh eh;simp only[ae,Res.ok.injEq,ah,decide_eq_true_eq]at h;obtain⟨⟨g1,g2⟩,rfl,rfl⟩:=h;rw[←hr.mem]at exs;have hb:Ac σ.mem b=.arr τ xs∨Ac σ.mem b=.acc τ xs:=by
      unfold aRh at exs;split at exs
      ·rename_i eb;obtain⟨hττ,hxs⟩:=Jf exs;subst hττ;simp only at hxs;subst hxs;exact .inl eb
      ·rename_i eb;obtain⟨hττ,hxs⟩:=Jf exs;subst hττ;simp only at hxs;subst hxs;exact .inr eb
      ·cases exs
     obtain⟨σ1,rs,a1,a2,a3,a4,a5,a6,⟨k,h1,h2,h3⟩,a8,a9,a10⟩:=ZQ ho hb (BO hr hx ey);have hA:∃A,a.eval y=.slice A xs.length k/\(∀r,A=some r->r.add 0=r):=by
      rcases h3 with⟨h3,_⟩|⟨r,_,_,h3,_⟩
      ·exact⟨none,h3,fun r h=>by cases h⟩
      ·exact⟨_,h3,fun r h=>by simp[Addr.add]⟩
     obtain⟨A,hy,hadd⟩:=hA;have hrun:=aFG (C:=C) (lo:=none) hr hx hT eτ hy h1 (l:=0) rfl eh hop (li _) g1 g2 σ.w;have hv:(Value.slice (if k=(0:Int).toNat then A else A.map (·.add ((0:Int).toNat*τ.width))) (hh.toNat-(0:Int).toNat) (k-(0:Int).toNat))=.slice A (xs.take hh.toNat).length k:=by
      have e1:(xs.take hh.toNat).length=hh.toNat:=by simp;omega
      have e2:(if k=(0:Int).toNat then A else A.map (·.add ((0:Int).toNat*τ.width)))=A:=by
       split
       ·rfl
       ·cases A with
        |none=>rfl
        |some r=>simp only[Int.toNat_zero,Nat.zero_mul,jz,hadd r rfl]
      rw[e1,e2];simp
     rw[hv]at hrun;have hown:Gn σ1.w σ1.S τ (xs.take hh.toNat) (.slice A (xs.take hh.toNat).length k) rs:=by
      rw[a2,a4];refine⟨k,by simp;omega,h2,?_⟩;rcases h3 with⟨e1,e2,e3⟩|⟨r,vs,T',e1,e2,e3,e4,e5⟩
      ·rw[hy]at e1;cases e1;exact .inl ⟨rfl,e2,e3⟩
      ·rw[hy]at e1;cases e1;exact .inr ⟨r,vs,T',rfl,e2,e3,e4,fun i x hi=>e5 i x (by
        rw[List.getElem?_take]at hi;split at hi
        ·exact hi
        ·cases hi)⟩
     obtain⟨σ2,b1,b2,b3,b4,b5,b6,_⟩:=aON a5 hown (fun r hr'=>by
      obtain⟨⟨b',hb'⟩,hn⟩:=a9 r hr';have:=ho.own b' r hb';exact⟨this.1,by rw[a2];exact this.2.1,by rw[a4];exact this.2.2,hn⟩)
     refine Bh (σ':=σ2) (v:=.slice A (xs.take hh.toNat).length k) ?_ b4 (a6.trans b5).moves (by rw[b1,a1,hr.mem]) ?_
     ·rw[b2,a2];exact hrun
     ·rw[a1]at b6;have e:(σ.mem.set b .gone).length=s.mem.length:=by rw[hr.mem];simp
      rw[e]at b6;exact b6
    ·cases h
   ·cases h
  ·cases h
 ·cases h
end Vx
namespace Vx
open Go Go.RowKit
def ZU:List Nat->List Nat->Bool
 | [],[]=>true
 |a::r,b::s=>Nat.beq a b&&ZU r s
 |_,_=>false
def jM(o:Option (Nat×List Nat))(f:Nat)(cs:List Nat):Bool:=
 match o with
 |some p=>Nat.beq p.1 f&&ZU p.2 cs
 |none=>false
theorem aP1:∀{a b:List Nat},ZU a b=true->a=b
 | [],[],_=>rfl
 | [],_::_,h=>by simp[ZU]at h
 |_::_,[],h=>by simp[ZU]at h
 |x::a,y::b,h=>by
  simp only[ZU,ah]at h
  rw[aj h.1,aP1 h.2]
theorem aZT{o:Option (Nat×List Nat)}{f:Nat}{cs:List Nat}(h:jM o f cs=true):o=some (f,cs):=by
 unfold jM at h;split at h
 ·rename_i p;simp only[ah]at h;obtain⟨a,b⟩:=p;rw[show a=f from aj h.1,show b=cs from aP1 h.2]
 ·cases h
def tF(I O:Aa)(v:Option (Nat×List Nat))(x:DenS I):List (Nat×List Nat×Sum)->Bool
 | []=>false
 |(f,cs,S)::r=>bif jM v f cs then(if h:S.ins=I/\S.outs=O then S.pre (h.1▸x)else false)else tF I O v x r
def tG(I O:Aa)(v:Option (Nat×List Nat))(x:DenS I):List (Nat×List Nat×Sum)->DenS O
 | []=>DenS.dflt0 O
 |(f,cs,S)::r=>bif jM v f cs then(if h:S.ins=I/\S.outs=O then h.2▸S.F (h.1▸x)else DenS.dflt0 O)else tG I O v x r
def Lu(I O:Aa)(l:List (Nat×List Nat×Sum)):SumF:=⟨I,O,fun v x=>tF I O v x l,fun v x=>tG I O v x l⟩
def aF0(P:Program)(G:List (Nat×Sigma fun τ=>List (Ab τ))):List (Nat×List Nat×Sum)->Prop
 | []=>True
 |(f,cs,S)::r=>FnSound P G f cs S/\aF0 P G r
theorem Ys{P:Program}{G:List (Nat×Sigma fun τ=>List (Ab τ))}{I O:Aa}:∀{l:List (Nat×List Nat×Sum)},aF0 P G l->L3 P G (Lu I O l)
 | [],_,v,x,h=>by simp[Lu,tF]at h
 |(f,cs,S)::r,ha,v,x,h=>by
  simp only[Lu,tF]at h
  cases hb:jM v f cs with
  |true=>
   rw[hb,cond_true]at h
   split at h
   ·rename_i hh
    exact⟨f,cs,S,aZT hb,ha.1,hh.1,hh.2,h,by simp only[Lu,tG];rw[hb,cond_true,dif_pos hh]⟩
   ·cases h
  |false=>
   rw[hb,cond_false]at h
   obtain⟨f',cs',S',k1,k2,k3,k4,k5,k6⟩:=Ys (I:=I) (O:=O) ha.2 v x h
   exact⟨f',cs',S',k1,k2,k3,k4,k5,by simp only[Lu,tG];rw[hb,cond_false];exact k6⟩
variable {C:Cfg}{base:Base}{S0:Nat->Prop}{σ:Sit}{s:St}{a:Act}{ctx:List (Nat×Bool)}{o:Oper}{x:TV}{mem':Ai}
theorem aDv(ho:Ok base S0 σ)(hr:RelT σ s a)(hG:GlobsOk C.globs σ.w σ.S){args:List SV}{ys:List Value}(hargs:All2 (BH σ) args ys){S:Sum}(h:FV s.mem S args=some (true,x,mem'))
  (hcalls:∀z,S.pre z=true->∀(St:Nat->Prop) (rs:List Nat),(∀q,σ.S q->St q)->(∀q,St q->q<σ.w.heap.size)->GlobsOk C.globs σ.w St->Cz σ.w St S.ins z ys rs->rs.Nodup->(∀r∈rs,¬St r/\r<σ.w.heap.size) ->
   ∃f as,(execOp a.eval o).run C.P σ.w=(callFunc f as).run C.P σ.w/\bA C.P f as σ.w fun e w'=>∃zs rs',e=.returned (Ei zs)/\Low ⟨σ.w,fun r=>r∈rs⟩ w'/\(∀r∈rs',Base.new ⟨σ.w,fun r=>r∈rs⟩ r/\r<w'.heap.size)/\rs'.Nodup /\
    Cz w' (fun q=>(St q∨(Base.new ⟨σ.w,fun r=>r∈rs⟩ q/\q<w'.heap.size))/\q∉rs') S.outs (S.F z) zs rs'):BV C base S0 id σ a o x mem':=by
 unfold FV at h
 cases hf:BF s.mem S.ins args with
 |mk args' m1=>
  rw[hf]at h
  simp only at h
  rw[←hr.mem]at hf
  obtain⟨σ1,a1,a2,a3,a4,a5,a6⟩:=Wt ho hf
  split at h
  ·rename_i zm ez
   obtain⟨z,m2⟩:=zm
   simp only at h
   split at h
   ·rename_i vs m3 ev
    simp only[ae,cw]at h
    obtain⟨hpre,rfl,rfl⟩:=h
    rw[←a1]at ez
    obtain⟨σ2,rs,b1,b2,b3,b4,b5,b6,hsr,b8,b9,b10⟩:=lU a4 (a6 _ hargs) ez
    intro K Q hK
    have hloose:∀r∈rs,ET base σ2 r:=fun r hr'=>by
     obtain⟨⟨b,hb⟩,hn⟩:=b9 r hr'
     have:=a4.own b r hb
     exact⟨this.1,by rw[b2];exact this.2.1,by rw[b4];exact this.2.2,hn⟩
    have hw2:σ2.w=σ.w:=b2.trans a2
    rw[←b2,←b4]at hsr
    obtain⟨f,as,hexec,hcl⟩:=hcalls z hpre σ2.S rs (a5.trans b6).stab (fun q hq=>by rw[←hw2];exact(b5.stab q hq).1) (GlobsOk.mono (a5.trans b6).stab (fun _ _=>rfl) hG) (by rw[←hw2];exact hsr) b8 (fun r hr'=>by rw[←hw2];exact⟨(hloose r hr').2.2.1,(hloose r hr').2.1⟩)
    have hend:∀(e:Ending) (w':World),(∃zs rs',e=.returned (Ei zs)/\Low ⟨σ.w,fun r=>r∈rs⟩ w'/\(∀r∈rs',Base.new ⟨σ.w,fun r=>r∈rs⟩ r/\r<w'.heap.size)/\rs'.Nodup /\
      Cz w' (fun q=>(σ2.S q∨(Base.new ⟨σ.w,fun r=>r∈rs⟩ q/\q<w'.heap.size))/\q∉rs') S.outs (S.F z) zs rs')->∃v,e=.returned v/\K (a.put o.dst v) w':=fun e w' he=>by
     obtain⟨zs,rs',rfl,hb,hr',hn',hz⟩:=he
     rw[←hw2]at hb hr' hz
     obtain⟨k1,k2,k3⟩:=aO6 b5 hloose hb hr'
     have ev':CE (σ2.later rs rs' w').mem S.outs (S.F z)=some (vs,m3):=by
      show CE σ2.mem S.outs (S.F z)=_
      rw[b1];exact ev
     obtain⟨σ3,c1,c2,c3,c4,c5,c6⟩:=j1 k1 hz hn' k3 ev'
     have:=hK (Ei zs) σ3 c4 (((a5.trans b6).trans k2).trans c5).moves c1 (aAm c6)
     rw[c2]at this
     exact⟨_,rfl,this⟩
    rcases hcl with⟨hcall,hcl⟩|⟨v,hv,hpost⟩
    ·unfold Oper.wp
     rw[hexec,vS hcall,Oper.upon_enter]
     refine hcl.mono fun e w' he=>?_
     obtain⟨v,rfl,hk⟩:=hend e w' he
     exact hk
    ·obtain⟨v',hv',hk⟩:=hend _ _ hpost
     cases hv'
     unfold Oper.wp
     rw[hexec,hv]
     exact hk
   ·cases h
  ·cases h
theorem bCF(hC:SumsOk C)(ho:Ok base S0 σ)(hr:RelT σ s a)(hx:BG a ctx)(hG:GlobsOk C.globs σ.w σ.S){c:Call}{fo:Operand}(hop:o.op=.call c)(hc:c.callee=.value fo)(hnv:∀v,Bm s ctx fo≠some (.fnv v))(h:Ay C s ctx o=some (.ok true x mem')):BV C base S0 id σ a o x mem':=by
 unfold Ay at h;rw[hop]at h;simp only[hc]at h;split at h
 ·rename_i f caps args ef eargs;split at h
  ·rename_i L eL;have hcaps:caps=[]/\C.lsum f s.mem args=some L:=by
    split at eL
    ·exact⟨rfl,eL⟩
    ·cases eL
   obtain⟨rfl,hL⟩:=hcaps;exact bCq hC ho hr hx hG hop hc ef eargs hL h
  split at h
  ·rename_i S eS;have hcaps:caps=[]/\C.sum f s.mem args=some S:=by
    cases caps with
    |nil=>exact⟨rfl,eS⟩
    |cons _ _=>cases eS
   obtain⟨rfl,hS⟩:=hcaps;split at h
   ·rename_i g x' m' ec;simp only[ae,Res.ok.injEq]at h;obtain⟨rfl,rfl,rfl⟩:=h;have hfv:a.eval fo=.func (.func f) #[] #[]:=by
     obtain⟨_,_,h1⟩:=BO hr hx ef;rcases h1 with⟨p,hp,_⟩|⟨rs,h1,h2⟩
     ·simp at hp
     ·simpa using h2
    refine aDv ho hr hG (Wn hr hx eargs) ec fun z hz St rs _ hSl hGl hsr hnd hrs=>⟨f,(c.args.toList.map a.eval).toArray,?_,(hC.sums f _ _ S hS).calls z hz σ.w St _ rs hSl hGl hsr hnd hrs⟩
    simp only[execOp,hop,resolve,hc,hfv];simp only[Deferred.ofValue,ci,di,bm,invoke];congr 2;apply gk.1;simp
   ·cases h
  ·have h2:=(AN h).2;cases h2
 ·rename_i ef _;exact absurd ef (hnv _)
 ·cases h
theorem aNR{mem:Ai}{T:TypeId}{args:List SV}{S:SumF}:∀{l:List (TypeId×SumF)},UT mem T args l=some S->(T,S)∈l
 | [],h=>by simp[UT]at h
 |(T',S')::r,h=>by
  unfold UT at h
  cases hb:Nat.beq T' T&&UV mem S'.ins args with
  |true=>
   rw[hb]at h
   cases h
   simp only[ah]at hb
   rw[aj hb.1]
   simp
  |false=>
   rw[hb]at h
   exact io _ (aNR h)
theorem aNX{mem:Ai}{m:String}{args:List SV}{S:SumM}:∀{l:List (String×SumM)},UU mem m args l=some S->(m,S)∈l
 | [],h=>by simp[UU]at h
 |(m',S')::r,h=>by
  unfold UU at h
  cases hb:m'==m&&UV mem S'.ins args with
  |true=>
   rw[hb]at h
   cases h
   simp only[ah,beq_iff_eq]at hb
   rw[hb.1]
   simp
  |false=>
   rw[hb]at h
   exact io _ (aNX h)
theorem bCk(hC:SumsOk C)(ho:Ok base S0 σ)(hr:RelT σ s a)(hx:BG a ctx)(hG:GlobsOk C.globs σ.w σ.S){c:Call}{fo:Operand}(hop:o.op=.call c)(hc:c.callee=.value fo){v:Option (Nat×List Nat)}(ef:Bm s ctx fo=some (.fnv v))(h:Ay C s ctx o=some (.ok true x mem')):BV C base S0 id σ a o x mem':=by
 unfold Ay at h;rw[hop]at h;cases eargs:EE s ctx c.args.toList with
 |none=>simp only[hc,ef,eargs]at h;cases h
 |some args=>
  simp only[hc,ef,eargs]at h;split at h
  ·rename_i S eS;split at h
   ·rename_i g x' m' ec;simp only[ae,Res.ok.injEq]at h;obtain⟨rfl,rfl,rfl⟩:=h;refine aDv ho hr hG (Wn hr hx eargs) ec fun z hz St rs hS hSl hGl hsr hnd hrs=>?_;obtain⟨f,cs,S1,rfl,hfn,h1,h2,k3,k4⟩:=hC.fns _ _ (aNR eS) v z hz;obtain⟨ps,hy,hp1,hp2⟩:=BO hr hx ef;have hy:a.eval fo=.func (.func f) #[] ps.toArray:=by simpa using hy
    refine⟨f,(c.args.toList.map a.eval++ps).toArray,?_,?_⟩
    ·simp only[execOp,hop,resolve,hc,hy];simp only[Deferred.ofValue,ci,di,bm,invoke];congr 2;apply gk.1;simp
    ·obtain⟨ins,outs,pre,F⟩:=S1;obtain⟨ins',outs',pre',F'⟩:=S;simp only at h1 h2;subst h1;subst h2;have:=hfn.calls z k3 σ.w St _ rs ps hSl hGl hsr hnd hrs (Xb.mono hS (fun _ _=>rfl) ⟨hp1,hp2⟩);have k4:F' (some (f,cs)) z=F z:=k4;simp only[SumF.at];rw[k4];exact this
   ·cases h
  ·cases h
theorem bH4{P:Program}{m:String}{T:TypeId}{f:FuncId}(h:aEK P m T f=true)(v:Value)(args:Array Value)(w:World):(callMethod (.iface T v) m args).run P w=(callFunc f (#[v]++args)).run P w:=by
 unfold aEK at h;split at h
 ·rename_i i fs e1 e2;split at h
  ·rename_i row e3;split at h
   ·rename_i g e4 e5;have hg:g=f:=aj h;subst hg;have hm:(method (P.types.size+Made.depth) T v m).run P w=.ok (g,v) w:=by
     obtain⟨k,hk⟩:∃k,P.types.size+Made.depth=k+1:=⟨P.types.size+Made.depth-1,by unfold Made.depth;omega⟩
     rw[hk];have hti:(typeInfo T).run P w=.ok i w:=by simp[typeInfo,e1]
     simp only[method,ci,hti,bm,e3,e4,e5,follow,di,receiverAt,Cw e2,Place.get]
    unfold callMethod;simp only[ci];have hp:(program:Sem Program).run P w=.ok P w:=rfl;rw[hp];simp only[bm,ci,hm]
   ·cases h
  ·cases h
 ·cases h
theorem bCo(hC:SumsOk C)(ho:Ok base S0 σ)(hr:RelT σ s a)(hx:BG a ctx)(hG:GlobsOk C.globs σ.w σ.S){c:Call}{q:Operand}{m:String}(hop:o.op=.call c)(hc:c.callee=.invoke q m)(h:Ay C s ctx o=some (.ok true x mem')):BV C base S0 id σ a o x mem':=by
 unfold Ay at h;rw[hop]at h;simp only[hc]at h;split at h
 ·rename_i d args ef eargs;split at h
  ·rename_i S eS;split at h
   ·rename_i g x' m' ec;simp only[ae,Res.ok.injEq]at h;obtain⟨rfl,rfl,rfl⟩:=h;refine aDv ho hr hG (Wn hr hx eargs) ec fun z hz St rs hS hSl hGl hsr hnd hrs=>?_;obtain⟨T,ns,f,S1,rfl,hm,hms,h1,h2,k4,k5⟩:=hC.meths _ _ (aNX eS) d z hz;obtain⟨hy,hbnd⟩:=BO hr hx ef;have hy:a.eval q=.iface T (.agg (ns.map (mn .i64)).toArray):=by simpa using hy
    refine⟨f,(.agg (ns.map (mn .i64)).toArray::c.args.toList.map a.eval).toArray,?_,?_⟩
    ·simp only[execOp,hop,resolve,hc,hy];simp only[ci,di,bm,invoke];have e:(#[Value.iface T (.agg (ns.map (mn .i64)).toArray)]++Array.map a.eval c.args)[0]? = some (.iface T (.agg (ns.map (mn .i64)).toArray)):=by rw[Array.getElem?_append_left (by simp)];rfl
     simp only[e];rw[bH4 hm];congr 2;apply gk.1;simp only[Array.toList_append,Array.toList_extract,Array.toList_map,List.extract];simp[cm]
    ·obtain⟨ins1,outs1,pre1,F1⟩:=S1;obtain⟨ins',outs',pre',F'⟩:=S;simp only at h1 h2;subst h1;subst h2;have:=(hms hbnd).calls z k4 σ.w St (c.args.toList.map a.eval) rs hSl hGl hsr hnd hrs;have k5:F' (some (T,ns)) z=F1 z:=k5;simp only[SumM.at];rw[k5];exact this
   ·cases h
  ·cases h
 ·cases h
theorem aO3{σ:Sit}:∀{cs:List SC} {ns:List Int} {ys:List Value},kJ cs=some ns->All2 (AB σ) cs ys->ys=ns.map (mn .i64)/\∀n∈ns,IntKind.i64.min<=n/\n<=IntKind.i64.max
 | [],ns,_,h,.nil=>by simp[kJ]at h;subst h;simp
 |c::cs,ns,_,h,.cons hc ht=>by
  unfold kJ at h
  split at h
  ·rename_i e;cases e
  ·rename_i n r e
   cases e
   split at h
   ·rename_i l e2
    cases h
    obtain⟨k1,k2⟩:=aO3 e2 ht
    obtain⟨rfl,hb⟩:=hc
    refine⟨by rw[k1];rfl,fun z hz=>?_⟩
    rcases dc.1 hz with rfl|hz
    ·exact hb
    ·exact k2 z hz
   ·cases h
  ·cases h
theorem bCt(ho:Ok base S0 σ)(hr:RelT σ s a)(hx:BG a ctx){T:TypeId}{y:Operand}(hop:o.op=.makeInterface T y)(h:Ay C s ctx o=some (.ok true x mem')):BV C base S0 id σ a o x mem':=by
 unfold Ay at h;rw[hop]at h;simp only at h;split at h
 ·rename_i cs fs ey hT;split at h
  ·rename_i ns en;simp only[ae,Res.ok.injEq,true_and]at h;obtain⟨rfl,rfl⟩:=h;obtain⟨ys,e,ha⟩:=HF hr hx ey;obtain⟨k1,k2⟩:=aO3 en ha;subst k1;refine Bh (σ':=σ) (v:=.iface T (.agg (ns.map (mn .i64)).toArray)) ?_ ho (Goes.refl σ).moves hr.mem ⟨rfl,k2⟩;simp only[execOp,hop,e];refine BU ?_;unfold Instr.makeInterface;simp only[ci,Cw hT,bm,di]
  ·cases h
 ·cases h
theorem U8(hC:SumsOk C)(ho:Ok base S0 σ)(hr:RelT σ s a)(hx:BG a ctx)(hG:GlobsOk C.globs σ.w σ.S)(hna:∀c,o.op=.call c->c.callee≠.builtin .append)(h:Ay C s ctx o=some (.ok true x mem')):BV C base S0 id σ a o x mem':=by
 cases hop:o.op with
 |move y=>exact aQc ho hr hx (.inl hop) h
 |assign y=>exact aQc ho hr hx (.inr hop) h
 |pick c A B=>exact bCz ho hr hx hop h
 |alloc T=>exact bB8 ho hr hop h
 |box T y=>exact bCb ho hr hx hop h
 |build T ps=>exact bCc ho hr hx hop h
 |buildSlice T n ps=>exact bCd ho hr hx hop h
 |range T y=>exact bCA ho hr hx hop h
 |next y st=>exact bCx ho hr hx hop h
 |load T y=>exact bCr ho hr hx hop h
 |store T y z=>exact bCD ho hr hx hop h
 |nilCheck y=>exact bCy ho hr hx hop h
 |binOp op T y z T'=>exact bCa ho hr hx hop h
 |unOp op T y=>exact bCH ho hr hx hop h
 |convert T T' y=>exact bCf ho hr hx hop h
 |makeSlice T l c=>exact bCu ho hr hx hop h
 |slice T y lo hi mx=>
  cases hs:Pk C s ctx T y lo hi mx with
  |some p=>exact bCE ho hr hx hop (g:=p.1) (c:=p.2) hs h
  |none=>
   cases ht:Vl C s ctx y lo mx with
   |none=>exact bCC ho hr hx hop hs ht h
   |some b=>exact bCG ho hr hx hop hs ht h
 |fieldAddr T y i=>exact bCj ho hr hx hop h
 |field T y i=>exact bCi ho hr hx hop h
 |indexAddr T y z=>exact bCn ho hr hx (bA5 hG) hop h
 |index T y z=>exact bCm ho hr hx hop h
 |extract y i=>exact bCh ho hr hx hop h
 |makeFunc fn first captured=>exact bCs ho hr hx hop h
 |makeInterface T y=>exact bCt ho hr hx hop h
 |call c=>
  cases hc:c.callee with
  |value fo=>
   cases ef:Bm s ctx fo with
   |none=>unfold Ay at h;rw[hop]at h;simp only[hc,ef]at h;cases h
   |some c0=>
    by_cases hv:∃v,c0=.fnv v
    ·obtain⟨v,rfl⟩:=hv;exact bCk hC ho hr hx hG hop hc ef h
    ·exact bCF hC ho hr hx hG hop hc (fun v e=>hv ⟨v,ks (ef.symm.trans e)⟩) h
  |invoke r m=>exact bCo hC ho hr hx hG hop hc h
  |builtin b=>
   cases b with
   |len=>exact bCp ho hr hx hop hc h
   |min=>exact bCw ho hr hx hop hc h
   |max=>exact bCv ho hr hx hop hc h
   |complex=>exact bCe ho hr hx hop hc h
   |real=>exact bCB ho hr hx hop hc h
   |imag=>exact bCl ho hr hx hop hc h
   |append=>exact absurd hc (hna c hop)
   |copy=>exact bCg ho hr hx hop hc h
   |_=>unfold Ay at h;rw[hop]at h;simp only[hc]at h;cases h
 |_=>unfold Ay at h;rw[hop]at h;simp only at h;cases h
end Vx
namespace Vx
open Go Go.RowKit
structure Adv (σ σ':Sit):Prop where
 stab:∀r,σ.S r->σ'.S r
 heap:∀r,σ.S r->σ'.w.heap[r]? = σ.w.heap[r]?
 rep:∀c y,AB σ c y->AB σ' (Jh σ.mem c) y
 len:σ.mem.length<=σ'.mem.length
 noacc:∀b,b<σ.mem.length->HA (Ac σ'.mem b)->HA (Ac σ.mem b)
theorem Wl{mem:Ai}{b:Nat}:Jh mem (.own b)=.undef/\HA (Ac mem b)∨Jh mem (.own b)=.own b/\¬HA (Ac mem b):=by
 simp only[Jh];cases Ac mem b with
 |acc _ _=>exact .inl ⟨rfl,trivial⟩
 |_=>exact .inr ⟨rfl,fun h=>h⟩
theorem aNK{mem:Ai}{c:SC}(h:∀b,c≠.own b):Jh mem c=c:=by
 cases c with
 |own b=>exact absurd rfl (h b)
 |_=>rfl
theorem Adv.refl(σ:Sit):Adv σ σ:=by
 refine⟨fun _ h=>h,fun _ _=>rfl,fun c y h=>?_,bu _,fun _ _ h=>h⟩;cases c with
 |own b=>
  rcases Wl (mem:=σ.mem) (b:=b)with⟨e,_⟩|⟨e,_⟩
  ·rw[e];exact h.2.1
  ·rw[e];exact h
 |_=>exact h
theorem Adv.trans{σ σ' σ'':Sit}(h:Adv σ σ')(h':Adv σ' σ''):Adv σ σ'':=by
 refine⟨fun r hr=>h'.stab r (h.stab r hr),fun r hr=>(h'.heap r (h.stab r hr)).trans (h.heap r hr),fun c y hc=>?_,ga h.len h'.len,fun b hb ha=>h.noacc b hb (h'.noacc b (ao hb h.len) ha)⟩;have h1:=h.rep c y hc;have h2:=h'.rep _ y h1;by_cases hown:∃b,c=.own b
 ·obtain⟨b,rfl⟩:=hown;rcases Wl (mem:=σ.mem) (b:=b)with⟨e,_⟩|⟨e,hn⟩
  ·rw[e];exact hc.2.1
  ·rw[e]at h2⊢;rcases Wl (mem:=σ'.mem) (b:=b)with⟨e',ha⟩|⟨e',_⟩
   ·exact absurd (h.noacc b hc.1 ha) hn
   ·rw[e']at h2;exact h2
 ·have hne:∀b,c≠.own b:=fun b e=>hown ⟨b,e⟩;rw[aNK hne]at h2⊢;rw[aNK hne]at h2;exact h2
theorem Moves.adv_id{σ σ':Sit}(h:Moves id σ σ'):Adv σ σ':=by
 refine⟨h.stab,h.heap,fun c y hc=>?_,h.len,h.noacc⟩;have h1:=h.rep c y hc;cases c with
 |own b=>
  rcases Wl (mem:=σ.mem) (b:=b)with⟨e,_⟩|⟨e,_⟩
  ·rw[e];exact hc.2.1
  ·rw[e];exact h1
 |_=>exact h1
theorem Moves.adv_own{σ σ':Sit}{b:Nat}(h:Moves (ED b) σ σ')(hb:HA (Ac σ'.mem b)):Adv σ σ':=by
 refine⟨h.stab,h.heap,fun c y hc=>?_,h.len,h.noacc⟩;have h1:=h.rep c y hc;cases c with
 |own b' =>
  rcases Wl (mem:=σ.mem) (b:=b')with⟨e,_⟩|⟨e,hn⟩
  ·rw[e];exact hc.2.1
  ·rw[e];simp only[ED]at h1;cases hbb:Nat.beq b b' with
   |true=>
    have:b=b':=aj hbb;subst this;exact absurd (h.noacc b hc.1 hb) hn
   |false=>rw[hbb]at h1;exact h1
 |_=>exact h1
theorem Goes.adv{σ σ':Sit}(h:Goes σ σ'):Adv σ σ':=h.moves.adv_id
theorem Bx.drop{σ σ':Sit}{f:SC->SC}(hm:∀c y,AB σ c y->AB σ' (f c) y){fT:TV->TV}(hf:∀x,fT x=match x with
  |.un=>.un
  |.val (.one c)=>.val (.one (f c))
  |.val (.agg cs)=>.val (.agg (cs.map f))
  |.tup l=>.tup (l.map fun v=>match v with|.one c=>.one (f c)|.agg cs=>.agg (cs.map f))
  |.nxt c i r=>.nxt c i r) {x:TV} {y:Value} (h:Bx σ x y):Bx σ' (fT x) y:=by
 rw[hf]
 have hv:∀v y,BH σ v y->BH σ' (match v with|.one c=>.one (f c)|.agg cs=>.agg (cs.map f)) y:=fun v y hv=>by
  cases v with
  |one c=>exact hm c y hv
  |agg cs=>obtain⟨ys,e,ha⟩:=hv;exact⟨ys,e,ha.mapL f hm⟩
 cases x with
 |un=>trivial
 |val v=>cases v with
  |one c=>exact hv (.one c) y h
  |agg cs=>exact hv (.agg cs) y h
 |tup l=>
  obtain⟨h1,ys,e,ha⟩:=h
  exact⟨by simpa using h1,ys,e,ha.mapL _ hv⟩
 |nxt c i r=>exact h
theorem Bx.keep{σ σ':Sit}(hm:∀c y,AB σ c y->AB σ' (id c) y){x:TV}{y:Value}(h:Bx σ x y):Bx σ' x y:=by
 have hv:∀v y,BH σ v y->BH σ' v y:=fun v y hv=>by
  cases v with
  |one c=>exact hm c y hv
  |agg cs=>obtain⟨ys,e,ha⟩:=hv;exact⟨ys,e,ha.mono hm⟩
 cases x with
 |un=>trivial
 |val v=>exact hv v y h
 |tup l=>
  obtain⟨h1,ys,e,ha⟩:=h;exact⟨h1,ys,e,ha.mono hv⟩
 |nxt c i r=>exact h
theorem aZF(b:Nat)(x:TV):Wm b x=match x with
  |.un=>.un
  |.val (.one c)=>.val (.one (ED b c))
  |.val (.agg cs)=>.val (.agg (cs.map (ED b)))
  |.tup l=>.tup (l.map fun v=>match v with|.one c=>.one (ED b c)|.agg cs=>.agg (cs.map (ED b)))
  |.nxt c i r=>.nxt c i r:=by
 cases x with
 |un=>rfl
 |val v=>cases v<;>rfl
 |tup l=>simp only[Wm];congr 1
 |nxt c i r=>rfl
theorem aNI(m:Ai)(x:TV):Wk m x=match x with
  |.un=>.un
  |.val (.one c)=>.val (.one (Jh m c))
  |.val (.agg cs)=>.val (.agg (cs.map (Jh m)))
  |.tup l=>.tup (l.map fun v=>match v with|.one c=>.one (Jh m c)|.agg cs=>.agg (cs.map (Jh m)))
  |.nxt c i r=>.nxt c i r:=by
 cases x with
 |un=>rfl
 |val v=>cases v<;>rfl
 |tup l=>simp only[Wk];congr 1
 |nxt c i r=>rfl
theorem aEo{g:TV->TV}(hg:g .un=.un):∀(tm:List (Nat×TV)) (t:Nat),Br (tm.map fun p=>(p.1,g p.2)) t=g (Br tm t)
 | [],t=>by simp[Br,hg]
 |(n,x)::r,t=>by
  simp only[gb,Br]
  cases Nat.beq n t with
  |true=>rfl
  |false=>exact aEo hg r t
theorem O0{a:Act}{d:Nat}{v:Value}(hd:d<a.tmps.size)(t:Nat):(a.put (some d) v).tmps.getD t undef=if t=d then v else a.tmps.getD t undef:=by
 simp only[Act.put];rw[dw,dw];by_cases h:t=d
 ·subst h;rw[Array.getElem?_setIfInBounds_self_of_lt hd];simp
 ·rw[Array.getElem?_setIfInBounds_ne (fun e=>h e.symm),if_neg h]
theorem aET:∀{cs:List (Nat×Nat×Bool×TV)} {d:Nat},F7 d cs=true->∀e g p x,(e,g,p,x)∈cs->e≠d/\g≠d
 | [],_,_,_,_,_,_,h=>by simp at h
 |(e',g',p',x')::r,d,h,e,g,p,x,hm=>by
  simp only[F7,ah,fc]at h
  rcases dc.1 hm with h' | h'
  ·cases h'
   refine⟨fun e=>?_,fun e=>?_⟩
   ·subst e;simp[dt]at h
   ·subst e;simp[dt]at h
  ·exact aET h.2 e g p x h'
variable {C:Cfg}{base:Base}{S0:Nat->Prop}{σ:Sit}{s s':St}{a:Act}{o:Oper}
theorem vP{σ':Sit}{fT:TV->TV}(hun:fT .un=.un)(hm:∀x y,Bx σ x y->Bx σ' (fT x) y)(hr:RelT σ s a){x:TV}{v:Value}(hv:Bx σ' x v){mem:Ai}(hmem:σ'.mem=mem)
  (h:Vd {s with tm:=s.tm.map fun p=>(p.1,fT p.2),cs:=s.cs.map fun p=>(p.1,p.2.1,p.2.2.1,fT p.2.2.2)} o x mem=some s'):RelT σ' s' (a.put o.dst v):=by
 unfold Vd at h;cases hd:o.dst with
 |none=>
  rw[hd]at h;simp only[ae]at h;subst h;refine⟨hr.size,hr.defers,hmem,fun t=>?_,fun d g p y hmm=>?_⟩
  ·simp only[aEo hun];exact hm _ _ (hr.tm t)
  ·obtain⟨q,hq,he⟩:=lz.1 hmm;cases he;have:=hr.cs _ _ _ _ hq;exact⟨fun h=>hm _ _ (this.1 h),this.2⟩
 |some d=>
  rw[hd]at h;simp only at h;cases hb:(F7 d (s.cs.map fun p=>(p.1,p.2.1,p.2.2.1,fT p.2.2.2))&&Nat.blt d s.n)with
  |false=>rw[hb]at h;cases h
  |true=>
   rw[hb]at h;simp only[ah]at hb;simp only[cond_true,ae]at h;subst h;have hdl:d<a.tmps.size:=by rw[hr.size];simpa using hb.2
   refine⟨by simp[Act.put,hr.size],hr.defers,hmem,fun t=>?_,fun e g p y hmm=>?_⟩
   ·rw[O0 hdl];simp only[Br];by_cases h:t=d
    ·subst h;rw[if_pos rfl,dt];exact hv
    ·rw[if_neg h];have:Nat.beq d t=false:=by
      cases hq:Nat.beq d t with
      |false=>rfl
      |true=>exact absurd (aj hq).symm h
     rw[this,cond_false,aEo hun];exact hm _ _ (hr.tm t)
   ·obtain⟨h1,h2⟩:=aET hb.1 e g p y hmm;rw[O0 hdl,O0 hdl,if_neg h1,if_neg h2];obtain⟨q,hq,he⟩:=lz.1 hmm;cases he;have:=hr.cs _ _ _ _ hq;exact⟨fun h=>hm _ _ (this.1 h),this.2⟩
theorem aFW{ops:Array Oper}{gi:Nat}{p:Bool}{t:Nat}(hg:o.guard=some (gi,p))(ht:Fa ops.toList gi=some t):gl o (yielded ops a.tmps)=true↔a.tmps.getD t undef=.bool p:=by
 unfold gl;rw[hg];simp only[beq_iff_eq];unfold yielded;have hd:(ops[gi]?).bind (·.dst)=some t:=by
  unfold Fa at ht;split at ht
  ·rename_i o' e;have:ops[gi]? = some o':=by simpa using e
   rw[this];exact ht
  ·cases ht
 rw[hd];simp only[Option.bind_some];rw[dw];cases e:a.tmps[t]? with
 |none=>simp[undef]
 |some v=>cases v<;>simp
theorem aDt(ho:Ok base S0 σ)(hm:σ.mem=s.mem){S:Sum}{args:List SV}{g:Bool}{x:TV}{mem:Ai}(h:FV s.mem S args=some (g,x,mem))(hst:Nat.beq mem.length s.mem.length=true):
  ∃σ1:Sit,σ1.mem=mem/\σ1.w=σ.w/\Ok base S0 σ1/\Goes σ σ1:=by
 unfold FV at h;cases hf:BF s.mem S.ins args with
 |mk args' m1=>
  rw[hf]at h;simp only at h;have hlen:=aZ6 hf;rw[←hm]at hf;obtain⟨σ1,a1,a2,a3,a4,a5,a6⟩:=Wt ho hf;split at h
  ·rename_i zm ez;obtain⟨z,m2⟩:=zm;simp only at h;split at h
   ·rename_i vs m3 ev;simp only[ae,cw]at h;obtain⟨_,_,rfl⟩:=h;rw[←a1]at ez;obtain⟨σ2,b1,b2,b3,b4,b5⟩:=aTe a4 ez;have hst:=aj hst;have:=aEq ev (by rw[hst,b5,a1,hlen]);exact⟨σ2,by rw[b1,this],b2.trans a2,b3,a5.trans b4⟩
   ·cases h
  ·cases h
theorem bBg{ctx:List (Nat×Bool)}(ho:Ok base S0 σ)(hm:σ.mem=s.mem){g:Bool}{x:TV}{mem:Ai}(hgd:o.guard≠none)(hl:Jo o.op=true)(hst:DZ o.op s.mem mem=true)(h:Ay C s ctx o=some (.ok g x mem)):
  ∃σ1:Sit,σ1.mem=mem/\σ1.w=σ.w/\Ok base S0 σ1/\Goes σ σ1:=by
 have same:mem=s.mem->∃σ1:Sit,σ1.mem=mem/\σ1.w=σ.w/\Ok base S0 σ1/\Goes σ σ1:=fun e=>⟨σ,hm.trans e.symm,rfl,ho,Goes.refl σ⟩
 unfold Ay at h;cases hop:o.op with
 |alloc T=>rw[hop]at hl;cases hl
 |box T y=>rw[hop]at hl;cases hl
 |store T y z=>rw[hop]at hl;cases hl
 |makeSlice T l c=>rw[hop]at hl;cases hl
 |buildSlice T n ps=>
  rw[hop]at h;simp only at h;split at h
  ·split at h
   ·rename_i z pl eτ hz hps;cases hn0:(Nat.beq n 0&&pl.isEmpty)with
    |true=>
     rw[hn0]at h;simp only[cond_true]at h;have:=BM h;unfold DZ at hst;rw[hop,this]at hst;have hst:=aj hst;simp at hst
    |false=>
    rw[hn0]at h;simp only[cond_false]at h;split at h
    ·rename_i cs ecs;cases hf:E9 s.mem cs with
     |mk cs' m1=>
      rw[hf]at h;simp only at h;split at h
      ·rw[←hm]at hf;obtain⟨σ1,a1,a2,a3,a4,a5,a6⟩:=jO ho hf;have:=BM (AN h).2;exact⟨σ1,a1.trans this.symm,a2,a4,a5⟩
      ·cases h
    ·cases h
   ·cases h
  ·cases h
 |slice T y lo hi mx=>
  rw[hop]at h;simp only at h;cases hsb:Pk C s ctx T y lo hi mx with
  |some p=>rw[hsb]at h;exact same (BM h)
  |none=>
  rw[hsb]at h;simp only at h;cases htr:Vl C s ctx y lo mx with
  |some b=>
   exfalso;rw[htr]at h;simp only at h;(repeat' split at h)<;>first|(cases h;done)|skip
   have:=BM h;unfold DZ at hst;rw[hop,this]at hst;have hst:=aj hst;simp at hst
  |none=>
  rw[htr]at h;simp only at h;split at h
  ·rename_i c hT ec;split at h
   ·cases hf:Dm s.mem c with
    |mk c' m1=>
     rw[hf]at h;simp only at h;rw[←hm]at hf;obtain⟨σ1,a1,a2,a3,a4,a5,a6⟩:=UW ho hf;split at h
     ·split at h
      ·exact⟨σ1,a1.trans (BM h).symm,a2,a4,a5⟩
      ·cases h
     ·cases h
   ·cases h
  ·cases h
 |indexAddr T y z=>
  rw[hop]at h;simp only at h;split at h
  ·split at h
   ·exact same (BM (AN (Ed h)).2)
   ·cases h
  ·split at h
   ·exact same (BM (Ed h))
   ·cases h
  ·split at h
   ·split at h
    ·split at h
     ·exact same (BM (Ed h))
     ·rename_i eb;have:=BM (Ed h);rw[←hm]at eb this;obtain⟨σ1,a1,a2,a3,a4,a5⟩:=tW ho (.inr eb);exact⟨σ1,a1.trans this.symm,a2,a4,a5⟩
     ·exact same (BM (Ed h))
     ·cases h
    ·exact same (BM (Ed h))
    ·split at h
     ·exact same (BM (Ed h))
     ·cases h
    ·cases h
   ·cases h
  ·cases h
 |call c=>
  rw[hop]at h hl;simp only at h;cases hc:c.callee with
  |value fo=>
   have hlen:Nat.beq mem.length s.mem.length=true:=by unfold DZ at hst;rw[hop]at hst;simpa only[hc]using hst
   simp only[hc]at h;split at h
   ·rename_i f caps args ef eargs;split at h
    ·rename_i L eL;exfalso;split at eL
     ·rename_i e;exact hgd e
     ·cases eL
    split at h
    ·split at h
     ·rename_i ec;rw[←BM h]at ec;exact aDt ho hm ec hlen
     ·cases h
    ·have h2:=(AN h).2;cases h2
   ·split at h
    ·split at h
     ·rename_i ec;rw[←BM h]at ec;exact aDt ho hm ec hlen
     ·cases h
    ·cases h
   ·cases h
  |invoke r m=>
   have hlen:Nat.beq mem.length s.mem.length=true:=by unfold DZ at hst;rw[hop]at hst;simpa only[hc]using hst
   simp only[hc]at h;split at h
   ·split at h
    ·split at h
     ·rename_i ec;rw[←BM h]at ec;exact aDt ho hm ec hlen
     ·cases h
    ·cases h
   ·cases h
  |builtin b=>
   simp only[Jo,hc]at hl;simp only[hc]at h;cases b<;>simp only at h hl<;>first|(cases hl;done)|(cases h;done)|(repeat' split at h)<;>first|(cases h;done)|exact same (BM h)|exact same (BM (AN h).2)|exact same (BM (Ed h))
 |range T y=>rw[hop]at hl;simp[Jo]at hl
 |next y st=>rw[hop]at hl;simp[Jo]at hl
 |_=>
  rw[hop]at h;simp only at h;(repeat' split at h)<;>first|(cases h;done)|exact same (BM h)|exact same (BM (AN h).2)|exact same (BM (Ed h))|(have h2:=(AN h).2;cases h2)
theorem aFv{σ':Sit}(hr:RelT σ s a){d t:Nat}{p:Bool}{x:TV}{v:Value}{mem:Ai}(hdl:d<a.tmps.size)(hdt:t≠d)(hnt:F7 d s.cs=true)(hm:∀x y,Bx σ x y->Bx σ' x y)(hmem:σ'.mem=mem)
  (h1:a.tmps.getD t undef=.bool p->Bx σ' x v) (h2:a.tmps.getD t undef≠.bool p->v=undef):RelT σ' (lD s d t p x mem) (a.put (some d) v):=by
 refine⟨by simp[Act.put,hr.size,lD],hr.defers,hmem,fun q=>?_,fun e g' p' y hmm=>?_⟩
 ·rw[O0 hdl];simp only[lD,Br];by_cases h:q=d
  ·subst h;rw[dt];trivial
  ·rw[if_neg h];have:Nat.beq d q=false:=by
    cases hq:Nat.beq d q with
    |false=>rfl
    |true=>exact absurd (aj hq).symm h
   rw[this,cond_false];exact hm _ _ (hr.tm q)
 ·rcases dc.1 hmm with h|h
  ·cases h;rw[O0 hdl,O0 hdl,if_neg hdt,if_pos rfl];exact⟨h1,h2⟩
  ·obtain⟨n1,n2⟩:=aET hnt e g' p' y h;rw[O0 hdl,O0 hdl,if_neg n1,if_neg n2];have:=hr.cs _ _ _ _ h;exact⟨fun h=>hm _ _ (this.1 h),this.2⟩
theorem bJg(hC:SumsOk C)(ho:Ok base S0 σ)(hr:RelT σ s a)(hG:GlobsOk C.globs σ.w σ.S){ops:Array Oper}(h:step C ops.toList o s=some (.ok true s')){K:Act->World->Prop}{Q:Exit->Act->World->Prop}
  (hK:∀a' σ',Ok base S0 σ'->Adv σ σ'->RelT σ' s' a'->K a' σ'.w) :
  if gl o (yielded ops a.tmps)then o.wp C.P a σ.w K Q else K (a.put o.dst undef) σ.w:=by
 unfold step at h;cases hg:o.guard with
 |none=>
  rw[hg]at h;simp only at h;rw[if_pos (by simp[gl,hg])];split at h
  ·rename_i g x mem hp;by_cases happ:∃c,o.op=.call c/\c.callee=.builtin .append
   ·obtain⟨c,hop,hc⟩:=happ;have hg1:g=true/\∃b,x=.val (.one (.own b))/\Vd {s with tm:=s.tm.map fun p=>(p.1,Wm b p.2),cs:=s.cs.map fun p=>(p.1,p.2.1,p.2.2.1,Wm b p.2.2.2)} o x (mem.map (UQ b))=some s':=by
     have hx:∃b,x=.val (.one (.own b)):=by
      have hp':=hp;unfold Ay at hp';rw[hop]at hp';simp only[hc]at hp';repeat' split at hp'
      all_goals first|(cases hp';done)|(cases hp';exact⟨_,rfl⟩)
     obtain⟨b,rfl⟩:=hx;simp only[lQ,hop,hc]at h;split at h
     ·rename_i s'' e;cases h;exact⟨rfl,b,rfl,e⟩
     ·cases h
    obtain⟨rfl,b,rfl,hput⟩:=hg1;obtain⟨b',e,hac,hgood⟩:=bB9 ho hr (fun _ _ h=>by simp at h) hop hc hp;cases e;refine hgood K Q fun v σ' k1 k2 k3 k4=>?_;have hacc:HA (Ac σ'.mem b):=by rw[k3];exact hac
    exact hK _ σ' k1 (k2.adv_own hacc) (vP (fT:=Wm b) rfl (fun x y hxy=>Bx.drop k2.rep (aZF b) hxy) hr k4 k3 hput)
   ·have hstrip:lQ o x s mem=(s,mem):=by
     unfold lQ;split
     ·rename_i c hop;split
      ·rename_i hc;exact absurd ⟨c,hop,hc⟩ happ
      ·rfl
     ·rfl
    rw[hstrip]at h;simp only at h;split at h
    ·rename_i s'' e;cases h;refine U8 hC ho hr (fun _ _ h=>by simp at h) hG (fun c hop hc=>happ ⟨c,hop,hc⟩) hp K Q fun v σ' k1 k2 k3 k4=>?_;refine hK _ σ' k1 k2.adv_id (vP (fT:=id) rfl (fun x y hxy=>?_) hr k4 k3 ?_)
     ·exact Bx.keep k2.rep hxy
     ·simpa using e
    ·cases h
  ·cases h
  ·cases h
 |some gp=>
  obtain⟨gi,p⟩:=gp;rw[hg]at h;simp only at h;split at h
  ·rename_i t d ht hd;cases hb:(Jo o.op&&F7 d s.cs&&!(Nat.beq d t)&&Nat.blt d s.n)with
   |false=>rw[hb]at h;cases h
   |true=>
    rw[hb]at h;simp only[ah,fc]at hb;simp only[cond_true]at h;split at h
    ·rename_i c g x mem hcv hp;obtain⟨hst,h⟩:=AN h;simp only[ae,Step.ok.injEq,dv,fc]at h;obtain⟨hgc,rfl⟩:=h;have hdl:d<a.tmps.size:=by rw[hr.size];simpa using hb.2
     have hdt:t≠d:=fun e=>by subst e;simp[dt]at hb
     have hciff:=i7 hr.tm hr.cs hcv;have hwiff:=aFW (a:=a) hg ht;have hcs:∀{σ':Sit} {v:Value},(∀x y,Bx σ x y->Bx σ' x y)->σ'.mem=mem->(a.tmps.getD t undef=.bool p->Bx σ' x v)->(a.tmps.getD t undef≠.bool p->v=undef) ->
       RelT σ' {s with tm:=(d,.un)::s.tm,cs:=(d,t,p,x)::s.cs,mem:=mem} (a.put o.dst v):=fun {σ' v} hm hmem h1 h2=>by
      rw[hd];exact aFv hr hdl hdt hb.1.1.2 hm hmem h1 h2
     by_cases hw:gl o (yielded ops a.tmps)=true
     ·rw[if_pos hw];have htrue:=hwiff.1 hw;have hc1:c=true:=hciff.2 htrue;have hg1:g=true:=by
       rcases hgc with h|h
       ·exact h
       ·rw[hc1]at h;cases h
      subst hg1;have happ:∀c,o.op=.call c->c.callee≠.builtin .append:=fun c hop hc=>by
       have:=hb.1.1.1;unfold Jo at this;rw[hop]at this;simp only[hc]at this;cases this
      refine U8 hC ho hr (i6 hr.cs htrue) hG happ hp K Q fun v σ' k1 k2 k3 k4=>?_;exact hK _ σ' k1 k2.adv_id (hcs (fun x y hxy=>Bx.keep k2.rep hxy) k3 (fun _=>k4) (fun hn=>absurd htrue hn))
     ·rw[if_neg hw];have hfalse:a.tmps.getD t undef≠.bool p:=fun e=>hw (hwiff.2 e);obtain⟨σ1,b1,b2,b3,b4⟩:=bBg ho hr.mem (by rw[hg];simp) hb.1.1.1 hst hp;have:=hK (a.put o.dst undef) σ1 b3 b4.adv (hcs (fun x y hxy=>b4.repT hxy) b1 (fun e=>absurd e hfalse) (fun _=>rfl));rw[b2]at this;exact this
    ·cases h
    ·cases h
  ·cases h
end Vx
namespace Vx
open Go Go.RowKit
variable {C:Cfg}{base:Base}{S0:Nat->Prop}{σ σ0:Sit}{s s':St}{a:Act}{R:Type}{r:R}
structure ProgOk (C:Cfg):Prop where
 sums:SumsOk C
 mixed:C.P.follows .mixedOrders=true
def Xf(C:Cfg)(inl:FuncId->List SV->Ai->(List SV->Ai->Option R)->Option R):Prop:=
 ∀f args mem k r,inl f args mem k=some r->∀base S0 (σ:Sit) ys,Ok base S0 σ->σ.mem=mem->GlobsOk C.globs σ.w σ.S->All2 (BH σ) args ys ->
  (∃ fn, C.P.funcs[f]? = some fn /\ fn.body.isNone = false /\ (fn.name == "runtime.NumGoroutine") = false) /\
  Calls C.P f ys.toArray σ.w fun e w'=>∃(σ':Sit) (rs:List SV) (zs:List Value),e=.returned (Ei zs)/\σ'.w=w'/\Ok base S0 σ'/\Adv σ σ'/\All2 (BH σ') rs zs/\k rs σ'.mem=some r
theorem GlobsOk.adv{G:List (Nat×Sigma fun τ=>List (Ab τ))}{σ σ':Sit}(h:GlobsOk G σ.w σ.S)(ha:Adv σ σ'):GlobsOk G σ'.w σ'.S:=h.mono ha.stab ha.heap
def M6(base:Base)(S0:Nat->Prop)(σ0:Sit)(r:R)(kn:St->Option R)(ke:Nat->St->Option R)(kr:St->Option R)(e:Exit)(a':Act)(w':World):Prop:=
 ∃(σ':Sit) (s':St),σ'.w=w'/\Ok base S0 σ'/\Adv σ0 σ'/\RelT σ' s' a'/\s'.m0=σ0.mem.length/\(match e with
  |.normal=>kn s'=some r
  |.exit id=>ke id s'=some r
  |.ret=>kr s'=some r
  |_=>False)
theorem bJf{ops:List Oper}{o:Oper}{g:Bool}(h:step C ops o s=some (.ok g s')):s'.m0=s.m0:=by
 unfold step at h;have hput:∀{s1 s2:St} {x:TV} {mem:Ai},Vd s1 o x mem=some s2->s2.m0=s1.m0:=fun {s1 s2 x mem} h=>by
  unfold Vd at h;split at h
  ·cases h;rfl
  ·have h2:=(AN h).2;cases h2;rfl
 split at h
 ·split at h
  ·split at h;rename_i s1 m1 e;split at h
   ·rename_i s2 e2;cases h;rw[hput e2];unfold lQ at e;split at e
    ·split at e
     ·split at e<;>(cases e;rfl)
     ·cases e;rfl
    ·cases e;rfl
   ·cases h
  ·cases h
  ·cases h
 ·split at h
  ·have h:=(AN h).2;split at h
   ·have h:=(AN h).2;cases h;rfl
   ·cases h
   ·cases h
  ·cases h
theorem aYT{c g:Bool}{x:TV}{mem:Ai}{o:Option Res}{f:FuncId}{args:List SV}(h:(bif c then some (.ok g x mem)else o)=some (.inl f args)):o=some (.inl f args):=by
 cases c with
 |true=>cases h
 |false=>exact h
theorem RelT.clear(hr:RelT σ s a):RelT σ {s with cs:=[] } a:=⟨hr.size,hr.defers,hr.mem,hr.tm,fun _ _ _ _ h=>by simp at h⟩
theorem aMM{mem:Ai}:∀{l:List (Nat×Nat)},iX mem l=true->∀p∈l,∃cs,Ac mem p.1=.raw cs
 | [],_,p,hp=>by simp at hp
 |(b,off)::r,h,p,hp=>by
  simp only[iX]at h
  split at h
  ·rename_i cs e
   rcases dc.1 hp with rfl|hp
   ·exact⟨cs,e⟩
   ·exact aMM h p hp
  ·cases h
theorem aNe{σ:Sit}:∀{caps:List (Nat×Nat)} {rs:List Nat},(∀p∈caps,p.1<σ.mem.length)->(∀p∈caps,∃cs,Ac σ.mem p.1=.raw cs)->caps.map (fun p=>σ.E.β p.1)=rs.map some ->
  All2 (BH σ) (caps.map fun p=>SV.one (.ptr p.1 p.2)) ((caps.zip rs).map fun q=>jf (some ⟨q.2,q.1.2,none⟩))
 | [],_,_,_,_=>by simp;exact .nil
 |p::caps,[],_,_,h=>by simp at h
 |p::caps,q::rs,h1,h2,h=>by
  simp only[gb,List.cons.injEq]at h
  obtain⟨cs,e⟩:=h2 p (by simp)
  refine .cons ⟨h1 p (by simp),⟨_,rfl⟩,?_⟩ (aNe (fun p hp=>h1 p (by simp[hp])) (fun p hp=>h2 p (by simp[hp])) h.2)
  rw[e]
  exact⟨q,h.1,rfl⟩
theorem aO1{inl:FuncId->List SV->Ai->(List SV->Ai->Option R)->Option R}(hI:Xf C inl)(ho:Ok base S0 σ)(hr:RelT σ s a)(hG:GlobsOk C.globs σ.w σ.S){o:Oper}{f:FuncId}{args:List SV}{k:List SV->Ai->Option R}
  {ctx:List (Nat×Bool)} (hx:BG a ctx) (hs:Ay C s ctx o=some (.inl f args)) (h:inl f args s.mem k=some r) {K:Act->World->Prop} {Q:Exit->Act->World->Prop}
  (hK:∀(v:Value) (σ':Sit) (rs:List SV) (zs:List Value),Ok base S0 σ'->Adv σ σ'->v=Ei zs->All2 (BH σ') rs zs->k rs σ'.mem=some r->K (a.put o.dst v) σ'.w):o.wp C.P a σ.w K Q:=by
 have hcall:∃c fo caps as,o.op=.call c/\c.callee=.value fo/\Bm s ctx fo=some (.fn f caps)/\EE s ctx c.args.toList=some as/\iX s.mem caps=true/\args=as++caps.map fun p=>SV.one (.ptr p.1 p.2):=by
  unfold Ay at hs;cases hop:o.op with
  |call c=>
   rw[hop]at hs;simp only at hs;cases hc:c.callee with
   |value fo=>
    simp only[hc]at hs;split at hs
    ·rename_i f' caps as ef ea;split at hs
     ·(repeat' split at hs)<;>first|(cases hs;done)|(have h2:=(AN hs).2;(repeat' split at h2)<;>cases h2)
     split at hs
     ·repeat' split at hs
      all_goals cases hs
     ·obtain⟨h1,h2⟩:=AN hs;cases h2;exact⟨c,fo,caps,as,rfl,hc,ef,ea,h1,rfl⟩
    ·(repeat' split at hs)<;>cases hs
    ·cases hs
   |invoke q m=>simp only[hc]at hs;(repeat' split at hs)<;>cases hs
   |builtin b=>
    simp only[hc]at hs;cases b<;>simp only at hs<;>first|(cases hs;done)|(repeat' split at hs)<;>first|(cases hs;done)|(have h2:=(AN hs).2;cases h2;done)|(have h2:=Ed hs;cases h2)
  |_=>
   rw[hop]at hs;simp only at hs;(repeat' split at hs)<;>first|(cases hs;done)|(have h2:=(AN hs).2;(repeat' split at h2)<;>cases h2;done)|(have h2:=aYT hs;have h3:=(AN h2).2;cases h3;done)|(have h2:=Ed hs;(repeat' split at h2)<;>first|(cases h2;done)|(have h3:=(AN h2).2;cases h3))
 obtain⟨c,fo,caps,as,hop,hc,ef,ea,hraw,rfl⟩:=hcall;rw[←hr.mem]at hraw h;obtain⟨hb,_,hm⟩:=BO hr hx ef;have hall:=aMM hraw;obtain⟨rs,hrs,hfv⟩:=hm.resolve_left fun⟨p,hp,hq⟩=>by obtain⟨cs,e⟩:=hall p hp;rw[e]at hq;exact hq
 have hargs:=(Wn hr hx ea).append (aNe hb hall hrs);obtain⟨hcl,hcalls⟩:=hI f _ σ.mem k r h base S0 σ _ ho rfl hG hargs;have hexec:(execOp a.eval o).run C.P σ.w=.ok (.enter f ((c.args.toList.map a.eval)++(caps.zip rs).map fun q=>jf (some ⟨q.2,q.1.2,none⟩)).toArray) σ.w:=by
  simp only[execOp,hop,resolve,hc,hfv];simp only[Deferred.ofValue,ci,di,bm,invoke];rw[vS hcl];congr 2;apply gk.1;simp
 unfold Oper.wp;rw[hexec,Oper.upon_enter];refine hcalls.mono fun e w' he=>?_;obtain⟨σ',rs',zs,rfl,rfl,h1,h2,h3,h4⟩:=he;exact hK (Ei zs) σ' rs' zs h1 h2 rfl h3 h4
theorem WW(hP:ProgOk C){inl:FuncId->List SV->Ai->(List SV->Ai->Option R)->Option R}(hI:Xf C inl)(ops:Array Oper){kn:St->Option R}{ke:Nat->St->Option R}{kr:St->Option R}(hG0:GlobsOk C.globs σ0.w σ0.S):
  ∀(l:List Oper) {σ:Sit} {s:St} {a:Act},Ok base S0 σ->Adv σ0 σ->RelT σ s a->s.m0=σ0.mem.length->Pf C inl ops.toList l s kn=some r->wpList C.P ops (M6 base S0 σ0 r kn ke kr) l a σ.w
 | [],σ,s,a,ho,hA,hr,hm,h=>⟨σ,s,rfl,ho,hA,hr,hm,h⟩
 |o::l,σ,s,a,ho,hA,hr,hm,h=>by
  simp only[Pf]at h
  unfold wpList
  split at h
  ·rename_i g s1 e
   obtain⟨h1,h2⟩:=AN h
   subst h1
   have:=bJg hP.sums ho hr (hG0.adv hA) e (K:=wpList C.P ops (M6 base S0 σ0 r kn ke kr) l) (Q:=M6 base S0 σ0 r kn ke kr) fun a' σ' k1 k2 k3=>
    WW hP hI ops hG0 l k1 (hA.trans k2) k3 ((bJf e).trans hm) h2
   split at this
   ·rename_i hw;rw[if_pos hw];exact .inl this
   ·rename_i hw;rw[if_neg hw];exact this
  ·rename_i f args e
   split at h
   ·rename_i hg
    rw[if_pos (by simp[gl,hg])]
    have hs:Ay C s [] o=some (.inl f args):=by
     unfold step at e
     rw[hg]at e
     simp only at e
     (repeat' split at e)<;>first|(cases e;done)|(cases e;assumption)
    refine .inl (aO1 hI ho hr (hG0.adv hA) (fun _ _ h=>by simp at h) hs h fun v σ' rs zs k1 k2 k3 k4 k5=>?_)
    split at k5
    ·rename_i s2 e2
     refine WW hP hI ops hG0 l k1 (hA.trans k2) (s:=s2) ?_ ?_ k5
     ·refine vP (σ:=σ) (fT:=Wk s.mem) rfl (fun x y hxy=>Bx.drop (by rw[←hr.mem];exact k2.rep) (aNI s.mem) hxy) hr (x:=Pn rs) (v:=v) (by rw[k3];exact aAm k4) rfl e2
     ·unfold Vd at e2
      split at e2
      ·cases e2;exact hm
      ·have:=(AN e2).2;cases this;exact hm
    ·cases k5
   ·cases h
  ·rename_i c t d p f args e
   obtain⟨gi,hg,ht,hd,hnt,hdt,hdl,hcv,hs⟩:∃gi,o.guard=some (gi,p)/\Fa ops.toList gi=some t/\o.dst=some d/\F7 d s.cs=true/\t≠d/\d<s.n/\UO s.tm s.cs t p=some c/\Ay C s (Lv s.cs t p) o=some (.inl f args):=by
    unfold step at e
    split at e
    ·(repeat' split at e)<;>cases e
    ·rename_i gi p' hg
     split at e
     ·rename_i t' d' ht hd
      obtain⟨hb,e⟩:=AN e
      simp only[ah,fc]at hb
      split at e
      ·have:=(AN e).2;cases this
      ·cases e
       exact⟨gi,hg,ht,hd,hb.1.1.2,fun e=>by subst e;simp[dt]at hb,by simpa using hb.2,by assumption,by assumption⟩
      ·cases e
     ·cases e
   have hdl':d<a.tmps.size:=by rw[hr.size];exact hdl
   have hciff:=i7 hr.tm hr.cs hcv
   have hwiff:=aFW (a:=a) hg ht
   cases c with
   |true=>
    rw[cond_true]at h
    have htrue:=hciff.1 rfl
    rw[if_pos (hwiff.2 htrue)]
    refine .inl (aO1 hI ho hr (hG0.adv hA) (i6 hr.cs htrue) hs h fun v σ' rs zs k1 k2 k3 k4 k5=>?_)
    have hr2:RelT σ' {jC s with mem:=σ'.mem} a:=by
     have:=vP (σ:=σ) (σ':=σ') (o:={o with dst:=none}) (v:=undef) (x:=.un) (fT:=Wk s.mem) rfl (fun x y hxy=>Bx.drop (by rw[←hr.mem];exact k2.rep) (aNI s.mem) hxy) hr trivial rfl (s':={jC s with mem:=σ'.mem}) rfl
     simpa[Act.put]using this
    have hnt2:F7 d (jC s).cs=true:=by
     have:∀l:List (Nat×Nat×Bool×TV),F7 d (l.map fun p=>(p.1,p.2.1,p.2.2.1,Wk s.mem p.2.2.2))=F7 d l:=fun l=>by
      induction l with
      |nil=>rfl
      |cons q l ih=>obtain⟨_,_,_,_⟩:=q;simp only[gb,F7,ih]
     show F7 d (s.cs.map _)=true
     rw[this];exact hnt
    rw[hd]
    exact WW hP hI ops hG0 l k1 (hA.trans k2) (aFv hr2 hdl' hdt hnt2 (fun _ _ h=>h) rfl (fun _=>by rw[k3];exact aAm k4) (fun hn=>absurd htrue hn)) hm k5
   |false=>
    rw[cond_false]at h
    have hfalse:a.tmps.getD t undef≠.bool p:=fun e=>by have:=hciff.2 e;cases this
    rw[if_neg (fun hw=>hfalse (hwiff.1 hw)),hd]
    exact WW hP hI ops hG0 l ho hA (aFv hr hdl' hdt hnt (fun _ _ h=>h) hr.mem (fun e=>absurd e hfalse) (fun _=>rfl)) hm h
  ·cases h
end Vx
end
