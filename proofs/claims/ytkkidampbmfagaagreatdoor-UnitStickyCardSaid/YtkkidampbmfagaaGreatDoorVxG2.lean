/- Part 2 of the proof. What is proved: symbolic execution of the functions, proved sound; what each function of the program computes, and that every run ends with it; what these functions compute, in plain numbers. Conditions: each theorem bears its own. -/
import Derived.Test.YtkkidampbmfagaaGreatDoorVxG1
set_option linter.all false
set_option exponentiation.threshold 1000000
noncomputable section
open Array renaming getD_eq_getD_getElem?->dt,getElem?_append->nq,size_append->pg,toList_inj->gb
open Bool renaming and_eq_true->ai,not_eq_true'->dm,or_eq_true->dl
open Go.Builtin renaming append_->ll,copy_->ni,firstCells->ir,growBy->qi,len_->mv,nextslicecap->lb,zeroCells->ng
open Go.IntKind renaming bits->jk,max->om,min->ol,signed->kf
open Go.Program renaming bytesOf->qd
open Go.Region renaming wanted->gg
open Go.Result renaming andThen_ok->bl
open Go.Sem renaming run_bind->cy,run_pure->ee
open Go.Value renaming int->mn,pointer->jb
open Go.Value.slice renaming injEq->qv
open Int renaming le_refl->jy,le_trans->ly,mul_comm->np,mul_le_mul_of_nonneg_left->mg,natCast_mul->jf
open List renaming all_eq_true->le,append_assoc->fj,append_nil->dp,drop_of_length_le->ji,eq_nil_of_length_eq_zero->cq,flatMap_cons->pi,getD_eq_getElem?_getD->al,getElem?_append_left->co,getElem?_append_right->cj,getElem?_cons_succ->gv,getElem?_cons_zero->fy,getElem?_drop->dr,getElem?_eq_getElem->bc,getElem?_eq_some_iff->aw,getElem?_replicate->lj,getElem?_take_of_lt->cr,getElem?_toArray->fw,getElem_mem->gx,length_append->fh,length_cons->gk,length_nil->je,length_take->gm,map_cons->gq,map_nil->mc,mem_append->cz,mem_cons->cx,mem_cons_of_mem->ig,mem_map->mw,nodup_append->jt,nodup_nil->lw,replicate->ax,size_toArray->ph,take->kp,take_length->dj,take_of_length_le->cv
open Nat renaming add_mul->cp,beq_refl->dq,eq_of_beq_eq_true->ak,eq_zero_or_pos->bj,le_refl->cg,le_total->po,le_trans->fk,lt_of_le_of_lt->av,lt_of_lt_of_le->ah,lt_or_ge->au,min_eq_left->ic,min_eq_right->pw,min_le_left->lk,min_le_right->mf,mod_lt->bo,mul_le_mul_right->ay,succ_mul->jv,zero_add->dw,zero_le->ej
open Option renaming getD_some->mh,map_some->js
open Option.some renaming inj->kl,injEq->af
open Prod.mk renaming injEq->dh
namespace Vx
open Go Go.RowKit
variable {C:Cfg}{base:Base}{S0:Nat->Prop}{σ:Sit}{s:St}{a:Act}{ctx:List (Nat×Bool)}{o:Oper}{x:TV}{mem':Ae}
theorem Rv{P:Program}{e:TypeId}{τ:Shape}(eτ:CU P e=some τ):∃i,P.info? e=some i:=by
 have:M8 P 12 e=some τ:=by
  unfold CU at eτ;split at eτ
  ·rename_i τ' e';cases hb:Nat.beq (P.cellsOf e) τ'.width with
   |false=>rw[hb]at eτ;cases eτ
   |true=>rw[hb]at eτ;cases eτ;exact e'
  ·cases eτ
 unfold M8 at this;cases hu:P.underlying e with
 |none=>rw[hu]at this;cases this
 |some d=>exact ZN hu
theorem aFe{P:Program}{T e:TypeId}{n:Nat}{τ:Shape}(hT:P.underlying T=some (.array n e))(eτ:CU P e=some τ){r q:Nat}{k:IntKind}{i:Int}(h0:0<=i)(h1:i<(n:Int))(w:World):
  (Instr.indexAt T (.pointer (some ⟨r,q,none⟩)) (.int k i)).run P w=.ok (.pointer (some ⟨r,q+i.toNat*τ.width,none⟩)) w:=by
 unfold Instr.indexAt;simp[CG hT,asIntOf,Instr.sureAddr,h0,h1,FV (Rv eτ),J2 eτ,JU]
theorem uJ{P:Program}{T e:TypeId}{n c:Nat}{τ:Shape}(hT:P.underlying T=some (.slice e))(eτ:CU P e=some τ){r q:Nat}{k:IntKind}{i:Int}(h0:0<=i)(h1:i<(n:Int))(w:World):
  (Instr.indexAt T (.slice (some ⟨r,q,none⟩) n c) (.int k i)).run P w=.ok (.pointer (some ⟨r,q+i.toNat*τ.width,none⟩)) w:=by
 unfold Instr.indexAt;simp[CG hT,asIntOf,h0,h1,FV (Rv eτ),J2 eτ,JU]
theorem getD_some{α:Type}{xs:List α}{i:Nat}{d:α}(h:i<xs.length):xs[i]? = some (xs.getD i d):=by
 rw[al,bc h];rfl
theorem aFk{τ:Shape}{xs:List (Aa τ)}{r q:Nat}{vs:Array Value}{T:TypeId}{fz:Nat×Nat}{i:Nat}(hS:σ.S r)(hh:σ.w.heap[r]? = some (.cells vs T fz))(hrow:Rows σ.w σ.S τ vs q xs)(hi:i<xs.length):
  Aw σ (.iptr τ (xs.getD i τ.dflt) 0) (.pointer (some ⟨r,q+i*τ.width,none⟩)):=by
 obtain⟨ds,d1,d2⟩:=hrow i _ (getD_some (d:=τ.dflt) hi);exact⟨r,q+i*τ.width,vs,T,fz,ds,rfl,hS,hh,d1,d2⟩
theorem uN{P:Program}{T e:TypeId}{τ:Shape}{xs:List (Aa τ)}{y:Value}(hT:P.underlying T=some (.slice e))(eτ:CU P e=some τ)(hd:AN σ.w σ.S (.slice τ) xs [y]){k:IntKind}{i:Int}(h0:0<=i)(h1:i<(xs.length:Int))(w:World):
  ∃v,(Instr.indexAt T y (.int k i)).run P w=.ok v w/\Aw σ (.iptr τ (xs.getD i.toNat τ.dflt) 0) v:=by
 obtain⟨A,c,hy,hc,hl,hne⟩:=hd;cases hy;have hlt:i.toNat<xs.length:=by omega
 obtain⟨r,q,vs,T',fz,rfl,g1,g2,g3⟩:=hne (fun e=>by subst e;simp at hlt);exact⟨_,uJ hT eτ h0 h1 w,aFk g1 g2 g3 hlt⟩
theorem aPu(ho:Ok base S0 σ)(hr:RelT σ s a)(hx:Bj a ctx)(hG:xR C σ.w σ.S){T:TypeId}{y z:Operand}(hop:o.op=.indexAddr T y z)(h:Ax C s ctx o=some (.ok true x mem')):BE C base S0 id σ a o x mem':=by
 unfold Ax at h;rw[hop]at h;simp only at h;have hex:∀{v:Value},(Instr.indexAt T (a.eval y) (a.eval z)).run C.P σ.w=.ok v σ.w->(execOp a.eval o).run C.P σ.w=.ok (.value v) σ.w:=fun hv=>by
  simp only[execOp,hop];exact Cj hv
 split at h
 ·rename_i n e g i hT ec ei;obtain⟨k,hi,_⟩:=RH hr hx ei;have hc:a.eval y=.pointer (some ⟨g,0,none⟩):=Bs hr hx ec;split at h
  ·rename_i τ xs τ' eg eτ;split at h
   ·rename_i hττ;subst hττ;cases hb:Nat.beq xs.length n with
    |false=>rw[hb]at h;cases h
    |true=>
     rw[hb]at h;simp only[cond_true,af,Res.ok.injEq,aUK,ai,decide_eq_true_eq]at h;obtain⟨⟨g1,g2⟩,rfl,rfl⟩:=h;have hn:xs.length=n:=ak hb;obtain⟨hS,vs,T',fz,hh,hrow⟩:=hG g _ _ eg;refine AX (σ':=σ) (hex (by rw[hc,hi];exact aFe hT eτ g1 g2 σ.w)) ho (Goes.refl σ).moves hr.mem ?_;exact aFk (q:=0) hS hh hrow (by omega)
   ·cases h
  ·cases h
 ·rename_i n e b i hT ec ei;obtain⟨k,hi,_⟩:=RH hr hx ei;have hc:=Bs hr hx ec;split at h
  ·rename_i τ xs τ' eb eτ;split at h
   ·rename_i hττ;subst hττ;simp only[af,Res.ok.injEq,ai,decide_eq_true_eq]at h;obtain⟨⟨⟨g1,g2⟩,g3⟩,rfl,rfl⟩:=h;rw[←hr.mem]at eb;obtain⟨hlt,_,hm⟩:=hc;rw[eb]at hm;obtain⟨r,hβ,hy⟩:=hm;refine AX (σ':=σ) (hex (by rw[hy,hi];exact aFe hT eτ g1 g2 σ.w)) ho (Goes.refl σ).moves hr.mem ?_;refine⟨hlt,trivial,?_⟩;rw[eb];exact⟨by omega,r,hβ,by simp⟩
   ·cases h
  ·cases h
 ·rename_i e c i hT ec ei;obtain⟨k,hi,_⟩:=RH hr hx ei;have hc:=Bs hr hx ec;split at h
  ·rename_i τ eτ;split at h
   ·rename_i b;split at h
    ·rename_i τ' xs eb;split at h
     ·rename_i hττ;subst hττ;simp only[af,Res.ok.injEq,ai,decide_eq_true_eq]at h;obtain⟨⟨g1,g2⟩,rfl,rfl⟩:=h;rw[←hr.mem]at eb;obtain⟨hlt,_,hm⟩:=hc;rw[eb]at hm;obtain⟨r,hβ⟩:=r8 (ho.ent b) eb (by omega);simp only[hβ,js]at hm;have hy:=hm;refine AX (σ':=σ) (hex (by rw[hy,hi];exact uJ hT eτ g1 g2 σ.w)) ho (Goes.refl σ).moves hr.mem ?_;refine⟨hlt,trivial,?_⟩;rw[eb];exact⟨by omega,r,hβ,by simp⟩
     ·cases h
    ·rename_i τ' xs eb;split at h
     ·rename_i hττ;subst hττ;simp only[af,Res.ok.injEq,ai,decide_eq_true_eq]at h;obtain⟨⟨g1,g2⟩,rfl,rfl⟩:=h;rw[←hr.mem]at eb;obtain⟨σ1,a1,a2,a3,a4,a5⟩:=gV ho (.inr eb);have hc1:=a5.repC hc;obtain⟨_,_,hm⟩:=hc1;rw[a1,Ci (DH (by rw[eb];simp)),if_pos rfl]at hm;obtain⟨v,h1,h2⟩:=uN hT eτ hm (k:=k) g1 g2 σ.w;refine AX (σ':=σ1) (v:=v) (by rw[a2];exact hex (by rw[hi];exact h1)) a4 a5.moves (by rw[a1,hr.mem]) h2
     ·cases h
    ·rename_i τ' xs eb;split at h
     ·rename_i hττ;subst hττ;simp only[af,Res.ok.injEq,ai,decide_eq_true_eq]at h;obtain⟨⟨g1,g2⟩,rfl,rfl⟩:=h;rw[←hr.mem]at eb;obtain⟨_,_,hm⟩:=hc;rw[eb]at hm;obtain⟨v,h1,h2⟩:=uN hT eτ hm (k:=k) g1 g2 σ.w;exact AX (σ':=σ) (v:=v) (hex (by rw[hi];exact h1)) ho (Goes.refl σ).moves hr.mem h2
     ·cases h
    ·cases h
   ·rename_i τ' xs;split at h
    ·rename_i hττ;subst hττ;simp only[af,Res.ok.injEq,ai,decide_eq_true_eq]at h;obtain⟨⟨g1,g2⟩,rfl,rfl⟩:=h;obtain⟨v,h1,h2⟩:=uN hT eτ hc (k:=k) g1 g2 σ.w;exact AX (σ':=σ) (v:=v) (hex (by rw[hi];exact h1)) ho (Goes.refl σ).moves hr.mem h2
    ·cases h
   ·rename_i b lo n;split at h
    ·rename_i τ' xs eb;split at h
     ·rename_i hττ;subst hττ;simp only[af,Res.ok.injEq,ai,decide_eq_true_eq]at h;obtain⟨⟨g1,g2⟩,rfl,rfl⟩:=h;rw[←hr.mem]at eb;obtain⟨hlt,_,hm⟩:=hc;rw[eb]at hm;obtain⟨q1,A,cc,hy,q2,q3,q4⟩:=hm;obtain⟨r,hβ,rfl⟩:=q4 (by omega);refine AX (σ':=σ) (hex (by rw[hy,hi];exact uJ hT eτ g1 g2 σ.w)) ho (Goes.refl σ).moves hr.mem ?_;refine⟨hlt,trivial,?_⟩;rw[eb];exact⟨by omega,r,hβ,by rw[cp];simp⟩
     ·cases h
    ·cases h
   ·cases h
  ·cases h
 ·cases h
theorem aF5{τ:Shape}{d:Aa τ}{z:Array Value}(hd:AN σ.w σ.S τ d z.toList)(_hw:0<z.size)(n:Nat):Rows σ.w σ.S τ (madeCells z (n*z.size)) 0 (ax n d):=by
 have hl:=hd.len;simp at hl;intro i x hi;rw[lj]at hi;split at hi
 ·rename_i hin;cases hi;refine⟨z.toList,hd,fun j v hj=>?_⟩;have hjl:j<z.size:=by simpa using(aw.1 hj).1
  rw[←hl,dw];refine aF4 ?_ ?_
  ·have:=ay z.size (show i+1<=n by omega);rw[jv]at this;omega
  ·rw[Nat.add_comm,Nat.add_mul_mod_self_right,Nat.mod_eq_of_lt hjl];simpa using hj
 ·cases hi
theorem aUI{a:Act}{l c:Operand}(h:jA l c=true){n m:Int}{kn km:IntKind}(hn:a.eval l=.int kn n)(hm:a.eval c=.int km m):kn=km/\n=m:=by
 unfold jA at h;split at h
 ·rename_i t t';have:=ak h;subst this;rw[hn]at hm;cases hm;exact⟨rfl,rfl⟩
 ·simp only[ai,decide_eq_true_eq]at h;obtain⟨rfl,rfl⟩:=h;have h1:=hn.symm.trans hm;cases h1;exact⟨rfl,rfl⟩
 ·cases h
theorem aPB(ho:Ok base S0 σ)(hr:RelT σ s a)(hx:Bj a ctx){T:TypeId}{l c:Operand}(hop:o.op=.makeSlice T l c)(h:Ax C s ctx o=some (.ok true x mem')):BE C base S0 id σ a o x mem':=by
 unfold Ax at h;rw[hop]at h;simp only at h;split at h
 ·rename_i e n m hT en em;obtain⟨kn,hn,_⟩:=RH hr hx en;obtain⟨km,hm,_⟩:=RH hr hx em;split at h
  ·rename_i τ z eτ hz;split at h
   ·rename_i d ep;obtain⟨ie,zv,hi,hzv,hzr⟩:=xO hz;obtain⟨y1,y2,hyy,p1,p2⟩:=MZ (hzr σ).cells ep;cases p2;rw[dp]at hyy;rw[←hyy]at p1;have hw:=J2 eτ;have hzl:=p1.len;have hsz:ie.size=C.P.cellsOf e:=by simp[Program.cellsOf,hi]
    have hby:(ie.bytes:Int)=(C.P.bytesOf e:Int):=by simp[qd,hi]
    cases hb0:(jA l c&&Nat.blt 0 (C.P.cellsOf e)&&Nat.blt 0 (C.P.bytesOf e))with
    |true=>
     rw[hb0]at h;simp only[ai]at hb0;simp only[cond_true,af,Res.ok.injEq,ai,decide_eq_true_eq]at h;obtain⟨⟨g1,g2⟩,rfl,rfl⟩:=h;have hnm:kn=km/\n=m:=aUI hb0.1.1 hn hm;obtain⟨rfl,rfl⟩:=hnm;have hpos:0<C.P.cellsOf e:=by simpa using hb0.1.2
     have hbpos:0<C.P.bytesOf e:=by simpa using hb0.2
     have hnle:n<=E1:=by
      refine ly ?_ g2;have:=mg (a:=1) (b:=(C.P.bytesOf e:Int)) (c:=n) (by omega) g1;omega
     have hrun:=run_make (P:=C.P) σ.w T e ie zv hT hi hzv kn kn n n g1 (jy _) (by rw[hby,np];unfold E1 at g2;omega) (by unfold E1 at hnle;omega);have hzs:zv.cells.size=C.P.cellsOf e:=by simpa[hw]using hzl
     obtain⟨k1,k2,k3,k4,k5⟩:=r7 ho (T:=e) (τ:=τ) (xs:=ax n.toNat d) (vs:=madeCells zv.cells (n.toNat*ie.size)) (k:=n.toNat) (by simp) (by unfold BQ;unfold E1 at hnle;omega) (by rw[size_madeCells,hsz,hw])
      (by rw[hsz,←hzs];exact aF5 p1 (by omega) n.toNat)
     refine AX (σ':=σ.push (.arr τ (ax n.toNat d)) (.cells (madeCells zv.cells (n.toNat*ie.size)) e) n.toNat) ?_ k1 k2.moves (by simp[Sit.push,hr.mem]) ?_ (v:=.slice (some ⟨σ.w.heap.size,0,none⟩) n.toNat n.toNat)
     ·simp only[execOp,hop,hn,hm];exact Cj hrun
     ·rw[←hr.mem];refine⟨by simp[Sit.push],trivial,?_⟩;rw[k3];simp only[k4,k5,js,List.length_replicate]
    |false=>
     rw[hb0]at h;simp only[cond_false]at h;cases hb:(Nat.blt 0 (C.P.cellsOf e)&&Nat.blt 0 (C.P.bytesOf e))with
     |false=>rw[hb]at h;cases h
     |true=>
      rw[hb]at h;simp only[ai]at hb;simp only[cond_true,af,Res.ok.injEq,ai,decide_eq_true_eq]at h;obtain⟨⟨⟨g0,g1⟩,g2⟩,rfl,rfl⟩:=h;have hpos:0<C.P.cellsOf e:=by simpa using hb.1
      have hbpos:0<C.P.bytesOf e:=by simpa using hb.2
      have hnle:m<=E1:=by
       refine ly ?_ g2;have:=mg (a:=1) (b:=(C.P.bytesOf e:Int)) (c:=m) (by omega) (ly g0 g1);omega
      have hrun:=run_make (P:=C.P) σ.w T e ie zv hT hi hzv kn km n m g0 g1 (by rw[hby,np];unfold E1 at g2;omega) (by unfold E1 at hnle;omega);have hzs:zv.cells.size=C.P.cellsOf e:=by simpa[hw]using hzl
      have hg:=iW ho (.acc τ (ax n.toNat d)) (.cells (madeCells zv.cells (m.toNat*ie.size)) e) m.toNat;have hblk:Ac (σ.push (.acc τ (ax n.toNat d)) (.cells (madeCells zv.cells (m.toNat*ie.size)) e) m.toNat).mem σ.mem.length=.acc τ (ax n.toNat d):=Mz;have hrows:Rows σ.w σ.S τ (madeCells zv.cells (m.toNat*ie.size)) 0 (ax n.toNat d):=by
       have:=aF5 p1 (by omega) m.toNat;rw[hsz,←hzs];intro i x hi;refine this i x ?_;rw[lj]at hi⊢;split at hi
       ·rw[if_pos (by omega)];exact hi
       ·cases hi
      have hok:Ok base S0 (σ.push (.acc τ (ax n.toNat d)) (.cells (madeCells zv.cells (m.toNat*ie.size)) e) m.toNat):=by
       refine wD ho _ _ _ ?_;unfold AF;rw[hblk];refine⟨by simp[Sit.push,AC];omega,by simp[Sit.push,AC];unfold BQ;unfold E1 at hnle;omega,.inr ⟨σ.w.heap.size,_,e,by simp[Sit.push,AC],VA,?_,hrows.mono hg.stab hg.heap⟩⟩;rw[size_madeCells,hsz,hw];simp[Sit.push,AC]
      refine AX (σ':=σ.push (.acc τ (ax n.toNat d)) (.cells (madeCells zv.cells (m.toNat*ie.size)) e) m.toNat) ?_ hok hg.moves (by simp[Sit.push,hr.mem]) ?_ (v:=.slice (some ⟨σ.w.heap.size,0,none⟩) n.toNat m.toNat)
      ·simp only[execOp,hop,hm,hn];exact Cj hrun
      ·rw[←hr.mem];refine⟨by simp[Sit.push],trivial,?_⟩;rw[hblk];simp[Sit.push,AC]
   ·cases h
  ·cases h
 ·cases h
theorem aPo(ho:Ok base S0 σ)(hr:RelT σ s a)(hx:Bj a ctx){y:Operand}{i:Nat}(hop:o.op=.extract y i)(h:Ax C s ctx o=some (.ok true x mem')):BE C base S0 id σ a o x mem':=by
 unfold Ax at h;rw[hop]at h;simp only at h;split at h
 ·rename_i l e;split at h
  ·rename_i v ev;simp only[af,Res.ok.injEq,true_and]at h;obtain⟨rfl,rfl⟩:=h;obtain⟨_,ys,hy,ha⟩:=Zo hr hx e;obtain⟨u,hu,hR⟩:=ha.get ev;refine AX (σ':=σ) (v:=u) ?_ ho (Goes.refl σ).moves hr.mem hR;simp only[execOp,hop,hy];refine Cj ?_;simp[Instr.extract,hu]
  ·cases h
 ·cases h
theorem aPt(ho:Ok base S0 σ)(hr:RelT σ s a)(hx:Bj a ctx){T:TypeId}{y z:Operand}(hop:o.op=.index T y z)(h:Ax C s ctx o=some (.ok true x mem')):BE C base S0 id σ a o x mem':=by
 unfold Ax at h;rw[hop]at h;simp only at h;split at h
 ·rename_i str i hT ec ei;obtain⟨k,hi,_⟩:=RH hr hx ei;obtain⟨hy,_⟩:=Bs hr hx ec;simp only[af,Res.ok.injEq,ai,decide_eq_true_eq]at h;obtain⟨⟨g1,g2⟩,rfl,rfl⟩:=h;have hlt:i.toNat<str.size:=by omega
  have hb:str.data.toList.getD i.toNat 0=str[i.toNat]:=by
   rw[al,bc (by simpa using hlt)];rfl
  refine AX (σ':=σ) (v:=.int .u8 ((str.data.toList.getD i.toNat 0).toNat:Int)) ?_ ho (Goes.refl σ).moves hr.mem ⟨rfl,?_⟩
  ·simp only[execOp,hop,hy,hi];refine Cj ?_;unfold Instr.index;simp only[cy,asIntOf,ee,bl,CG hT];rw[if_pos g1,getElem?_pos str i.toNat hlt];rw[hb];rfl
  ·generalize str.data.toList.getD i.toNat 0=u;have:=u.toNat_lt;simp only[Wv,ol,om,kf,jk];simp;omega
 ·cases h
theorem aPp(ho:Ok base S0 σ)(hr:RelT σ s a)(hx:Bj a ctx){T:TypeId}{y:Operand}{i:Nat}(hop:o.op=.field T y i)(h:Ax C s ctx o=some (.ok true x mem')):BE C base S0 id σ a o x mem':=by
 unfold Ax at h;rw[hop]at h;simp only at h;split at h
 ·rename_i cs d ft ec ef;obtain⟨ys,hy,ha⟩:=Hd hr hx ec;have hfd:∃fs f,C.P.underlying T=some (.struct fs)/\fs[i]? = some f/\f.offset=d/\f.type=ft:=by
   unfold Zp at ef;split at ef
   ·rename_i fs e;split at ef
    ·rename_i f eff;cases hb:Nat.beq (C.P.cellsOf f.type) 0 with
     |true=>rw[hb]at ef;cases ef
     |false=>rw[hb]at ef;cases ef;exact⟨fs,f,e,by simpa using eff,rfl,rfl⟩
    ·cases ef
   ·cases ef
  obtain⟨fs,f,hu,hf,rfl,rfl⟩:=hfd;have hex:∀{v:Value},(part f.type ys.toArray f.offset).run C.P σ.w=.ok v σ.w->(execOp a.eval o).run C.P σ.w=.ok (.value v) σ.w:=fun hv=>by
   simp only[execOp,hop,hy];refine Cj ?_;unfold Instr.field;simp[CG hu,hf,asAgg,hv]
  split at h
  ·rename_i hT;split at h
   ·rename_i l et;simp only[af,Res.ok.injEq,true_and]at h;obtain⟨rfl,rfl⟩:=h;obtain⟨v,h1,h2⟩:=vM ha hT et σ.w;exact AX (σ':=σ) (v:=v) (hex h1) ho (Goes.refl σ).moves hr.mem h2
   ·cases h
  ·rename_i hT;split at h
   ·rename_i c l et;simp only[af,Res.ok.injEq,true_and]at h;obtain⟨rfl,rfl⟩:=h;obtain⟨v,h1,h2⟩:=vN ha hT et σ.w;exact AX (σ':=σ) (v:=v) (hex h1) ho (Goes.refl σ).moves hr.mem h2
   ·cases h
  ·cases h
 ·cases h
end Vx
namespace Vx
open Go Go.RowKit
variable {C:Cfg}{base:Base}{S0:Nat->Prop}{σ:Sit}{s:St}{a:Act}{ctx:List (Nat×Bool)}{o:Oper}{x:TV}{mem':Ae}
theorem RR{P:Program}{c:Call}{b:Builtin}(hop:o.op=.call c)(hc:c.callee=.builtin b)(w:World):
  ∃cs:Array Bool,(execOp a.eval o).run P w=(builtin b c.argTypes o.type cs (c.args.map a.eval)).run P w:=by
 simp only[execOp,hop,resolve,hc];simp only[cy,ee,bl,invoke];exact⟨_,rfl⟩
theorem Rm{c:Call}{l:List Operand}(h:c.args.toList=l):c.args.map a.eval=(l.map a.eval).toArray:=by
 apply gb.1;simp[h]
theorem Wp{c:Call}{l:List TypeId}(h:c.argTypes.toList=l):c.argTypes=l.toArray:=by
 apply gb.1;simp[h]
theorem RI{n:Nat}(h:n<BQ):Wv (.int .i64 (n:Int)):=by
 simp only[Wv,ol,om,kf,jk];unfold BQ at h;simp;omega
theorem aPw(ho:Ok base S0 σ)(hr:RelT σ s a)(hx:Bj a ctx){c:Call}(hop:o.op=.call c)(hc:c.callee=.builtin .len)(h:Ax C s ctx o=some (.ok true x mem')):BE C base S0 id σ a o x mem':=by
 unfold Ax at h;rw[hop]at h;simp only[hc]at h;have hex:∀{y:Operand} {T:TypeId} {v:Value},c.args.toList=[y]->c.argTypes.toList=[T]->(mv #[T] o.type #[a.eval y]).run C.P σ.w=.ok v σ.w->(execOp a.eval o).run C.P σ.w=.ok (.value v) σ.w:=
  fun h1 h2 hv=>by
   obtain⟨cs,hcs⟩:=RR (a:=a) (P:=C.P) hop hc σ.w;rw[hcs,Rm h1,Wp h2];simp only[builtin];exact Cj hv
 split at h
 ·rename_i y T e1 e2;split at h
  ·rename_i n e hT;cases hb:Nat.blt n 9223372036854775808 with
   |false=>rw[hb]at h;cases h
   |true=>
    rw[hb]at h;simp only[cond_true,af,Res.ok.injEq,true_and]at h;obtain⟨rfl,rfl⟩:=h;refine AX (σ':=σ) (v:=.int .i64 (n:Int)) (hex e1 e2 ?_) ho (Goes.refl σ).moves hr.mem ⟨rfl,RI (by simpa[BQ]using hb)⟩;unfold mv;simp[CG hT,goInt]
  ·rename_i e hT;split at h
   ·rename_i q eq;split at h
    ·cases h
    ·rename_i b lo n;split at h
     ·rename_i τ' xs eb;simp only[af,Res.ok.injEq,true_and]at h;obtain⟨rfl,rfl⟩:=h;have hq:=Bs hr hx eq;rw[←hr.mem]at eb;obtain⟨_,_,hm⟩:=hq;rw[eb]at hm;obtain⟨q1,A,cc,hy,q2,q3,q4⟩:=hm;refine AX (σ':=σ) (v:=.int .i64 (n:Int)) (hex e1 e2 ?_) ho (Goes.refl σ).moves hr.mem ⟨rfl,RI (by omega)⟩;rw[hy];unfold mv;simp[CG hT,goInt]
     ·cases h
    ·rename_i hns hns2;split at h
     ·rename_i n en;simp only[af,Res.ok.injEq,true_and]at h;obtain⟨rfl,rfl⟩:=h;have hq:=Bs hr hx eq;rw[←hr.mem]at en;obtain⟨A,k,hy⟩:=aOI hq (fun str e=>hns str e) en;refine AX (σ':=σ) (v:=.int .i64 (n:Int)) (hex e1 e2 ?_) ho (Goes.refl σ).moves hr.mem ⟨rfl,RI (aOH ho hq en)⟩;rw[hy];unfold mv;simp[CG hT,goInt]
     ·cases h
   ·cases h
  ·rename_i hT;split at h
   ·rename_i str es;simp only[af,Res.ok.injEq,true_and]at h;obtain⟨rfl,rfl⟩:=h;obtain⟨hy,hl⟩:=Bs hr hx es;refine AX (σ':=σ) (v:=.int .i64 (str.size:Int)) (hex e1 e2 ?_) ho (Goes.refl σ).moves hr.mem ⟨rfl,RI hl⟩;rw[hy];unfold mv;simp[CG hT,goInt]
   ·cases h
  ·cases h
 ·cases h
theorem aPD(ho:Ok base S0 σ)(hr:RelT σ s a)(hx:Bj a ctx){c:Call}(hop:o.op=.call c)(hc:c.callee=.builtin .min)(h:Ax C s ctx o=some (.ok true x mem')):BE C base S0 id σ a o x mem':=by
 unfold Ax at h;rw[hop]at h;simp only[hc]at h;split at h
 ·rename_i y z e1;split at h
  ·rename_i k p k' q ep eq;split at h
   ·rename_i hk;subst hk;simp only[af,Res.ok.injEq,true_and]at h;obtain⟨rfl,rfl⟩:=h;obtain⟨hp,wp⟩:=Bs hr hx ep;obtain⟨hq,wq⟩:=Bs hr hx eq;refine AX (σ':=σ) (v:=.int k' (if q<p then q else p)) ?_ ho (Goes.refl σ).moves hr.mem ⟨rfl,?_⟩
    ·obtain⟨cs,hcs⟩:=RR (a:=a) (P:=C.P) hop hc σ.w;rw[hcs,Rm e1];simp only[builtin];refine Cj ?_;simp only[Builtin.min_,gq,mc,hp,hq];simp[Builtin.min2]
    ·split
     ·exact wq
     ·exact wp
   ·cases h
  ·cases h
 ·cases h
theorem aPC(ho:Ok base S0 σ)(hr:RelT σ s a)(hx:Bj a ctx){c:Call}(hop:o.op=.call c)(hc:c.callee=.builtin .max)(h:Ax C s ctx o=some (.ok true x mem')):BE C base S0 id σ a o x mem':=by
 unfold Ax at h;rw[hop]at h;simp only[hc]at h;split at h
 ·rename_i y z e1;split at h
  ·rename_i k p k' q ep eq;split at h
   ·rename_i hk;subst hk;simp only[af,Res.ok.injEq,true_and]at h;obtain⟨rfl,rfl⟩:=h;obtain⟨hp,wp⟩:=Bs hr hx ep;obtain⟨hq,wq⟩:=Bs hr hx eq;refine AX (σ':=σ) (v:=.int k' (if q>p then q else p)) ?_ ho (Goes.refl σ).moves hr.mem ⟨rfl,?_⟩
    ·obtain⟨cs,hcs⟩:=RR (a:=a) (P:=C.P) hop hc σ.w;rw[hcs,Rm e1];simp only[builtin];refine Cj ?_;simp only[Builtin.max_,gq,mc,hp,hq];simp[Builtin.max2]
    ·split
     ·exact wq
     ·exact wp
   ·cases h
  ·cases h
 ·cases h
theorem aHc:∀{l:List SV} {ys:List Value} {cl:List (Nat×Nat)},All2 (A8 σ) l ys->Ei σ.mem l=some cl ->
  (∀p∈cl,p.1<σ.mem.length)/\∃rs:List Nat,cl.map (fun p=>σ.E.β p.1)=rs.map some/\ys=(cl.zip rs).map fun q=>jb (some ⟨q.2,q.1.2,none⟩)
 | [],_,cl,.nil,h=>by simp[Ei]at h;subst h;exact⟨by simp,[],rfl,rfl⟩
 |.one (.ptr b off)::r,_,cl,.cons hc ht,h=>by
  simp only[Ei]at h
  split at h
  ·rename_i cs l e1 e2
   cases h
   obtain⟨g1,rs,g2,g3⟩:=aHc ht e2
   obtain⟨q,hq,hy⟩:=Aw.ptr_raw hc e1
   refine⟨?_,q::rs,?_,?_⟩
   ·intro p hp
    rcases cx.1 hp with rfl|hp
    ·exact hc.1
    ·exact g1 p hp
   ·simp[hq,g2]
   ·simp[hy,g3]
  ·cases h
 |.one .undef::_,_,_,_,h=>by simp[Ei]at h
 |.one (.v _)::_,_,_,_,h=>by simp[Ei]at h
 |.one (.fl _ _)::_,_,_,_,h=>by simp[Ei]at h
 |.one (.sl _ _)::_,_,_,_,h=>by simp[Ei]at h
 |.one (.own _)::_,_,_,_,h=>by simp[Ei]at h
 |.one (.eptr _ _ _)::_,_,_,_,h=>by simp[Ei]at h
 |.one (.iptr _ _ _)::_,_,_,_,h=>by simp[Ei]at h
 |.one (.sub _ _ _)::_,_,_,_,h=>by simp[Ei]at h
 |.one (.gptr _)::_,_,_,_,h=>by simp[Ei]at h
 |.one (.fnv _)::_,_,_,_,h=>by simp[Ei]at h
 |.one (.ifv _)::_,_,_,_,h=>by simp[Ei]at h
 |.one (.fn _ _)::_,_,_,_,h=>by simp[Ei]at h
 |.agg _::_,_,_,_,h=>by simp[Ei]at h
theorem aPz(ho:Ok base S0 σ)(hr:RelT σ s a)(hx:Bj a ctx){fn:Fn}{first captured:Array Operand}(hop:o.op=.makeFunc fn first captured)(h:Ax C s ctx o=some (.ok true x mem')):BE C base S0 id σ a o x mem':=by
 unfold Ax at h;rw[hop]at h;simp only at h;split at h
 ·rename_i f hf;split at h
  ·rename_i vs ev;split at h
   ·rename_i cl ecl;simp only[af,Res.ok.injEq,true_and]at h;obtain⟨rfl,rfl⟩:=h;rw[←hr.mem]at ecl;obtain⟨g1,rs,g2,g3⟩:=aHc (SR hr hx ev) ecl;have e1:first.map a.eval=#[]:=by apply gb.1;simp[hf]
    have e2:captured.map a.eval=((cl.zip rs).map fun q=>jb (some ⟨q.2,q.1.2,none⟩)).toArray:=by
     apply gb.1;simpa using g3
    refine AX (σ':=σ) (v:=.func (.func f) #[] ((cl.zip rs).map fun q=>jb (some ⟨q.2,q.1.2,none⟩)).toArray) ?_ ho (Goes.refl σ).moves hr.mem ⟨g1,trivial,.inr ⟨rs,g2,rfl⟩⟩;simp only[execOp,hop,e1,e2];exact Cj rfl
   ·cases h
  ·cases h
 ·cases h
end Vx
namespace Vx
open Go Go.RowKit
variable {C:Cfg}{base:Base}{S0:Nat->Prop}{σ:Sit}{s:St}{a:Act}{ctx:List (Nat×Bool)}{o:Oper}{x:TV}{mem':Ae}
theorem wF:∀(L:List Value) (vs:Array Value) (p q:Nat),p+L.length<=vs.size->(CE vs p L)[q]? = if p<=q/\q<p+L.length then L[q-p]? else vs[q]?:=by
 intro L vs p q h;rw[←Array.getElem?_toList,V1 L vs p h,fj];split
 ·rename_i hq;rw[cj (by simp;omega)];have:(kp p vs.toList).length=p:=by simp;omega
  rw[this,co (by omega)]
 ·rename_i hq;rcases au q p with hlt|hge
  ·rw[co (by simp;omega),cr hlt];simp
  ·rw[cj (by simp;omega)];have:(kp p vs.toList).length=p:=by simp;omega
   rw[this,cj (by omega),dr];rw[show p+L.length+(q-p-L.length)=q by omega];simp
def TE(w:World)(S:Nat->Prop)(e:Shape)(L:List Value)(xs:List (Aa e)):Prop:=∀i x,xs[i]? = some x->∃ds,AN w S e x ds/\∀j d,ds[j]? = some d->L[i*e.width+j]? = some d
theorem RQ{i k w j:Nat}(h:i<k)(hj:j<w):i*w+j<k*w:=by
 have:=ay w (show i+1<=k by omega);rw[jv]at this;omega
theorem aEh{P:Program}{w:World}{S:Nat->Prop}{e:Shape}{ys:List (Aa e)}{A:Option Addr}{m c:Nat}(hne:ys≠[]->∃r q vs T fz,A=some ⟨r,q,none⟩/\w.heap[r]? = some (.cells vs T fz)/\Rows w S e vs q ys){n:Nat}(hn:n<=ys.length):
  ∃L:List Value,(ir e.width n (.slice A m c)).run P w=.ok L.toArray w/\L.length=n*e.width/\TE w S e L (ys.take n)/\(∀v∈L,scalar v):=by
 rcases bj n with h0|hpos
 ·subst h0;refine⟨[],?_,by simp,fun i x hi=>by simp at hi,by simp⟩;cases A with
  |none=>simp[ir]
  |some ad=>simp[ir,loadCells,loadCellsFrom]
 ·have hys:ys≠[]:=by intro e;subst e;simp at hn;omega
  obtain⟨r,q,vs,T,fz,rfl,hh,hrow⟩:=hne hys;have hsz:q+n*e.width<=vs.size∨e.width=0:=by
   rcases bj e.width with hw|hw
   ·exact .inr hw
   ·left;obtain⟨ds,d1,d2⟩:=hrow (n-1) (ys.getD (n-1) e.dflt) (getD_some (by omega));have hdl:=d1.len;obtain⟨v,hv⟩:∃v,ds[e.width-1]? = some v:=⟨ds[e.width-1]'(by omega),bc (by omega)⟩
    have:=(Array.getElem?_eq_some_iff.1 (d2 _ _ hv)).1;have h1:(n-1)*e.width+e.width=n*e.width:=by
     rw[←jv];congr 1;omega
    omega
  have hfirst:(ys.take n).length=n:=by simp;omega
  rcases hsz with hsz|hw0
  ·refine⟨(vs.toList.drop q).take (n*e.width),by simp[ir,aT5 hh hsz],by simp;omega,fun i x hi=>?_,?_⟩
   ·have hin:=(aw.1 hi).1;rw[hfirst]at hin;rw[cr hin]at hi;obtain⟨ds,d1,d2⟩:=hrow i x hi;refine⟨ds,d1,fun j d hj=>?_⟩;have hjl:=(aw.1 hj).1;rw[d1.len]at hjl;rw[cr (RQ hin hjl),dr];have:=d2 j d hj;rw[←Nat.add_assoc];simpa using this
   ·intro v hv;obtain⟨k,hk⟩:=List.mem_iff_getElem?.1 hv;have hkl:=(aw.1 hk).1;have hkn:k<n*e.width:=by simp at hkl;omega
    rw[cr hkn,dr]at hk;have hw:0<e.width:=by
     rcases bj e.width with h|h
     ·rw[h]at hkn;simp at hkn
     ·exact h
    have hi:k/e.width<ys.length:=ah ((Nat.div_lt_iff_lt_mul hw).2 hkn) hn;obtain⟨ds,d1,d2⟩:=hrow (k/e.width) _ (getD_some (d:=e.dflt) hi);have hdl:=d1.len;have hjl:k%e.width<ds.length:=by rw[hdl];exact bo _ hw
    have h2:=d2 (k%e.width) _ (bc hjl);have h3:q+k/e.width*e.width+k%e.width=q+k:=by
     have:=Nat.div_add_mod k e.width;rw[Nat.mul_comm]at this;omega
    rw[h3]at h2;have h4:vs.toList[q+k]? = some ds[k%e.width]:=by simpa using h2
    rw[hk]at h4;cases h4;exact d1.scalar _ (gx _)
  ·refine⟨[],by rw[hw0];simp[ir,loadCells,loadCellsFrom],by rw[hw0];simp,fun i x hi=>?_,by simp⟩;have hin:=(aw.1 hi).1;rw[hfirst]at hin;rw[cr hin]at hi;obtain⟨ds,d1,d2⟩:=hrow i x hi;refine⟨ds,d1,fun j d hj=>?_⟩;have hjl:=(aw.1 hj).1;rw[d1.len,hw0]at hjl;omega
theorem Zr{P:Program}{e:Shape}{ys:List (Aa e)}{y:Value}(hd:AN σ.w σ.S (.slice e) ys [y]){n:Nat}(hn:n<=ys.length):
  ∃L:List Value,(ir e.width n y).run P σ.w=.ok L.toArray σ.w/\L.length=n*e.width/\TE σ.w σ.S e L (ys.take n)/\(∀v∈L,scalar v):=by
 obtain⟨A,c,hy,hc,hl,hne⟩:=hd;cases hy;exact aEh (fun h=>by obtain⟨r,q,vs,T,fz,h1,_,h2,h3⟩:=hne h;exact⟨r,q,vs,T,fz,h1,h2,h3⟩) hn
theorem wN{w:World}{S:Nat->Prop}{e:Shape}{vs:Array Value}{xs ys:List (Aa e)}{L:List Value}{k:Nat}(hx:Rows w S e vs 0 xs)(hy:TE w S e L ys)(hl:L.length=ys.length*e.width)(hk:k<=xs.length)
  (hfit:k*e.width+L.length<=vs.size):Rows w S e (CE vs (k*e.width) L) 0 (xs.take k++ys++xs.drop (k+ys.length)):=by
 intro i x hi;rw[fj]at hi;have hkl:(xs.take k).length=k:=by simp;omega
 rcases au i k with h1|h1
 ·rw[co (by omega),cr h1]at hi;obtain⟨ds,d1,d2⟩:=hx i x hi;refine⟨ds,d1,fun j d hj=>?_⟩;have hjl:=(aw.1 hj).1;rw[d1.len]at hjl;have:=RQ h1 hjl;rw[wF _ _ _ _ hfit,if_neg (by omega)];exact d2 j d hj
 ·rw[cj (by omega),hkl]at hi;rcases au (i-k) ys.length with h2|h2
  ·rw[co h2]at hi;obtain⟨ds,d1,d2⟩:=hy (i-k) x hi;refine⟨ds,d1,fun j d hj=>?_⟩;have hjl:=(aw.1 hj).1;rw[d1.len]at hjl;have h3:=RQ h2 hjl;have h4:(i-k)*e.width+k*e.width=i*e.width:=by rw[←cp];congr 1;omega
   rw[wF _ _ _ _ hfit,if_pos (by omega)];rw[show 0+i*e.width+j-k*e.width=(i-k)*e.width+j by omega];exact d2 j d hj
  ·rw[cj h2,dr]at hi;rw[show k+ys.length+(i-k-ys.length)=i by omega]at hi;obtain⟨ds,d1,d2⟩:=hx i x hi;refine⟨ds,d1,fun j d hj=>?_⟩;have h3:=ay e.width (show k+ys.length<=i by omega);rw[cp]at h3;rw[wF _ _ _ _ hfit,if_neg (by omega)];exact d2 j d hj
theorem TE.mono{w w':World}{S S':Nat->Prop}(hS:∀r,S r->S' r)(hH:∀r,S r->w'.heap[r]? = w.heap[r]?){e:Shape}{L:List Value}{xs:List (Aa e)}
  (h:TE w S e L xs):TE w' S' e L xs:=fun i x hi=>by
 obtain⟨ds,h1,h2⟩:=h i x hi
 exact⟨ds,h1.mono hS hH,h2⟩
theorem Tb{P:Program}{e:Shape}{ys:List (Aa e)}{y:Value}(hd:AN σ.w σ.S (.slice e) ys [y])(w:World):(Builtin.lenOf y).run P w=.ok ys.length w:=by
 obtain⟨A,c,hy,_⟩:=hd;cases hy;rfl
theorem aPn(ho:Ok base S0 σ)(hr:RelT σ s a)(hx:Bj a ctx){c:Call}(hop:o.op=.call c)(hc:c.callee=.builtin .copy)(h:Ax C s ctx o=some (.ok true x mem')):BE C base S0 id σ a o x mem':=by
 unfold Ax at h;rw[hop]at h;simp only[hc]at h;split at h
 ·rename_i y z T Ts e1 e2;split at h
  ·rename_i e b yc hT eb ey;split at h
   ·rename_i τ eτ;cases hf:C8 s.mem yc with
    |mk yc' m1=>
     rw[hf]at h;simp only at h;rw[←hr.mem]at hf;obtain⟨σ1,a1,a2,a3,a4,a5,a6⟩:=RC ho hf;split at h
     ·rename_i ys τ' xs0 eys exs;split at h
      ·rename_i xs ecast;obtain⟨hττ,hxs⟩:=Ih ecast;subst hττ;simp only at hxs;subst hxs;simp only[af,Res.ok.injEq,true_and]at h;obtain⟨rfl,rfl⟩:=h;have hd:=Za (a6 _ (Bs hr hx ey)) (Zu hf) (by rw[a1];exact eys);have hb:=a5.repC (Bs hr hx eb);rw[←a1]at exs;obtain⟨hlt,_,hm⟩:=hb;rw[exs]at hm;simp only at hm;cases hβ:σ1.E.β b with
       |none=>
        have hnil:xs=[]/\σ1.E.κ b=0:=by
         have he:=a4.ent b;unfold AF at he;rw[exs]at he;obtain⟨q1,q2,q3⟩:=he;rcases q3 with⟨_,q4⟩|⟨r,_,_,q4,_⟩
         ·exact⟨cq (by omega),q4⟩
         ·rw[hβ]at q4;cases q4
        obtain⟨rfl,hκ⟩:=hnil;rw[hβ,hκ]at hm;have hset:m1.set b (.arr τ' (ys.take ([]:List (Aa τ')).length++([]:List (Aa τ')).drop ys.length))=m1:=by
         have e0:(ys.take ([]:List (Aa τ')).length++([]:List (Aa τ')).drop ys.length)=[]:=by simp
         rw[e0,←a1];exact wR exs (by simp)
        rw[hset];obtain⟨L,f1,f2,f3,f4⟩:=Zr (P:=C.P) hd (n:=0) (ej _);refine AX (σ':=σ1) (v:=.int .i64 ((min ys.length 0:Nat):Int)) ?_ a4 a5.moves a1 ⟨rfl,RI (n:=min ys.length 0) (av (mf _ _) (by decide))⟩;obtain⟨cs,hcs⟩:=RR (a:=a) (P:=C.P) hop hc σ.w;rw[hcs,Rm e1,Wp e2];simp only[builtin];refine Cj ?_;unfold ni;simp only[gq,mc,fw,fy,gv,hm,Option.map_none,je];have hmz:Nat.min ys.length 0=0:=Nat.min_zero _;simp only[cy,CG hT,bl,Tb hd,FV (Rv eτ),J2 eτ,hmz];rw[←a2,f1];simp[goInt]
       |some r=>
       rw[hβ]at hm;have hy:=hm;simp only[js]at hy;obtain⟨hl0,hl1,vs,T',h2,h3,h4⟩:=f0 (a4.ent b) exs hβ;have hown:σ1.owned b r:=⟨by rw[exs];trivial,hβ⟩
       have hrl:=(a4.own b r hown).2.1;obtain⟨L,f1,f2,f3,f4⟩:=Zr (P:=C.P) hd (n:=Nat.min ys.length xs.length) (lk _ _);have hmin:(ys.take (Nat.min ys.length xs.length)).length=Nat.min ys.length xs.length:=by simp
       have hnle:Nat.min ys.length xs.length<=xs.length:=mf _ _;have hfit:0*τ'.width+L.length<=vs.size:=by
        rw[f2,h3];have:=ay τ'.width (fk hnle hl0);omega
       have hrows:=wN (k:=0) h4 f3 (by rw[hmin];exact f2) (ej _) hfit;have hres:xs.take 0++ys.take (Nat.min ys.length xs.length)++xs.drop (0+(ys.take (Nat.min ys.length xs.length)).length)=ys.take xs.length++xs.drop ys.length:=by
        rw[hmin];simp only[List.take_zero,List.nil_append,dw];rcases po ys.length xs.length with hle|hle
        ·have:Nat.min ys.length xs.length=ys.length:=ic hle;rw[this,cv (cg _),cv hle]
        ·have:Nat.min ys.length xs.length=xs.length:=pw hle;rw[this,ji (cg _),ji hle]
       rw[hres]at hrows;have hlen:(ys.take xs.length++xs.drop ys.length).length=xs.length:=by simp;omega
       obtain⟨g1,g2⟩:=jG a4 hown (e:=.arr τ' (ys.take xs.length++xs.drop ys.length)) (vs:=CE vs (0*τ'.width) L) (T:=T') (by rw[exs];exact⟨_,rfl,hlen⟩) (fun hg=>by
        unfold AF;simp only[Sit.store];rw[Ci hlt,if_pos rfl];exact⟨by rw[hlen];exact hl0,hl1,.inr ⟨r,_,T',hβ,VB hrl,by rw[aC,h3],hrows.mono hg.stab hg.heap⟩⟩)
       refine AX (σ':=σ1.store b r (.arr τ' (ys.take xs.length++xs.drop ys.length)) (CE vs (0*τ'.width) L) T') (v:=.int .i64 ((min ys.length xs.length:Nat):Int)) ?_ g1 (a5.trans g2).moves (by simp[Sit.store,a1]) ⟨rfl,RI (by omega)⟩;obtain⟨cs,hcs⟩:=RR (a:=a) (P:=C.P) hop hc σ.w;rw[hcs,Rm e1,Wp e2];simp only[builtin];refine Cj ?_;unfold ni;simp only[gq,mc,fw,fy,gv,hy];simp only[cy,CG hT,bl,Tb hd,FV (Rv eτ),J2 eτ];rw[←a2,f1];simp only[bl];have h0:=aK (P:=C.P) (r:=r) (o:=0) (T:=T') L 0 σ1.w vs h2 (by simpa using hfit) f4;rw[h0];simp[goInt,Sit.store]
      ·cases h
     ·cases h
   ·cases h
  ·rename_i e b lo n yc hT eb ey;split at h
   ·rename_i τ eτ;cases hf:C8 s.mem yc with
    |mk yc' m1=>
     rw[hf]at h;simp only at h;rw[←hr.mem]at hf;obtain⟨σ1,a1,a2,a3,a4,a5,a6⟩:=RC ho hf;split at h
     ·rename_i ys τ' xs0 eys exs;split at h
      ·rename_i xs ecast;obtain⟨hττ,hxs⟩:=Ih ecast;subst hττ;simp only at hxs;subst hxs;simp only[af,Res.ok.injEq,true_and]at h;obtain⟨rfl,rfl⟩:=h;have hd:=Za (a6 _ (Bs hr hx ey)) (Zu hf) (by rw[a1];exact eys);have hb:=a5.repC (Bs hr hx eb);rw[←a1]at exs;obtain⟨hlt,_,hm⟩:=hb;rw[exs]at hm;obtain⟨p1,A,cc,hy,p2,p3,p4⟩:=hm;obtain⟨L,f1,f2,f3,f4⟩:=Zr (P:=C.P) hd (n:=Nat.min ys.length n) (lk _ _);have hmin:(ys.take (Nat.min ys.length n)).length=Nat.min ys.length n:=by
        rw[gm];exact ic (lk _ _)
       have hmn:Nat.min ys.length n<=n:=mf _ _;have htake:ys.take (Nat.min ys.length n)=ys.take n:=by
        rcases po ys.length n with hle|hle
        ·have:Nat.min ys.length n=ys.length:=ic hle;rw[this,cv (cg _),cv hle]
        ·have:Nat.min ys.length n=n:=pw hle;rw[this]
       have hlen:(xs.take lo++ys.take n++xs.drop (lo+min ys.length n)).length=xs.length:=by
        rw[←htake];simp only[fh,hmin,gm,List.length_drop];show min lo xs.length+Nat.min ys.length n+(xs.length-(lo+Nat.min ys.length n))=_;omega
       by_cases hz:Nat.min ys.length n=0
       ·have e0:xs.take lo++ys.take n++xs.drop (lo+min ys.length n)=xs:=by
         have e1:ys.take n=[]:=by rw[←htake,hz];simp
         have e2:min ys.length n=0:=hz;rw[e1,e2];simp
        have hL:L=[]:=cq (by rw[f2,hz];simp);rw[e0];refine AX (σ':=σ1) (v:=.int .i64 ((min ys.length n:Nat):Int)) ?_ a4 a5.moves (by rw[←a1];exact(wR exs (by simp)).symm) ⟨rfl,RI (n:=min ys.length n) (av (show Nat.min ys.length n<=0 by omega) (by decide))⟩;obtain⟨cs,hcs⟩:=RR (a:=a) (P:=C.P) hop hc σ.w;rw[hcs,Rm e1,Wp e2];simp only[builtin];refine Cj ?_;unfold ni;simp only[gq,mc,fw,fy,gv,hy];simp only[cy,CG hT,bl,Tb hd,FV (Rv eτ),J2 eτ];rw[←a2,f1,hL];cases A<;>simp[goInt,storeCells]
       ·obtain⟨r,hβ,rfl⟩:=p4 (by omega);obtain⟨hl0,hl1,vs,T',h2,h3,h4⟩:=f0 (a4.ent b) exs hβ;have hown:σ1.owned b r:=⟨by rw[exs];trivial,hβ⟩
        have hrl:=(a4.own b r hown).2.1;have hfit:lo*τ'.width+L.length<=vs.size:=by
         rw[f2,h3,←cp];exact ay τ'.width (by omega)
        have hrows:=wN (k:=lo) h4 f3 (by rw[hmin];exact f2) (by omega) hfit;rw[hmin,htake]at hrows;obtain⟨g1,g2⟩:=jG a4 hown (e:=.arr τ' (xs.take lo++ys.take n++xs.drop (lo+min ys.length n))) (vs:=CE vs (lo*τ'.width) L) (T:=T') (by rw[exs];exact⟨_,rfl,hlen⟩) (fun hg=>by
         unfold AF;simp only[Sit.store];rw[Ci hlt,if_pos rfl];exact⟨by rw[hlen];exact hl0,hl1,.inr ⟨r,_,T',hβ,VB hrl,by rw[aC,h3],hrows.mono hg.stab hg.heap⟩⟩)
        refine AX (σ':=σ1.store b r (.arr τ' (xs.take lo++ys.take n++xs.drop (lo+min ys.length n))) (CE vs (lo*τ'.width) L) T') (v:=.int .i64 ((min ys.length n:Nat):Int)) ?_ g1 (a5.trans g2).moves (by simp[Sit.store,a1]) ⟨rfl,RI (by show Nat.min ys.length n<BQ;omega)⟩;obtain⟨cs,hcs⟩:=RR (a:=a) (P:=C.P) hop hc σ.w;rw[hcs,Rm e1,Wp e2];simp only[builtin];refine Cj ?_;unfold ni;simp only[gq,mc,fw,fy,gv,hy];simp only[cy,CG hT,bl,Tb hd,FV (Rv eτ),J2 eτ];rw[←a2,f1];simp only[bl];have h0:=aK (P:=C.P) (r:=r) (o:=lo*τ'.width) (T:=T') L 0 σ1.w vs h2 (by simpa using hfit) f4;rw[h0];simp[goInt,Sit.store]
      ·cases h
     ·cases h
   ·cases h
  ·cases h
 ·cases h
end Vx
namespace Vx
open Go Go.RowKit
variable {C:Cfg}{base:Base}{S0:Nat->Prop}{σ:Sit}{s:St}{a:Act}{ctx:List (Nat×Bool)}{o:Oper}{x:TV}{mem':Ae}
theorem aFa:∀(r newLen c:Nat),256<=c->c<=2*newLen->qi newLen r c<=2*newLen
 |0,newLen,c,_,h=>h
 |r+1,newLen,c,h1,h2=>by
  unfold qi
  split
  ·exact h2
  ·exact aFa r newLen _ (by omega) (by omega)
theorem aO9{need cap:Nat}(h:cap<need):lb need cap<=2*need:=by
 unfold lb;split
 ·omega
 ·split
  ·omega
  ·exact aFa 4 need cap (by omega) (by omega)
theorem Moves.of_acc{σ σ':Sit}{b:Nat}(stab:∀r,σ.S r->σ'.S r)(heap:∀r,σ.S r->σ'.w.heap[r]? = σ.w.heap[r]?)(len:σ.mem.length<=σ'.mem.length)
  (turns:∀b',b'<σ.mem.length->b'≠b->Bm σ σ' b') (hb:∃τ xs τ' xs',Ac σ.mem b=.acc τ xs/\Ac σ'.mem b=.acc τ' xs'):Moves (Ef b) σ σ':=by
 refine⟨stab,heap,fun c y hc=>?_,len,fun b' hb' ha=>by
  by_cases h:b'=b
  ·subst h;obtain⟨_,_,_,_,e,_⟩:=hb;rw[e];trivial
  ·have ht:=turns b' hb' h;unfold Bm at ht;cases e:Ac σ.mem b' with
   |gone=>rw[e]at ht;simp only at ht;rw[ht]at ha;exact ha
   |raw cs=>rw[e]at ht;rcases ht with⟨_,cs',h2⟩|h2<;>(rw[h2]at ha;exact ha)
   |arr τ xs=>
    rw[e]at ht;rcases ht with⟨_,_,xs',h2,_⟩|⟨xs',h2,_⟩|h2
    ·rw[h2]at ha;exact ha
    ·rw[h2]at ha;exact ha
    ·rw[h2]at ha;exact ha
   |acc τ xs=>trivial
   |froz τ xs=>rw[e]at ht;simp only at ht;rw[ht]at ha;exact ha⟩
 have key:(∀b',c=.own b'->¬b'=b)->Aw σ' c y:=fun hne=>aHl stab heap len (fun b'=>b'=b) (fun b' hb'=>by
  by_cases h:b'=b
  ·subst h;exact .inr ⟨rfl,hb⟩
  ·exact .inl (turns b' hb' h)) hc hne
 cases c with
 |own b' =>
  simp only[Ef];cases hbb:Nat.beq b b' with
  |true=>exact hc.2.1
  |false=>exact key fun b'' e=>by cases e;intro e;subst e;simp[dq]at hbb
 |undef=>exact key fun _ e=>by cases e
 |v _=>exact key fun _ e=>by cases e
 |fl _ _=>exact key fun _ e=>by cases e
 |sl _ _=>exact key fun _ e=>by cases e
 |ptr _ _=>exact key fun _ e=>by cases e
 |eptr _ _ _=>exact key fun _ e=>by cases e
 |iptr _ _ _=>exact key fun _ e=>by cases e
 |sub _ _ _=>exact key fun _ e=>by cases e
 |gptr _=>exact key fun _ e=>by cases e
 |fnv _=>exact key fun _ e=>by cases e
 |ifv _=>exact key fun _ e=>by cases e
 |fn _ _=>exact key fun _ e=>by cases e
def Sit.grow(σ:Sit)(b:Nat)(e:Blk)(r:Option Nat)(k:Nat)(w':World):Sit:={E:={β:=AC σ.E.β b r,κ:=AC σ.E.κ b k},mem:=(σ.mem.set b e).map (Ru b),w:=w',S:=σ.S}
theorem sD{mem:Ae}{f:Blk->Blk}(hf:f .gone=.gone){b:Nat}:Ac (mem.map f) b=f (Ac mem b):=by
 unfold Ac;rw[List.getElem?_map];cases mem[b]?<;>simp[hf]
theorem U1{b:Nat}{τ:Shape}{zs:List (Aa τ)}{r:Option Nat}{k:Nat}{w':World}(hb:b<σ.mem.length)(b':Nat):
  Ac (σ.grow b (.acc τ zs) r k w').mem b'=if b'=b then .acc τ zs else Ru b (Ac σ.mem b'):=by
 simp only[Sit.grow];rw[sD rfl,Ci hb];split<;>rfl
theorem aPQ{b:Nat}{e:Blk}:Ka (Ru b e)↔Ka e:=by
 cases e<;>exact Iff.rfl
theorem uH(ho:Ok base S0 σ){b:Nat}{τ:Shape}{xs zs:List (Aa τ)}(hb:Ac σ.mem b=.acc τ xs){r:Option Nat}{k:Nat}{w':World}
  (hw:Low base w') (hsz:σ.w.heap.size<=w'.heap.size) (hheap:∀q,q<σ.w.heap.size->σ.E.β b≠some q->w'.heap[q]? = σ.w.heap[q]?)
  (hr:∀q,r=some q->base.new q/\q<w'.heap.size/\(σ.E.β b=some q∨σ.w.heap.size<=q))
  (hlen:zs.length<=k) (hk:k<BQ)
  (hat:(r=none/\k=0)∨∃q vs T,r=some q/\w'.heap[q]? = some (.cells vs T (0,0))/\vs.size=k*τ.width/\Rows w' σ.S τ vs 0 zs) :
  Ok base S0 (σ.grow b (.acc τ zs) r k w')/\Moves (Ef b) σ (σ.grow b (.acc τ zs) r k w')/\Aw (σ.grow b (.acc τ zs) r k w') (.own b) (.slice (r.map fun q=>⟨q,0,none⟩) zs.length k):=by
 have hlt:b<σ.mem.length:=DH (by rw[hb];simp);have hS:∀q,σ.S q->w'.heap[q]? = σ.w.heap[q]?:=fun q hq=>hheap q (ho.stab q hq).1 (fun e=>(ho.own b q ⟨by rw[hb];trivial,e⟩).2.2 hq);have hturn:∀b',b'<σ.mem.length->b'≠b->Bm σ (σ.grow b (.acc τ zs) r k w') b':=fun b' hb' hne=>by
  have e1:Ac (σ.grow b (.acc τ zs) r k w').mem b'=Ru b (Ac σ.mem b'):=by rw[U1 hlt,if_neg hne]
  have e2:(σ.grow b (.acc τ zs) r k w').E.β b'=σ.E.β b':=by simp[Sit.grow,AC,hne]
  have e3:(σ.grow b (.acc τ zs) r k w').E.κ b'=σ.E.κ b':=by simp[Sit.grow,AC,hne]
  unfold Bm;cases e:Ac σ.mem b' with
  |gone=>simp only;rw[e1,e];rfl
  |raw cs=>exact .inl ⟨e2,_,by rw[e1,e];rfl⟩
  |arr τ' ys=>exact .inl ⟨e2,e3,ys,by rw[e1,e];rfl,rfl⟩
  |acc τ' ys=>exact .inl ⟨e2,e3,by rw[e1,e];rfl⟩
  |froz τ' ys=>simp only;rw[e1,e];rfl
 have hmv:Moves (Ef b) σ (σ.grow b (.acc τ zs) r k w'):=
  Moves.of_acc (fun _ h=>h) (fun q hq=>hS q hq) (by simp[Sit.grow]) hturn ⟨τ,xs,τ,zs,hb,by rw[U1 hlt,if_pos rfl]⟩
 have hold:∀b' q,b'≠b->(σ.grow b (.acc τ zs) r k w').owned b' q->σ.owned b' q:=fun b' q hne ⟨h1,h2⟩=>by
  rw[U1 hlt,if_neg hne]at h1;exact⟨aPQ.1 h1,by simpa[Sit.grow,AC,hne]using h2⟩
 have hnew:∀q,(σ.grow b (.acc τ zs) r k w').owned b q->r=some q:=fun q h=>by simpa[Sit.grow,AC]using h.2
 have hbown:∀q,σ.E.β b=some q->σ.owned b q:=fun q e=>⟨by rw[hb];trivial,e⟩
 refine⟨⟨hw,ho.stab0,fun q hq=>⟨ah (ho.stab q hq).1 hsz,(ho.stab q hq).2⟩,fun b'=>?_,fun b' q h=>?_,fun b1 b2 q h1 h2=>?_⟩,hmv,?_⟩
 ·by_cases hbb:b'=b
  ·subst hbb;unfold AF;rw[U1 hlt,if_pos rfl];refine⟨by simpa[Sit.grow,AC]using hlen,by simpa[Sit.grow,AC]using hk,?_⟩;rcases hat with⟨h1,h2⟩|⟨q,vs,T,h1,h2,h3,h4⟩
   ·exact .inl ⟨by simp[Sit.grow,AC,h1],by simp[Sit.grow,AC,h2]⟩
   ·exact .inr ⟨q,vs,T,by simp[Sit.grow,AC,h1],h2,by simpa[Sit.grow,AC]using h3,h4⟩
  ·have he:=ho.ent b';have howned:∀q,σ.owned b' q->w'.heap[q]? = σ.w.heap[q]?:=fun q hq=>hheap q (ho.own b' q hq).2.1 (fun e=>hbb (ho.inj b' b q hq (hbown q e)));unfold AF at he⊢;rw[U1 hlt,if_neg hbb];have e2:(σ.grow b (.acc τ zs) r k w').E.β b'=σ.E.β b':=by simp[Sit.grow,AC,hbb]
   have e3:(σ.grow b (.acc τ zs) r k w').E.κ b'=σ.E.κ b':=by simp[Sit.grow,AC,hbb]
   cases e:Ac σ.mem b' with
   |gone=>trivial
   |froz τ' ys=>trivial
   |raw cs=>
    rw[e]at he;obtain⟨q,vs,T,h1,h2,h3⟩:=he;exact⟨q,vs,T,e2.trans h1,(howned q ⟨by rw[e];trivial,h1⟩).trans h2,h3.mapL (Ef b) hmv.rep⟩
   |arr τ' ys=>
    rw[e]at he;obtain⟨h0,h00,h⟩:=he;refine⟨by rw[e3];exact h0,by rw[e3];exact h00,?_⟩;rcases h with⟨h1,h2⟩|⟨q,vs,T,h1,h2,h3,h4⟩
    ·exact .inl ⟨e2.trans h1,e3.trans h2⟩
    ·exact .inr ⟨q,vs,T,e2.trans h1,(howned q ⟨by rw[e];trivial,h1⟩).trans h2,by rw[e3];exact h3,h4.mono (fun _ h=>h) hS⟩
   |acc τ' ys=>
    rw[e]at he;obtain⟨h0,h00,h⟩:=he;refine⟨by rw[e3];exact h0,by rw[e3];exact h00,?_⟩;rcases h with⟨h1,h2⟩|⟨q,vs,T,h1,h2,h3,h4⟩
    ·exact .inl ⟨e2.trans h1,e3.trans h2⟩
    ·exact .inr ⟨q,vs,T,e2.trans h1,(howned q ⟨by rw[e];trivial,h1⟩).trans h2,by rw[e3];exact h3,h4.mono (fun _ h=>h) hS⟩
 ·by_cases hbb:b'=b
  ·subst hbb;obtain⟨g1,g2,g3⟩:=hr q (hnew q h);refine⟨g1,g2,fun hs=>?_⟩;rcases g3 with g3|g3
   ·exact(ho.own b' q (hbown q g3)).2.2 hs
   ·exact absurd (ho.stab q hs).1 (by omega)
  ·have:=ho.own b' q (hold b' q hbb h);exact⟨this.1,ah this.2.1 hsz,this.2.2⟩
 ·have key:∀b' q,b'≠b->(σ.grow b (.acc τ zs) r k w').owned b' q->r=some q->False:=fun b' q hne h e=>by
   have h':=hold b' q hne h;rcases(hr q e).2.2 with g|g
   ·exact hne (ho.inj b' b q h' (hbown q g))
   ·exact absurd (ho.own b' q h').2.1 (by omega)
  by_cases hb1:b1=b<;>by_cases hb2:b2=b
  ·rw[hb1,hb2]
  ·subst hb1;exact(key b2 q hb2 h2 (hnew q h1)).elim
  ·subst hb2;exact(key b1 q hb1 h1 (hnew q h2)).elim
  ·exact ho.inj b1 b2 q (hold b1 q hb1 h1) (hold b2 q hb2 h2)
 ·refine⟨by simp[Sit.grow];exact hlt,trivial,?_⟩;rw[U1 hlt,if_pos rfl];simp[Sit.grow,AC]
theorem aVX{P:Program}{e:TypeId}(h:aY P e=true):∃z:Value,z.cells.size=P.cellsOf e/\∀w,(zeroValue e).run P w=.ok z w:=by
 unfold aY at h;split at h
 ·rename_i x ex;obtain⟨z,h1,h2⟩:=aZ (P:=P) (σ:=⟨⟨fun _=>none,fun _=>0⟩,[],default,fun _=>False⟩) ex;refine⟨z,?_,h2⟩;have:=h1.cells.length;rw[VD h]at this;simpa using this.symm
 ·cases h
theorem aFt{L1 L2:List Value}{rest:Array Value}{q:Nat}:((L1.toArray++L2.toArray)++rest)[q]? = if q<L1.length then L1[q]? else if q<L1.length+L2.length then L2[q-L1.length]? else rest[q-(L1.length+L2.length)]?:=by
 rw[nq,nq];simp only[pg,ph,fw];by_cases h1:q<L1.length
 ·rw[if_pos (by omega),if_pos h1,if_pos h1]
 ·by_cases h2:q<L1.length+L2.length
  ·rw[if_pos h2,if_neg h1,if_neg h1,if_pos h2]
  ·rw[if_neg h2,if_neg h1,if_neg h2]
theorem aDf(ho:Ok base S0 σ){b:Nat}{τ:Shape}{xs ys:List (Aa τ)}{yv:Value}{T T2 e:TypeId}{ty:TypeId}{e2:TypeId}{Ts:List TypeId}(hb:Ac σ.mem b=.acc τ xs)(hd:AN σ.w σ.S (.slice τ) ys [yv])
  (hT:C.P.underlying T=some (.slice e)) (hT2:C.P.underlying T2=some (.slice e2)) (eτ:CU C.P e=some τ) (hg:((xs.length:Int)+(ys.length:Int))*2*(C.P.bytesOf e:Int)<=E1) (hby:0<C.P.bytesOf e) (hz:aY C.P e=true) :
  ∃r k w',(ll (T::T2::Ts).toArray ty #[.slice ((σ.E.β b).map fun r=>⟨r,0,none⟩) xs.length (σ.E.κ b),yv]).run C.P σ.w=.ok (.slice (r.map fun q=>⟨q,0,none⟩) (xs++ys).length k) w' /\
   Ok base S0 (σ.grow b (.acc τ (xs++ys)) r k w')/\Moves (Ef b) σ (σ.grow b (.acc τ (xs++ys)) r k w')/\Aw (σ.grow b (.acc τ (xs++ys)) r k w') (.own b) (.slice (r.map fun q=>⟨q,0,none⟩) (xs++ys).length k):=by
 have he:=ho.ent b
 unfold AF at he
 rw[hb]at he
 obtain⟨hle,hlim,hblk⟩:=he
 have hw:=J2 eτ
 have hsize:∀w,(Go.sizeOf e).run C.P w=.ok τ.width w:=fun w=>by rw[FV (Rv eτ),hw]
 obtain⟨ie,hie⟩:=Rv eτ
 have hbytes:ie.bytes=C.P.bytesOf e:=by simp[qd,hie]
 have hneed:xs.length+ys.length<=70368744177664:=by
  have h1:(((xs.length+ys.length)*2*C.P.bytesOf e:Nat):Int)<=E1:=by push_cast;exact hg
  have h2:(xs.length+ys.length)*2*C.P.bytesOf e<=140737488355328:=by unfold E1 at h1;omega
  have h3:=Nat.le_mul_of_pos_right ((xs.length+ys.length)*2) hby
  omega
 obtain⟨L,f1,f2,f3,f4⟩:=Zr (P:=C.P) hd (cg ys.length)
 rw[dj]at f3
 by_cases hroom:xs.length+ys.length<=σ.E.κ b
 ·rcases hblk with⟨h1,h2⟩|⟨r,vs,T',h1,h2,h3,h4⟩
  ·have hx0:xs=[]:=cq (by omega)
   have hy0:ys=[]:=cq (by omega)
   subst hx0;subst hy0
   obtain⟨k1,k2,k3⟩:=uH ho hb (zs:=[]) (r:=none) (k:=0) (w':=σ.w) ho.below (cg _) (fun _ _ _=>rfl) (fun q hq=>by cases hq) (by simp) (by unfold BQ;omega) (.inl ⟨rfl,rfl⟩)
   refine⟨none,0,σ.w,?_,k1,k2,k3⟩
   unfold ll
   simp[CG hT,CG hT2,hsize,Tb hd,h1,h2]
   rw[show(0:Nat)=([]:List (Aa τ)).length from rfl,f1]
   simp
  ·have hfit:xs.length*τ.width+L.length<=vs.size:=by
    rw[f2,h3,←cp]
    exact ay _ hroom
   have hrows:=wN (k:=xs.length) h4 f3 f2 (cg _) hfit
   rw[dj,ji (by omega),dp]at hrows
   have hrl:=(ho.own b r ⟨by rw[hb];trivial,h1⟩)
   have hS:∀q,σ.S q->(Dh σ.w r (.cells (CE vs (xs.length*τ.width) L) T' (0,0))).heap[q]? = σ.w.heap[q]?:=fun q hq=>VC (fun e=>hrl.2.2 (e▸hq))
   obtain⟨k1,k2,k3⟩:=uH ho hb (zs:=xs++ys) (r:=some r) (k:=σ.E.κ b) (w':=Dh σ.w r (.cells (CE vs (xs.length*τ.width) L) T' (0,0)))
    (ho.below.step rfl rfl rfl (by simp[Dh]) (fun k _ hn=>VC (fun e=>hn (e▸hrl.1)))) (by simp[Dh]) (fun q _ hne=>VC (fun e=>hne (e▸h1))) (fun q hq=>by cases hq;exact⟨hrl.1,by rw[wS];exact hrl.2.1,.inl h1⟩)
    (by simpa using hroom) hlim (.inr ⟨r,_,T',rfl,VB hrl.2.1,by rw[aC];exact h3,hrows.mono (fun _ h=>h) hS⟩)
   refine⟨some r,σ.E.κ b,_,?_,k1,k2,k3⟩
   have h0:=aK (P:=C.P) (r:=r) (o:=xs.length*τ.width) (T:=T') L 0 σ.w vs h2 (by simpa using hfit) f4
   unfold ll
   simp[CG hT,CG hT2,hsize,Tb hd,h1,hroom,f1,JU]
   rw[h0]
   simp
 ·obtain⟨z,z1,z2⟩:=aVX hz
  have hnext:lb (xs.length+ys.length) (σ.E.κ b)*C.P.bytesOf e<=281474976710656:=by
   have h1:=aO9 (need:=xs.length+ys.length) (cap:=σ.E.κ b) (by omega)
   have h2:=ay (C.P.bytesOf e) h1
   have h3:((2*(xs.length+ys.length)*C.P.bytesOf e:Nat):Int)<=E1:=by
    push_cast
    have:(2:Int)*((xs.length:Int)+(ys.length:Int))=((xs.length:Int)+(ys.length:Int))*2:=np _ _
    rw[this]
    exact hg
   unfold E1 at h3
   omega
  obtain⟨L0,g1,g2,g3,g4⟩:=aEh (P:=C.P) (w:=σ.w.drew) (S:=σ.S) (e:=τ) (ys:=xs) (A:=(σ.E.β b).map fun r=>⟨r,0,none⟩) (m:=xs.length) (c:=σ.E.κ b) (fun hne=>by
   rcases hblk with⟨h1,h2⟩|⟨r,vs,T',h1,h2,h3,h4⟩
   ·exact absurd (cq (by omega)) hne
   ·exact⟨r,0,vs,T',(0,0),by rw[h1];rfl,h2,Rows.mono (w:=σ.w) (w':=σ.w.drew) (fun _ h=>h) (fun _ _=>rfl) h4⟩) (cg xs.length)
  rw[dj]at g3
  obtain⟨L',f1',f2',f3',f4'⟩:=Zr (P:=C.P) (σ:={σ with w:=σ.w.drew}) (AN.mono (w:=σ.w) (w':=σ.w.drew) (fun _ h=>h) (fun _ _=>rfl) hd) (cg ys.length)
  rw[dj]at f3'
  let q:Question:=.appendCap (xs.length+ys.length) (σ.E.κ b) e
  let k:=xs.length+ys.length+σ.w.tape σ.w.drawn q%(2^63-(xs.length+ys.length))
  have hk:xs.length+ys.length<=k/\k<BQ:=by
   have hpos:0<2^63-(xs.length+ys.length):=by omega
   have:=bo (σ.w.tape σ.w.drawn q) hpos
   unfold BQ
   omega
  let vs':Array Value:=L0.toArray++L'.toArray++ng z.cells (k-(xs.length+ys.length))
  have hzs:(ng z.cells (k-(xs.length+ys.length))).size=(k-(xs.length+ys.length))*τ.width:=by
   simp[ng,z1,hw]
  have hvs:vs'.size=k*τ.width:=by
   simp only[vs',pg,ph,hzs,g2,f2']
   rw[←cp,←cp]
   congr 1
   omega
  have hrows:Rows (σ.w.drew.alloc (.cells vs' e)) σ.S τ vs' 0 (xs++ys):=by
   have hS:∀p,σ.S p->(σ.w.drew.alloc (.cells vs' e)).heap[p]? = σ.w.drew.heap[p]?:=fun p hp=>MQ (ho.stab p hp).1
   intro i x hi
   rcases au i xs.length with h1|h1
   ·rw[co h1]at hi
    obtain⟨ds,d1,d2⟩:=g3 i x hi
    refine⟨ds,d1.mono (fun _ h=>h) hS,fun j d hj=>?_⟩
    have hjl:=(aw.1 hj).1
    rw[d1.len]at hjl
    have:=RQ h1 hjl
    simp only[vs']
    rw[aFt,if_pos (by omega),dw]
    exact d2 j d hj
   ·rw[cj h1]at hi
    have h2:=(aw.1 hi).1
    obtain⟨ds,d1,d2⟩:=f3' (i-xs.length) x hi
    refine⟨ds,d1.mono (fun _ h=>h) hS,fun j d hj=>?_⟩
    have hjl:=(aw.1 hj).1
    rw[d1.len]at hjl
    have h3:=RQ h2 hjl
    have h4:(i-xs.length)*τ.width+xs.length*τ.width=i*τ.width:=by rw[←cp];congr 1;omega
    simp only[vs']
    rw[aFt,if_neg (by omega),if_pos (by omega)]
    rw[show 0+i*τ.width+j-L0.length=(i-xs.length)*τ.width+j by omega]
    exact d2 j d hj
  obtain⟨k1,k2,k3⟩:=uH ho hb (zs:=xs++ys) (r:=some σ.w.heap.size) (k:=k) (w':=σ.w.drew.alloc (.cells vs' e)) (ho.below.drew.alloc _) (by simp)
   (fun p hp _=>MQ (w:=σ.w.drew) hp) (fun p hp=>by cases hp;exact⟨.inl ho.below.size,by simp,.inr (cg _)⟩) (by simpa using hk.1) hk.2
   (.inr ⟨σ.w.heap.size,vs',e,rfl,VA (w:=σ.w.drew),hvs,hrows⟩)
  refine⟨some σ.w.heap.size,k,_,?_,k1,k2,k3⟩
  have hti:∀w,(typeInfo e).run C.P w=.ok ie w:=fun w=>by simp[typeInfo,hie]
  have hn1:¬((xs.length+ys.length:Nat):Int)>IntKind.i64.max:=by
   simp[om,kf,jk];omega
  have hn2:¬lb (xs.length+ys.length) (σ.E.κ b)*ie.bytes>2^48:=by rw[hbytes];omega
  have hcut:(choose (.appendCap (xs.length+ys.length) (σ.E.κ b) e)).run C.P σ.w=.ok k σ.w.drew:=by
   simp[q,k,Question.forced,Question.cut]
  unfold ll
  simp only[fw,fy,gv,cy,CG hT,CG hT2,bl,hsize,ee,Bool.false_eq_true,if_false,Tb hd,if_neg hroom,hti]
  rw[if_neg (fun h=>hn1 h.1)]
  simp only[cy,hti,bl]
  rw[if_neg hn2]
  have f1'':(ir τ.width ys.length yv).run C.P σ.w.drew=.ok L'.toArray σ.w.drew:=f1'
  simp only[cy,hcut,bl,hti,run_askRoom,g1,z2,ee]
  simp[newRow,vs',f1'']
def aIF(C:Cfg)(base:Base)(S0:Nat->Prop)(b:Nat)(σ:Sit)(a:Act)(o:Oper)(mem':Ae):Prop:=BE C base S0 (Ef b) σ a o (.val (.one (.own b))) (mem'.map (Ru b))
theorem Goes.dropMoves{σ σ1 σ2:Sit}{b:Nat}(h:Goes σ σ1)(h':Moves (Ef b) σ1 σ2):Moves (Ef b) σ σ2:=
 ⟨fun r hr=>h'.stab r (h.stab r hr),fun r hr=>(h'.heap r (h.stab r hr)).trans (h.heap r hr),fun c y hc=>h'.rep c y (h.repC hc),fk h.len h'.len,fun b hb ha=>h.noacc b hb (h'.noacc b (ah hb h.len) ha)⟩
theorem aHt{n b:Nat}(h:wM n b=true):(n:Int)*2*(b:Int)<=E1:=by
 have h:=Nat.le_of_ble_eq_true h;have e:((n*2*b:Nat):Int)=(n:Int)*2*(b:Int):=by rw[jf,jf];rfl
 rw[←e];exact Int.ofNat_le.2 h
theorem aPh(ho:Ok base S0 σ)(hr:RelT σ s a)(hx:Bj a ctx){c:Call}(hop:o.op=.call c)(hc:c.callee=.builtin .append)(h:Ax C s ctx o=some (.ok true x mem')):
  ∃b,x=.val (.one (.own b))/\G6 (Ac (mem'.map (Ru b)) b)/\aIF C base S0 b σ a o mem':=by
 unfold Ax at h;rw[hop]at h;simp only[hc]at h;split at h
 ·rename_i y z T T2 Ts e1 e2;split at h
  ·rename_i e e3 ac yc hT hT2 ea ey;split at h
   ·rename_i τ eτ;cases hf:C8 s.mem yc with
    |mk yc' m1=>
     rw[hf]at h;simp only at h;rw[←hr.mem]at hf;obtain⟨σ1,a1,a2,a3,a4,a5,a6⟩:=RC ho hf;have hya:=Bs hr hx ey;have hexec:∀{v w'},(ll (T::T2::Ts).toArray o.type #[a.eval y,a.eval z]).run C.P σ.w=.ok v w'->(execOp a.eval o).run C.P σ.w=.ok (.value v) w':=fun hv=>by
      obtain⟨cs,hcs⟩:=RR (a:=a) (P:=C.P) hop hc σ.w;rw[hcs,Rm e1,Wp e2];simp only[builtin];exact Cj hv
     split at h
     ·rename_i ys eys;simp only[af,Res.ok.injEq,ai]at h;obtain⟨⟨⟨g1,g2⟩,g3⟩,rfl,rfl⟩:=h;have hd:=Za (a6 _ hya) (Zu hf) (by rw[a1];exact eys);obtain⟨hay,_⟩:=Bs hr hx ea;have ho2:=aGe a4 τ;have hg2:=u7 σ1 (.acc τ []);have hb2:Ac (σ1.name (.acc τ [])).mem σ1.mem.length=.acc τ []:=Mz;have hβ:(σ1.name (.acc τ [])).E.β σ1.mem.length=none:=by simp[Sit.name,AC]
      have hκ:(σ1.name (.acc τ [])).E.κ σ1.mem.length=0:=by simp[Sit.name,AC]
      obtain⟨r,k,w',k1,k2,k3,k4⟩:=aDf (C:=C) (T2:=T2) (ty:=o.type) (Ts:=Ts) ho2 hb2 (hd.mono hg2.stab hg2.heap) hT hT2 eτ (by simpa using aHt g1) (by simpa using g2) g3;rw[hβ,hκ]at k1;refine⟨σ1.mem.length,by rw[a1],by rw[←a1,sD rfl,Mz];trivial,AX (σ':=_) (v:=.slice (r.map fun q=>⟨q,0,none⟩) (([]:List (Aa τ))++ys).length k) ?_ k2 ((a5.trans hg2).dropMoves k3) ?_ k4⟩
      ·refine hexec ?_;rw[hay];have:(σ1.name (.acc τ [])).w=σ.w:=by simp[Sit.name,a2]
       rw[this]at k1;exact k1
      ·simp[Sit.grow,Sit.name,a1]
     ·rename_i ys b eys;split at h
      ·rename_i τ' xs0 eb;split at h
       ·rename_i xs ecast;obtain⟨hττ,hxs⟩:=Ih ecast;subst hττ;simp only at hxs;subst hxs;simp only[af,Res.ok.injEq,ai,decide_eq_true_eq]at h;obtain⟨⟨⟨g1,g2⟩,g3⟩,rfl,rfl⟩:=h;have hd:=Za (a6 _ hya) (Zu hf) (by rw[a1];exact eys);have hb:=a5.repC (Bs hr hx ea);rw[←a1]at eb;obtain⟨hlt,_,hm⟩:=hb;rw[eb]at hm;obtain⟨r,k,w',k1,k2,k3,k4⟩:=aDf (C:=C) (T2:=T2) (ty:=o.type) (Ts:=Ts) a4 eb hd hT hT2 eτ (by have:=aHt g1;rw[Int.natCast_add]at this;exact this) (by simpa using g2) g3;refine⟨b,rfl,by rw[←a1,sD rfl,Ci hlt,if_pos rfl];trivial,AX (σ':=_) (v:=.slice (r.map fun q=>⟨q,0,none⟩) (xs++ys).length k) ?_ k2 (a5.dropMoves k3) ?_ k4⟩
        ·refine hexec ?_;rw[hm,←a2];exact k1
        ·simp[Sit.grow,a1]
       ·cases h
      ·cases h
     ·cases h
   ·cases h
  ·cases h
 ·cases h
end Vx
namespace Vx
open Go Go.RowKit
def D0(w:World)(S:Nat->Prop)(a:Bool)(τ:Shape)(x:Aa τ)(y:Value):Prop:=
 match a with
 |true=>∃cs:List Value,y=.agg cs.toArray/\AN w S τ x cs
 |false=>AN w S τ x [y]
def Ga(w:World)(S:Nat->Prop)(τ:Shape)(xs:List (Aa τ))(y:Value)(rs:List Nat):Prop:=∃k,xs.length<=k/\k<BQ/\((y=.slice none xs.length k/\k=0/\rs=[]) ∨ ∃r vs T,y=.slice (some ⟨r,0,none⟩) xs.length k/\rs=[r]/\w.heap[r]? = some (.cells vs T (0,0))/\vs.size=k*τ.width/\Rows w S τ vs 0 xs)
def FZ(w:World)(S:Nat->Prop)(a:Bool):(τ:Shape)->Aa τ->Value->List Nat->Prop
 |.slice e,x,y,rs=>(match a with
  |true=>Ga w S e x y rs
  |false=>rs=[]/\D0 w S false (.slice e) x y)
 |.int k,x,y,rs=>rs=[]/\D0 w S a (.int k) x y
 |.flt k,x,y,rs=>rs=[]/\D0 w S a (.flt k) x y
 |.bool,x,y,rs=>rs=[]/\D0 w S a .bool x y
 |.str,x,y,rs=>rs=[]/\D0 w S a .str x y
 |.fn,x,y,rs=>rs=[]/\D0 w S a .fn x y
 |.unit,x,y,rs=>rs=[]/\D0 w S a .unit x y
 |.pair σ τ,x,y,rs=>rs=[]/\D0 w S a (.pair σ τ) x y
 |.box σ,x,y,rs=>rs=[]/\D0 w S a (.box σ) x y
 |.ifc,x,y,rs=>rs=[]/\D0 w S a .ifc x y
 |.pfn,x,y,rs=>rs=[]/\D0 w S a .pfn x y
def Ct(w:World)(S:Nat->Prop):(sg:Ab)->DenS sg->List Value->List Nat->Prop
 | [],_,ys,rs=>ys=[]/\rs=[]
 |(a,τ)::sg,x,ys,rs=>∃y ys' r1 r2,ys=y::ys'/\rs=r1++r2/\FZ w S a τ x.1 y r1/\Ct w S sg x.2 ys' r2
theorem D0.mono{w w':World}{S S':Nat->Prop}(hS:∀r,S r->S' r)(hH:∀r,S r->w'.heap[r]? = w.heap[r]?){a:Bool}{τ:Shape}{x:Aa τ}{y:Value}(h:D0 w S a τ x y):D0 w' S' a τ x y:=by
 cases a with
 |true=>obtain⟨cs,h1,h2⟩:=h;exact⟨cs,h1,h2.mono hS hH⟩
 |false=>exact AN.mono hS hH h
theorem FZ.mono{w w':World}{S S':Nat->Prop}(hS:∀r,S r->S' r)(hH:∀r,S r->w'.heap[r]? = w.heap[r]?){a:Bool}{τ:Shape}{x:Aa τ}{y:Value}{rs:List Nat}(hR:∀r∈rs,w'.heap[r]? = w.heap[r]?)(h:FZ w S a τ x y rs):FZ w' S' a τ x y rs:=by
 cases τ with
 |slice e=>
  cases a with
  |true=>
   obtain⟨k,h1,h2,h3⟩:=h;refine⟨k,h1,h2,?_⟩;rcases h3 with h3|⟨r,vs,T,h4,rfl,h5,h6,h7⟩
   ·exact .inl h3
   ·exact .inr ⟨r,vs,T,h4,rfl,(hR r (by simp)).trans h5,h6,h7.mono hS hH⟩
  |false=>exact⟨h.1,h.2.mono hS hH⟩
 |_=>exact⟨h.1,D0.mono hS hH h.2⟩
theorem Ct.mono{w w':World}{S S':Nat->Prop}(hS:∀r,S r->S' r)(hH:∀r,S r->w'.heap[r]? = w.heap[r]?):∀{sg:Ab} {x:DenS sg} {ys:List Value} {rs:List Nat},(∀r∈rs,w'.heap[r]? = w.heap[r]?)->Ct w S sg x ys rs->Ct w' S' sg x ys rs
 | [],_,_,_,_,h=>h
 |(a,τ)::sg,_,_,_,hR,⟨y,ys',r1,r2,h1,h2,h3,h4⟩=>by
  subst h2
  exact⟨y,ys',r1,r2,h1,rfl,h3.mono hS hH (fun r hr=>hR r (cz.2 (.inl hr))),h4.mono hS hH (fun r hr=>hR r (cz.2 (.inr hr)))⟩
variable {base:Base}{S0:Nat->Prop}{σ:Sit}
theorem VE(ho:Ok base S0 σ){b:Nat}{τ:Shape}{xs:List (Aa τ)}(he:Ac σ.mem b=.arr τ xs∨Ac σ.mem b=.acc τ xs){y:Value}(hy:Aw σ (.own b) y):
  ∃(σ':Sit) (rs:List Nat),σ'.mem=σ.mem.set b .gone/\σ'.w=σ.w/\σ'.E=σ.E/\σ'.S=σ.S/\Ok base S0 σ'/\Goes σ σ'/\Ga σ.w σ.S τ xs y rs/\rs.Nodup/\(∀r∈rs,(∃b,σ.owned b r)/\∀b,¬σ'.owned b r)/\∀b r,σ'.owned b r->σ.owned b r:=by
 have hlt:b<σ.mem.length:=DH (by rcases he with h|h<;>rw[h]<;>simp);have hset:∀b',Ac (σ.mem.set b .gone) b'=if b'=b then .gone else Ac σ.mem b':=fun b'=>Ci hlt;have hold:∀b' r,Sit.owned ⟨σ.E,σ.mem.set b .gone,σ.w,σ.S⟩ b' r->σ.owned b' r/\b'≠b:=fun b' r ⟨h1,h2⟩=>by
  simp only at h1;rw[hset]at h1;split at h1
  ·exact h1.elim
  ·rename_i hne;exact⟨⟨h1,h2⟩,hne⟩
 have hg:Goes σ ⟨σ.E,σ.mem.set b .gone,σ.w,σ.S⟩:=by
  refine⟨fun _ h=>h,fun _ _=>rfl,by simp,fun b' hb'=>?_⟩;by_cases hbb:b'=b
  ·subst hbb;have hgone:Ac (σ.mem.set b' .gone) b'=.gone:=by rw[hset,if_pos rfl]
   unfold Bm;rcases he with h|h
   ·rw[h];exact .inr (.inr hgone)
   ·rw[h];exact .inr (.inr hgone)
  ·exact Bm.refl (by simp only;rw[hset,if_neg hbb]) rfl rfl
 have hok:Ok base S0 ⟨σ.E,σ.mem.set b .gone,σ.w,σ.S⟩:=by
  refine⟨ho.below,ho.stab0,ho.stab,fun b'=>?_,fun b' r h=>ho.own b' r (hold b' r h).1,fun b1 b2 r h1 h2=>ho.inj b1 b2 r (hold b1 r h1).1 (hold b2 r h2).1⟩;by_cases hbb:b'=b
  ·subst hbb;unfold AF;simp only;rw[hset,if_pos rfl];trivial
  ·exact AF.keep hg (by simp only;rw[hset,if_neg hbb]) rfl rfl (fun _ _=>rfl) (ho.ent b')
 have hent:xs.length<=σ.E.κ b/\σ.E.κ b<BQ/\((σ.E.β b=none/\σ.E.κ b=0) ∨
   ∃r vs T,σ.E.β b=some r/\σ.w.heap[r]? = some (.cells vs T (0,0))/\vs.size=σ.E.κ b*τ.width/\Rows σ.w σ.S τ vs 0 xs):=by
  have:=ho.ent b;unfold AF at this;rcases he with h|h
  ·rw[h]at this;exact this
  ·rw[h]at this;exact this
 have hyv:y=.slice ((σ.E.β b).map fun r=>⟨r,0,none⟩) xs.length (σ.E.κ b):=by
  obtain⟨_,_,hm⟩:=hy;rcases he with h|h
  ·rw[h]at hm;exact hm
  ·rw[h]at hm;exact hm
 obtain⟨h1,h2,h3⟩:=hent;rcases h3 with⟨h4,h5⟩|⟨r,vs,T,h4,h5,h6,h7⟩
 ·rw[h4]at hyv;exact⟨⟨σ.E,σ.mem.set b .gone,σ.w,σ.S⟩,[],rfl,rfl,rfl,rfl,hok,hg,⟨_,h1,h2,.inl ⟨hyv,h5,rfl⟩⟩,lw,fun r hr=>by simp at hr,fun b' r h=>(hold b' r h).1⟩
 ·rw[h4]at hyv;have hown:σ.owned b r:=⟨by rcases he with h|h<;>rw[h]<;>trivial,h4⟩
  refine⟨⟨σ.E,σ.mem.set b .gone,σ.w,σ.S⟩,[r],rfl,rfl,rfl,rfl,hok,hg,⟨_,h1,h2,.inr ⟨r,vs,T,hyv,rfl,h5,h6,h7⟩⟩,by simp,fun r' hr'=>?_,fun b' r h=>(hold b' r h).1⟩;simp at hr';subst hr';exact⟨⟨b,hown⟩,fun b' h=>(hold b' r' h).2 (ho.inj b' b r' (hold b' r' h).1 hown)⟩
theorem aVd(ho:Ok base S0 σ){a:Bool}{τ:Shape}{z:SV}{y:Value}(hz:A8 σ z y){x:Aa τ}{mem':Ae}(h:IB σ.mem a τ z=some (x,mem')):
  ∃(σ':Sit) (rs:List Nat),σ'.mem=mem'/\σ'.w=σ.w/\σ'.E=σ.E/\σ'.S=σ.S/\Ok base S0 σ'/\Goes σ σ'/\FZ σ.w σ.S a τ x y rs/\rs.Nodup/\(∀r∈rs,(∃b,σ.owned b r)/\∀b,¬σ'.owned b r)/\∀b r,σ'.owned b r->σ.owned b r:=by
 have plain:∀{a:Bool} {τ:Shape} {x:Aa τ},Eh σ.mem a τ z=some (x,mem')->mem'=σ.mem/\D0 σ.w σ.S a τ x y:=fun {a τ x} h=>by
  unfold Eh at h;split at h
  ·rename_i c;cases a with
   |true=>cases h
   |false=>
    simp only[cond_false]at h;split at h
    ·rename_i u eu;cases h;obtain⟨y1,y2,e,d,r⟩:=MZ (All2.cons hz All2.nil) eu;cases r;rw[dp]at e;exact⟨rfl,by show AN _ _ _ _ _;rw[e];exact d⟩
    ·cases h
  ·rename_i cs;cases a with
   |false=>cases h
   |true=>
    simp only[cond_true]at h;split at h
    ·rename_i u eu;cases h;obtain⟨zs,e0,ha⟩:=hz;obtain⟨y1,y2,e,d,r⟩:=MZ ha eu;cases r;rw[dp]at e;exact⟨rfl,zs,e0,by rw[e];exact d⟩
    ·cases h
 have BM:∀{rs:List Nat},mem'=σ.mem->rs=[]->FZ σ.w σ.S a τ x y rs->∃(σ':Sit) (rs:List Nat),σ'.mem=mem'/\σ'.w=σ.w/\σ'.E=σ.E/\σ'.S=σ.S/\Ok base S0 σ'/\Goes σ σ'/\FZ σ.w σ.S a τ x y rs/\rs.Nodup/\(∀r∈rs,(∃b,σ.owned b r)/\∀b,¬σ'.owned b r)/\∀b r,σ'.owned b r->σ.owned b r:=
  fun hm hr he=>⟨σ,_,hm.symm,rfl,rfl,rfl,ho,Goes.refl σ,he,by subst hr;exact lw,fun r h=>by subst hr;simp at h,fun _ _ h=>h⟩
 cases τ with
 |slice e=>
  cases a with
  |false=>obtain⟨h1,h2⟩:=plain h;exact BM h1 rfl ⟨rfl,h2⟩
  |true=>
   simp only[IB,cond_true]at h;split at h
   ·rename_i b;split at h
    ·rename_i τ' xs eb;split at h
     ·rename_i xs' ec;cases h;obtain⟨hττ,hxs⟩:=Ih ec;subst hττ;simp only at hxs;subst hxs;exact VE ho (.inl eb) hz
     ·cases h
    ·rename_i τ' xs eb;split at h
     ·rename_i xs' ec;cases h;obtain⟨hττ,hxs⟩:=Ih ec;subst hττ;simp only at hxs;subst hxs;exact VE ho (.inr eb) hz
     ·cases h
    ·cases h
   ·cases h;exact BM rfl rfl ⟨0,cg _,by decide,.inl ⟨hz.1,rfl,rfl⟩⟩
   ·cases h
 |_=>obtain⟨h1,h2⟩:=plain h;exact BM h1 rfl ⟨rfl,h2⟩
theorem aV:∀{sg:Ab} {σ:Sit} (_:Ok base S0 σ) {args:List SV} {ys:List Value} (_:All2 (A8 σ) args ys) {x:DenS sg} {mem':Ae},CH σ.mem sg args=some (x,mem') ->
  ∃(σ':Sit) (rs:List Nat),σ'.mem=mem'/\σ'.w=σ.w/\σ'.E=σ.E/\σ'.S=σ.S/\Ok base S0 σ'/\Goes σ σ'/\Ct σ.w σ.S sg x ys rs/\rs.Nodup/\(∀r∈rs,(∃b,σ.owned b r)/\∀b,¬σ'.owned b r)/\∀b r,σ'.owned b r->σ.owned b r
 | [],σ,ho,[],_,.nil,x,mem',h=>by
  simp only[CH]at h;cases h
  exact⟨σ,[],rfl,rfl,rfl,rfl,ho,Goes.refl σ,⟨rfl,rfl⟩,lw,fun r h=>by simp at h,fun _ _ h=>h⟩
 | [],σ,ho,_::_,_,_,x,mem',h=>by simp[CH]at h
 |_::_,σ,ho,[],_,_,x,mem',h=>by simp[CH]at h
 |(a,τ)::sg,σ,ho,z::args,_,.cons (b:=y) (bs:=ys) hz ht,x,mem',h=>by
  simp only[CH]at h
  split at h
  ·rename_i u m1 e1
   split at h
   ·rename_i v m2 e2
    cases h
    obtain⟨σ1,r1,a1,a2,a3,a4,a5,a6,a7,a8,a9,a10⟩:=aVd ho hz e1
    rw[←a1]at e2
    obtain⟨σ2,r2,b1,b2,b3,b4,b5,b6,b7,b8,b9,b10⟩:=aV a5 (ht.mono fun _ _=>a6.repV) e2
    rw[a2,a4]at b7
    refine⟨σ2,r1++r2,b1,b2.trans a2,b3.trans a3,b4.trans a4,b5,a6.trans b6,⟨y,ys,r1,r2,rfl,rfl,a7,b7⟩,?_,fun r hr=>?_,fun b r h=>a10 b r (b10 b r h)⟩
    ·refine jt.2 ⟨a8,b8,fun r h1 r' h2 e=>?_⟩
     subst e
     obtain⟨b,hb⟩:=(b9 r h2).1
     exact(a9 r h1).2 b hb
    ·rcases cz.1 hr with hr|hr
     ·exact⟨(a9 r hr).1,fun b h=>(a9 r hr).2 b (b10 b r h)⟩
     ·obtain⟨⟨b,hb⟩,h2⟩:=b9 r hr
      exact⟨⟨b,a10 b r hb⟩,h2⟩
   ·cases h
  ·cases h
theorem S4:∀{sg:Ab} {σ:Sit} (_:Ok base S0 σ) {args args':List SV} {mem':Ae},Be σ.mem sg args=(args',mem') ->
  ∃σ':Sit,σ'.mem=mem'/\σ'.w=σ.w/\σ'.E=σ.E/\Ok base S0 σ'/\Goes σ σ'/\∀ys,All2 (A8 σ) args ys->All2 (A8 σ') args' ys
 | [],σ,ho,args,args',mem',h=>by
  simp only[Be]at h;cases h
  exact⟨σ,rfl,rfl,rfl,ho,Goes.refl σ,fun _ h=>h⟩
 |_::_,σ,ho,[],args',mem',h=>by
  simp only[Be]at h;cases h
  exact⟨σ,rfl,rfl,rfl,ho,Goes.refl σ,fun _ h=>h⟩
 |(a,τ)::sg,σ,ho,z::args,args',mem',h=>by
  simp only[Be]at h
  cases hb:J9 a τ with
  |true=>
   rw[hb]at h
   simp only[cond_true]at h
   cases e:Be σ.mem sg args with
   |mk r' m' =>
    rw[e]at h;simp only at h;cases h
    obtain⟨σ1,a1,a2,a3,a4,a5,a6⟩:=S4 ho e
    exact⟨σ1,a1,a2,a3,a4,a5,fun ys hy=>by
     cases hy with
     |cons h1 h2=>exact .cons (a5.repV h1) (a6 _ h2)⟩
  |false=>
   rw[hb]at h
   simp only[cond_false]at h
   cases e1:FH σ.mem z with
   |mk z' m1=>
    rw[e1]at h;simp only at h
    obtain⟨σ1,a1,a2,a3,a4,a5,a6⟩:=aEu ho e1
    cases e2:Be m1 sg args with
    |mk r' m' =>
     rw[e2]at h;simp only at h;cases h
     rw[←a1]at e2
     obtain⟨σ2,b1,b2,b3,b4,b5,b6⟩:=S4 a4 e2
     refine⟨σ2,b1,b2.trans a2,b3.trans a3,b4,a5.trans b5,fun ys hy=>?_⟩
     cases hy with
     |cons h1 h2=>exact .cons (b5.repV (a6 _ h1)) (b6 _ (h2.mono fun _ _=>a5.repV))
def E7(base:Base)(σ:Sit)(r:Nat):Prop:=base.new r/\r<σ.w.heap.size/\¬σ.S r/\∀b,¬σ.owned b r
theorem aE6(ho:Ok base S0 σ){τ:Shape}{xs:List (Aa τ)}{y:Value}{rs:List Nat}(h:Ga σ.w σ.S τ xs y rs)(hl:∀r∈rs,E7 base σ r):
  ∃σ':Sit,σ'.mem=σ.mem++[.arr τ xs]/\σ'.w=σ.w/\σ'.S=σ.S/\Ok base S0 σ'/\Goes σ σ'/\Aw σ' (.own σ.mem.length) y/\∀b r,σ'.owned b r->σ.owned b r∨r∈rs:=by
 obtain⟨k,h1,h2,h3⟩:=h;have main:∀(A:Option Nat),y=.slice (A.map fun r=>⟨r,0,none⟩) xs.length k->(∀r,A=some r->r∈rs)->((A=none/\k=0)∨∃r vs T,A=some r/\σ.w.heap[r]? = some (.cells vs T (0,0))/\vs.size=k*τ.width/\Rows σ.w σ.S τ vs 0 xs) ->
   ∃σ':Sit,σ'.mem=σ.mem++[.arr τ xs]/\σ'.w=σ.w/\σ'.S=σ.S/\Ok base S0 σ'/\Goes σ σ'/\Aw σ' (.own σ.mem.length) y/\∀b r,σ'.owned b r->σ.owned b r∨r∈rs:=fun A hy hA hc=>by
  let σ':Sit:={E:=⟨AC σ.E.β σ.mem.length A,AC σ.E.κ σ.mem.length k⟩,mem:=σ.mem++[.arr τ xs],w:=σ.w,S:=σ.S}
  have hblk:Ac σ'.mem σ.mem.length=.arr τ xs:=Mz;have hold:∀b r,b≠σ.mem.length->σ'.owned b r->σ.owned b r:=fun b r hne ⟨g1,g2⟩=>by
   rcases au b σ.mem.length with hb|hb
   ·simp only[σ']at g1 g2;rw[G9 hb]at g1;exact⟨g1,by simpa[AC,hne]using g2⟩
   ·simp only[σ']at g1;rw[Ro (by omega)]at g1;exact g1.elim
  have hnew:∀r,σ'.owned σ.mem.length r->A=some r:=fun r ⟨_,g2⟩=>by simpa[σ',AC]using g2
  have hg:Goes σ σ':=⟨fun _ h=>h,fun _ _=>rfl,by simp[σ'],fun b hb=>Bm.refl (G9 hb) (by simp[σ',AC];omega) (by simp[σ',AC];omega)⟩
  refine⟨σ',rfl,rfl,rfl,⟨ho.below,ho.stab0,ho.stab,fun b=>?_,fun b r h=>?_,fun b b' r h h'=>?_⟩,hg,⟨by simp[σ'],by rw[hy];trivial,?_⟩,fun b r h=>?_⟩
  ·by_cases hb:b=σ.mem.length
   ·subst hb;unfold AF;rw[hblk];refine⟨by simpa[σ',AC]using h1,by simpa[σ',AC]using h2,?_⟩;rcases hc with⟨g1,g2⟩|⟨r,vs,T,g1,g2,g3,g4⟩
    ·exact .inl ⟨by simp[σ',AC,g1],by simp[σ',AC,g2]⟩
    ·exact .inr ⟨r,vs,T,by simp[σ',AC,g1],g2,by simpa[σ',AC]using g3,g4⟩
   ·rcases au b σ.mem.length with h' | h'
    ·exact AF.keep hg (G9 h') (by simp[σ',AC,hb]) (by simp[σ',AC,hb]) (fun _ _=>rfl) (ho.ent b)
    ·unfold AF;simp only[σ'];rw[Ro (by omega)];trivial
  ·by_cases hb:b=σ.mem.length
   ·subst hb;have:=hl r (hA r (hnew r h));exact⟨this.1,this.2.1,this.2.2.1⟩
   ·exact ho.own b r (hold b r hb h)
  ·by_cases hb:b=σ.mem.length<;>by_cases hb':b'=σ.mem.length
   ·rw[hb,hb']
   ·subst hb;exact((hl r (hA r (hnew r h))).2.2.2 b' (hold b' r hb' h')).elim
   ·subst hb';exact((hl r (hA r (hnew r h'))).2.2.2 b (hold b r hb h)).elim
   ·exact ho.inj b b' r (hold b r hb h) (hold b' r hb' h')
  ·rw[hblk];simp only[σ',AC,if_true];exact hy
  ·by_cases hb:b=σ.mem.length
   ·subst hb;exact .inr (hA r (hnew r h))
   ·exact .inl (hold b r hb h)
 rcases h3 with⟨g1,g2,g3⟩|⟨r,vs,T,g1,g2,g3,g4,g5⟩
 ·exact main none g1 (fun r h=>by cases h) (.inl ⟨rfl,g2⟩)
 ·subst g2;exact main (some r) g1 (fun r' h=>by cases h;simp) (.inr ⟨r,vs,T,rfl,g3,g4,g5⟩)
theorem aOq(ho:Ok base S0 σ){a:Bool}{τ:Shape}{x:Aa τ}{y:Value}{rs:List Nat}(h:FZ σ.w σ.S a τ x y rs)(hl:∀r∈rs,E7 base σ r){v:SV}{mem':Ae}(hg:DL σ.mem a τ x=some (v,mem')):
  ∃σ':Sit,σ'.mem=mem'/\σ'.w=σ.w/\σ'.S=σ.S/\Ok base S0 σ'/\Goes σ σ'/\A8 σ' v y/\∀b r,σ'.owned b r->σ.owned b r∨r∈rs:=by
 have plain:∀{a:Bool} {τ:Shape} {x:Aa τ},D0 σ.w σ.S a τ x y->DL.giveP σ.mem a τ x=some (v,mem')->∃σ':Sit,σ'.mem=mem'/\σ'.w=σ.w/\σ'.S=σ.S/\Ok base S0 σ'/\Goes σ σ'/\A8 σ' v y/\∀b r,σ'.owned b r->σ.owned b r∨r∈rs:=fun {a τ x} hp e=>by
  unfold DL.giveP at e;cases a with
  |true=>
   simp only[cond_true,af]at e;cases e;obtain⟨cs,h4,h5⟩:=hp;exact⟨σ,rfl,rfl,rfl,ho,Goes.refl σ,⟨cs,h4,ME h5⟩,fun _ _ h=>.inl h⟩
  |false=>
   simp only[cond_false]at e;split at e
   ·rename_i c ec;cases e;have:=ME (σ:=σ) hp;rw[ec]at this;cases this with
    |cons h _=>exact⟨σ,rfl,rfl,rfl,ho,Goes.refl σ,h,fun _ _ h=>.inl h⟩
   ·cases e
 cases τ with
 |slice e=>
  cases a with
  |true=>
   simp only[DL,cond_true,af]at hg;cases hg;exact aE6 ho h hl
  |false=>exact plain h.2 hg
 |_=>exact plain h.2 hg
theorem ZJ:∀{sg:Ab} {σ:Sit} (_:Ok base S0 σ) {x:DenS sg} {ys:List Value} {rs:List Nat} (_:Ct σ.w σ.S sg x ys rs) (_:rs.Nodup) (_:∀r∈rs,E7 base σ r) {vs:List SV} {mem':Ae},CB σ.mem sg x=some (vs,mem') ->
  ∃σ':Sit,σ'.mem=mem'/\σ'.w=σ.w/\σ'.S=σ.S/\Ok base S0 σ'/\Goes σ σ'/\All2 (A8 σ') vs ys
 | [],σ,ho,x,ys,rs,h,_,_,vs,mem',e=>by
  simp only[CB]at e;cases e
  obtain⟨rfl,_⟩:=h
  exact⟨σ,rfl,rfl,rfl,ho,Goes.refl σ,.nil⟩
 |(a,τ)::sg,σ,ho,x,ys,rs,h,hn,hl,vs,mem',e=>by
  simp only[CB]at e
  obtain⟨y,ys',r1,r2,rfl,rfl,h1,h2⟩:=h
  split at e
  ·rename_i v m1 e1
   split at e
   ·rename_i r m2 e2
    cases e
    obtain⟨n1,n2,n3⟩:=jt.1 hn
    obtain⟨σ1,a1,a2,a3,a4,a5,a6,a7⟩:=aOq ho h1 (fun r hr=>hl r (cz.2 (.inl hr))) e1
    rw[←a1]at e2
    rw[←a2,←a3]at h2
    obtain⟨σ2,b1,b2,b3,b4,b5,b6⟩:=ZJ a4 h2 n2 (fun r hr=>by
     obtain⟨l1,l2,l3,l4⟩:=hl r (cz.2 (.inr hr))
     refine⟨l1,by rw[a2];exact l2,by rw[a3];exact l3,fun b hb=>?_⟩
     rcases a7 b r hb with g|g
     ·exact l4 b g
     ·exact n3 r g r hr rfl) e2
    exact⟨σ2,b1,b2.trans a2,b3.trans a3,b4,a5.trans b5,.cons (b5.repV a6) b6⟩
   ·cases e
  ·cases e
theorem aVb(ho:Ok base S0 σ){a:Bool}{τ:Shape}{z:SV}{x:Aa τ}{mem':Ae}(h:IB σ.mem a τ z=some (x,mem')):
  ∃σ':Sit,σ'.mem=mem'/\σ'.w=σ.w/\Ok base S0 σ'/\Goes σ σ'/\mem'.length=σ.mem.length:=by
 have plain:∀{a:Bool} {τ:Shape} {x:Aa τ},Eh σ.mem a τ z=some (x,mem')->mem'=σ.mem:=fun {a τ x} h=>by
  unfold Eh at h;cases z<;>cases a<;>simp only[cond_true,cond_false]at h<;>first|(cases h;done)|skip
  ·split at h
   ·cases h;rfl
   ·cases h
  ·split at h
   ·cases h;rfl
   ·cases h
 have same:mem'=σ.mem->∃σ':Sit,σ'.mem=mem'/\σ'.w=σ.w/\Ok base S0 σ'/\Goes σ σ'/\mem'.length=σ.mem.length:=fun e=>⟨σ,e.symm,rfl,ho,Goes.refl σ,by rw[e]⟩
 have gone:∀{b:Nat} {τ:Shape} {xs:List (Aa τ)},Ac σ.mem b=.arr τ xs∨Ac σ.mem b=.acc τ xs->mem'=σ.mem.set b .gone->∃σ':Sit,σ'.mem=mem'/\σ'.w=σ.w/\Ok base S0 σ'/\Goes σ σ'/\mem'.length=σ.mem.length:=fun {b τ xs} he e=>by
  have hy:Aw σ (.own b) (.slice ((σ.E.β b).map fun r=>⟨r,0,none⟩) xs.length (σ.E.κ b)):=by
   refine⟨DH (by rcases he with h|h<;>rw[h]<;>simp),trivial,?_⟩;rcases he with h|h
   ·rw[h]
   ·rw[h]
  obtain⟨σ',rs,a1,a2,a3,a4,a5,a6,_⟩:=VE ho he hy;exact⟨σ',a1.trans e.symm,a2,a5,a6,by rw[e];simp⟩
 cases τ with
 |slice e=>
  cases a with
  |false=>exact same (plain h)
  |true=>
   simp only[IB,cond_true]at h;split at h
   ·split at h
    ·rename_i eb;split at h
     ·cases h;exact gone (.inl eb) rfl
     ·cases h
    ·rename_i eb;split at h
     ·cases h;exact gone (.inr eb) rfl
     ·cases h
    ·cases h
   ·cases h;exact same rfl
   ·cases h
 |_=>exact same (plain h)
theorem aIn:∀{sg:Ab} {σ:Sit} (_:Ok base S0 σ) {args:List SV} {x:DenS sg} {mem':Ae},CH σ.mem sg args=some (x,mem')->∃σ':Sit,σ'.mem=mem'/\σ'.w=σ.w/\Ok base S0 σ'/\Goes σ σ'/\mem'.length=σ.mem.length
 | [],σ,ho,[],x,mem',h=>by simp only[CH]at h;cases h;exact⟨σ,rfl,rfl,ho,Goes.refl σ,rfl⟩
 | [],σ,ho,_::_,x,mem',h=>by simp[CH]at h
 |_::_,σ,ho,[],x,mem',h=>by simp[CH]at h
 |(a,τ)::sg,σ,ho,z::args,x,mem',h=>by
  simp only[CH]at h
  split at h
  ·rename_i u m1 e1
   split at h
   ·rename_i v m2 e2
    cases h
    obtain⟨σ1,a1,a2,a3,a4,a5⟩:=aVb ho e1
    rw[←a1]at e2
    obtain⟨σ2,b1,b2,b3,b4,b5⟩:=aIn a3 e2
    exact⟨σ2,b1,b2.trans a2,b3,a4.trans b4,by rw[b5,a1,a5]⟩
   ·cases h
  ·cases h
theorem aDx:∀{l:List (Nat×Nat)} {mem m:Ae} {ns:List Nat},Ig mem l=some (ns,m)->m.length=mem.length
 | [],mem,m,ns,h=>by simp only[Ig]at h;cases h;rfl
 |(b,off+1)::l,mem,m,ns,h=>by simp[Ig]at h
 |(b,0)::l,mem,m,ns,h=>by
  simp only[Ig]at h
  split at h
  ·split at h
   ·rename_i e2
    cases h
    rw[aDx e2]
    simp
   ·cases h
  ·cases h
theorem aNi:∀{sg:Ab} {mem:Ae} {args args':List SV} {mem':Ae},Be mem sg args=(args',mem')->mem'.length=mem.length:=by
 have h1:∀(mem:Ae) (c:SC),(C8 mem c).2.length=mem.length:=fun mem c=>by
  unfold C8;split
  ·split
   ·rename_i e;exact aDx e
   ·rfl
  ·split<;>simp
  ·rfl
 have h2:∀(l:List SC) (mem:Ae),(EY mem l).2.length=mem.length:=fun l=>by
  induction l with
  |nil=>intro mem;rfl
  |cons c r ih=>intro mem;simp only[EY];rw[ih,h1]
 have h3:∀(mem:Ae) (z:SV),(FH mem z).2.length=mem.length:=fun mem z=>by
  cases z with
  |one c=>simp only[FH];exact h1 mem c
  |agg cs=>simp only[FH];exact h2 cs mem
 intro sg;induction sg with
 |nil=>intro mem args args' mem' h;simp only[Be]at h;cases h;rfl
 |cons p sg ih=>
  intro mem args args' mem' h;obtain⟨a,τ⟩:=p;cases args with
  |nil=>simp only[Be]at h;cases h;rfl
  |cons z r=>
   simp only[Be]at h;cases hb:J9 a τ with
   |true=>
    rw[hb]at h;simp only[cond_true]at h;cases e:Be mem sg r with
    |mk r' m'=>rw[e]at h;simp only at h;cases h;exact ih e
   |false=>
    rw[hb]at h;simp only[cond_false]at h;cases e:Be (FH mem z).2 sg r with
    |mk r' m'=>rw[e]at h;simp only at h;cases h;rw[ih e,h3]
theorem uE:∀{sg:Ab} {mem:Ae} {x:DenS sg} {vs:List SV} {mem':Ae},CB mem sg x=some (vs,mem')->∃l,mem'=mem++l
 | [],mem,x,vs,mem',h=>by simp only[CB]at h;cases h;exact⟨[],by simp⟩
 |(a,τ)::sg,mem,x,vs,mem',h=>by
  simp only[CB]at h
  split at h
  ·rename_i v m1 e1
   split at h
   ·rename_i r m2 e2
    cases h
    obtain⟨l2,h2⟩:=uE e2
    have plain:∀{τ:Shape} {y:Aa τ},DL.giveP mem a τ y=some (v,m1)->m1=mem:=fun {τ y} h=>by
     unfold DL.giveP at h
     cases a with
     |true=>simp only[cond_true]at h;cases h;rfl
     |false=>
      simp only[cond_false]at h
      split at h
      ·cases h;rfl
      ·cases h
    have h1:∃l,m1=mem++l:=by
     cases τ with
     |slice e=>
      simp only[DL]at e1
      cases a with
      |true=>simp only[cond_true]at e1;cases e1;exact⟨_,rfl⟩
      |false=>
       simp only[cond_false]at e1
       split at e1
       ·cases e1;exact⟨[],by simp⟩
       ·cases e1
     |_=>exact⟨[],by rw[dp];exact plain e1⟩
    obtain⟨l1,h1⟩:=h1
    exact⟨l1++l2,by rw[h2,h1,fj]⟩
   ·cases h
  ·cases h
theorem aE8{sg:Ab}{mem:Ae}{x:DenS sg}{vs:List SV}{mem':Ae}(h:CB mem sg x=some (vs,mem'))(hl:mem'.length=mem.length):mem'=mem:=by
 obtain⟨l,rfl⟩:=uE h;have:l=[]:=cq (by rw[fh]at hl;omega);rw[this,dp]
end Vx
namespace Vx
open Go Go.RowKit
def R0(w:World)(S:Nat->Prop):(k:LK)->k.D->Value->Value->List Nat->Prop
 |.win e,x,y,y0,rs=>Ga w S e x.1 y0 rs/\x.2.1+x.2.2<=x.1.length/\∃A c,y=.slice A x.2.2 c/\x.2.2<=c/\c<BQ /\
   (0<x.2.2->∃r k,y0=.slice (some ⟨r,0,none⟩) x.1.length k/\A=some ⟨r,x.2.1*e.width,none⟩)
 |.ref τ,x,y,y0,rs=>y0=y/\∃r vs T,y=.pointer (some ⟨r,0,none⟩)/\rs=[r]/\w.heap[r]? = some (.cells vs T (0,0))/\AN w S τ x vs.toList
def Ki(w:World)(S:Nat->Prop):(k:LK)->k.B->Value->List Nat->Prop
 |.win e,xs,y0,rs=>Ga w S e xs y0 rs
 |.ref τ,x,y0,rs=>∃r vs T,y0=.pointer (some ⟨r,0,none⟩)/\rs=[r]/\w.heap[r]? = some (.cells vs T (0,0))/\AN w S τ x vs.toList
theorem Ga.mono{w w':World}{S S':Nat->Prop}(hS:∀r,S r->S' r)(hH:∀r,S r->w'.heap[r]? = w.heap[r]?){e:Shape}{xs:List (Aa e)}{y:Value}{rs:List Nat}(hR:∀r∈rs,w'.heap[r]? = w.heap[r]?)(h:Ga w S e xs y rs):Ga w' S' e xs y rs:=by
 obtain⟨k,h1,h2,h3⟩:=h;refine⟨k,h1,h2,?_⟩;rcases h3 with h3|⟨r,vs,T,h4,rfl,h5,h6,h7⟩
 ·exact .inl h3
 ·exact .inr ⟨r,vs,T,h4,rfl,(hR r (by simp)).trans h5,h6,h7.mono hS hH⟩
theorem R0.mono{w w':World}{S S':Nat->Prop}(hS:∀r,S r->S' r)(hH:∀r,S r->w'.heap[r]? = w.heap[r]?){k:LK}{x:k.D}{y y0:Value}{rs:List Nat}(hR:∀r∈rs,w'.heap[r]? = w.heap[r]?)(h:R0 w S k x y y0 rs):R0 w' S' k x y y0 rs:=by
 cases k with
 |win e=>exact⟨h.1.mono hS hH hR,h.2⟩
 |ref τ=>
  obtain⟨h1,r,vs,T,h2,rfl,h3,h4⟩:=h;exact⟨h1,r,vs,T,h2,rfl,(hR r (by simp)).trans h3,h4.mono hS hH⟩
theorem Ki.mono{w:World}{S S':Nat->Prop}(hS:∀r,S r->S' r){k:LK}{x:k.B}{y0:Value}{rs:List Nat}(h:Ki w S k x y0 rs):Ki w S' k x y0 rs:=by
 cases k with
 |win e=>exact Ga.mono hS (fun _ _=>rfl) (fun _ _=>rfl) h
 |ref τ=>
  obtain⟨r,vs,T,h2,h2',h3,h4⟩:=h;exact⟨r,vs,T,h2,h2',h3,h4.mono hS (fun _ _=>rfl)⟩
def Was(σ:Sit)(k:LK)(b:Nat)(y0:Value):Prop:=
 b<σ.mem.length/\match k with
  |.win e=>∃xs:List (Aa e),Ac σ.mem b=.arr e xs/\y0=.slice ((σ.E.β b).map fun r=>⟨r,0,none⟩) xs.length (σ.E.κ b)
  |.ref _=>∃cs r,Ac σ.mem b=.raw cs/\σ.E.β b=some r/\y0=.pointer (some ⟨r,0,none⟩)
variable {base:Base}{S0:Nat->Prop}{σ:Sit}
theorem aC9{α β:Type}{R R':α->β->Prop}:∀{as:List α} {bs:List β},All2 R as bs->(∀a b,a∈as->R a b->R' a b)->All2 R' as bs
 |_,_,.nil,_=>.nil
 |_,_,.cons h t,hR=>.cons (hR _ _ (by simp) h) (aC9 t fun a b ha=>hR a b (by simp[ha]))
theorem Bm.same{σ σ' σ'':Sit}{b:Nat}(h:Bm σ σ' b)(hm:Ac σ''.mem b=Ac σ'.mem b)(hβ:σ''.E.β b=σ'.E.β b)(hκ:σ''.E.κ b=σ'.E.κ b)(hw:σ''.w=σ'.w)(hS:σ''.S=σ'.S):Bm σ σ'' b:=by
 unfold Bm at h⊢;cases e:Ac σ.mem b with
 |gone=>rw[e]at h;simp only at h⊢;rw[hm];exact h
 |raw cs=>rw[e]at h;simp only at h⊢;rw[hm,hβ];exact h
 |arr τ xs=>rw[e]at h;simp only at h⊢;rw[hm,hβ,hκ,hw,hS];exact h
 |acc τ xs=>rw[e]at h;simp only at h⊢;rw[hm,hβ,hκ,hw,hS];exact h
 |froz τ xs=>rw[e]at h;simp only at h⊢;rw[hm];exact h
theorem aOL(ho:Ok base S0 σ){b:Nat}{cs:List SC}(he:Ac σ.mem b=.raw cs):
  ∃σ':Sit,σ'.mem=σ.mem.set b .gone/\σ'.w=σ.w/\σ'.E=σ.E/\σ'.S=σ.S/\Ok base S0 σ'/\Goes σ σ'/\(∀r,σ.E.β b=some r->∀b,¬σ'.owned b r)/\∀b r,σ'.owned b r->σ.owned b r:=by
 have hlt:b<σ.mem.length:=DH (by rw[he];simp);have hset:∀b',Ac (σ.mem.set b .gone) b'=if b'=b then .gone else Ac σ.mem b':=fun b'=>Ci hlt;have hold:∀b' r,Sit.owned ⟨σ.E,σ.mem.set b .gone,σ.w,σ.S⟩ b' r->σ.owned b' r/\b'≠b:=fun b' r ⟨h1,h2⟩=>by
  simp only at h1;rw[hset]at h1;split at h1
  ·exact h1.elim
  ·rename_i hne;exact⟨⟨h1,h2⟩,hne⟩
 have hg:Goes σ ⟨σ.E,σ.mem.set b .gone,σ.w,σ.S⟩:=by
  refine⟨fun _ h=>h,fun _ _=>rfl,by simp,fun b' hb'=>?_⟩;by_cases hbb:b'=b
  ·subst hbb;unfold Bm;rw[he];exact .inr (by rw[hset,if_pos rfl])
  ·exact Bm.refl (by simp only;rw[hset,if_neg hbb]) rfl rfl
 refine⟨⟨σ.E,σ.mem.set b .gone,σ.w,σ.S⟩,rfl,rfl,rfl,rfl,?_,hg,fun r hr b' h=>?_,fun b' r h=>(hold b' r h).1⟩
 ·refine⟨ho.below,ho.stab0,ho.stab,fun b'=>?_,fun b' r h=>ho.own b' r (hold b' r h).1,fun b1 b2 r h1 h2=>ho.inj b1 b2 r (hold b1 r h1).1 (hold b2 r h2).1⟩;by_cases hbb:b'=b
  ·subst hbb;unfold AF;simp only;rw[hset,if_pos rfl];trivial
  ·exact AF.keep hg (by simp only;rw[hset,if_neg hbb]) rfl rfl (fun _ _=>rfl) (ho.ent b')
 ·exact(hold b' r h).2 (ho.inj b' b r (hold b' r h).1 ⟨by rw[he];trivial,hr⟩)
theorem aHa(ho:Ok base S0 σ)(k:LK)(z:SV):∃σ':Sit,σ'.mem=RN σ.mem k z/\σ'.w=σ.w/\σ'.E=σ.E/\Ok base S0 σ'/\Goes σ σ':=by
 have same:∃σ':Sit,σ'.mem=σ.mem/\σ'.w=σ.w/\σ'.E=σ.E/\Ok base S0 σ'/\Goes σ σ':=⟨σ,rfl,rfl,rfl,ho,Goes.refl σ⟩
 cases k with
 |win e=>exact same
 |ref τ=>
  simp only[RN];split
  ·rename_i b;split
   ·rename_i cs eb;cases hf:EY σ.mem cs with
    |mk cs' m1=>
     simp only;obtain⟨σ1,a1,a2,a3,a4,a5,a6⟩:=Zv ho hf;have hlt:b<σ.mem.length:=DH (by rw[eb];simp);split;case h_2=>exact same
     rename_i cs1 hraw;rw[←a1]at hraw;have hlt1:b<σ1.mem.length:=DH (by rw[hraw];simp);have he:=ho.ent b;unfold AF at he;rw[eb]at he;obtain⟨r,vs,T,h1,h2,h3⟩:=he;have hset:∀b',Ac (σ1.mem.set b (.raw cs')) b'=if b'=b then .raw cs' else Ac σ1.mem b':=fun b'=>Ci hlt1;have hg:Goes σ1 ⟨σ1.E,σ1.mem.set b (.raw cs'),σ1.w,σ1.S⟩:=by
      refine⟨fun _ h=>h,fun _ _=>rfl,by simp,fun b' hb'=>?_⟩;by_cases hbb:b'=b
      ·subst hbb;unfold Bm;rw[hraw];exact .inl ⟨rfl,cs',by rw[hset,if_pos rfl]⟩
      ·exact Bm.refl (by simp only;rw[hset,if_neg hbb]) rfl rfl
     have hold:∀b' r,Sit.owned ⟨σ1.E,σ1.mem.set b (.raw cs'),σ1.w,σ1.S⟩ b' r->σ1.owned b' r:=fun b' r ⟨g1,g2⟩=>by
      simp only at g1;rw[hset]at g1;split at g1
      ·rename_i hbb;exact⟨by rw[hbb,hraw];trivial,g2⟩
      ·exact⟨g1,g2⟩
     refine⟨⟨σ1.E,σ1.mem.set b (.raw cs'),σ1.w,σ1.S⟩,by rw[a1],a2,a3,⟨a4.below,a4.stab0,a4.stab,fun b'=>?_,fun b' r h=>a4.own b' r (hold b' r h),fun b1 b2 r h1 h2=>a4.inj b1 b2 r (hold b1 r h1) (hold b2 r h2)⟩,a5.trans hg⟩;by_cases hbb:b'=b
     ·subst hbb;unfold AF;simp only;rw[hset,if_pos rfl];exact⟨r,vs,T,by rw[a3];exact h1,by rw[a2];exact h2,(a6 _ h3).mono fun _ _=>hg.repC⟩
     ·exact AF.keep hg (by simp only;rw[hset,if_neg hbb]) rfl rfl (fun _ _=>rfl) (a4.ent b')
   ·exact same
  ·exact same
theorem aOJ(ho:Ok base S0 σ){k:LK}{z:SV}{y:Value}(hz:A8 σ z y){b:Nat}{x:k.D}{mem':Ae}(h:ZR σ.mem k z=some (b,x,mem')):
  ∃(σ':Sit) (rs:List Nat) (y0:Value),σ'.mem=mem'/\σ'.w=σ.w/\σ'.S=σ.S/\Ok base S0 σ'/\Goes σ σ'/\R0 σ'.w σ'.S k x y y0 rs/\rs.Nodup/\(∀r∈rs,E7 base σ' r)/\Was σ k b y0/\Ac σ'.mem b=.gone/\(∀r∈rs,∃b,σ.owned b r)/\∀b r,σ'.owned b r->σ.owned b r:=by
 have row:∀{τ:Shape} {xs:List (Aa τ)} {b:Nat},Ac σ.mem b=.arr τ xs ->
   ∃(σ':Sit) (rs:List Nat),σ'.mem=σ.mem.set b .gone/\σ'.w=σ.w/\σ'.S=σ.S/\Ok base S0 σ'/\Goes σ σ'/\Ga σ'.w σ'.S τ xs (.slice ((σ.E.β b).map fun r=>⟨r,0,none⟩) xs.length (σ.E.κ b)) rs/\rs.Nodup/\(∀r∈rs,E7 base σ' r)/\Ac σ'.mem b=.gone/\(∀r∈rs,∃b,σ.owned b r)/\∀b r,σ'.owned b r->σ.owned b r:=fun {τ xs b} eb=>by
  have hlt:b<σ.mem.length:=DH (by rw[eb];simp);obtain⟨σ',rs,a1,a2,a3,a4,a5,a6,a7,a8,a9,a10⟩:=VE ho (.inl eb) (y:=.slice ((σ.E.β b).map fun r=>⟨r,0,none⟩) xs.length (σ.E.κ b)) ⟨hlt,trivial,by rw[eb]⟩;refine⟨σ',rs,a1,a2,a4,a5,a6,by rw[a2,a4];exact a7,a8,fun r hr=>?_,by rw[a1,Ci hlt,if_pos rfl],fun r hr=>(a9 r hr).1,a10⟩;obtain⟨⟨b',hb'⟩,hn⟩:=a9 r hr;have:=ho.own b' r hb';exact⟨this.1,by rw[a2];exact this.2.1,by rw[a4];exact this.2.2,hn⟩
 cases k with
 |win e=>
  simp only[ZR]at h;split at h
  ·rename_i b' lo len;split at h
   ·rename_i τ xs eb;split at h
    ·rename_i xs' ec;simp only[af,dh]at h;obtain⟨rfl,rfl,rfl⟩:=h;obtain⟨hττ,hxs⟩:=Ih ec;subst hττ;simp only at hxs;subst hxs;obtain⟨σ',rs,a1,a2,a2',a3,a4,a5,a6,a7,a8,a9,a10⟩:=row eb;obtain⟨hlt,_,hm⟩:=hz;rw[eb]at hm;obtain⟨q1,A,c,hy,q2,q3,q4⟩:=hm;refine⟨σ',rs,_,a1,a2,a2',a3,a4,⟨a5,q1,A,c,hy,q2,q3,fun hn=>?_⟩,a6,a7,⟨hlt,_,eb,rfl⟩,a8,a9,a10⟩;obtain⟨r,hr,hA⟩:=q4 hn;exact⟨r,_,by rw[hr];rfl,hA⟩
    ·cases h
   ·cases h
  ·rename_i b';split at h
   ·rename_i τ xs eb;split at h
    ·rename_i xs' ec;simp only[af,dh]at h;obtain⟨rfl,rfl,rfl⟩:=h;obtain⟨hττ,hxs⟩:=Ih ec;subst hττ;simp only at hxs;subst hxs;obtain⟨σ',rs,a1,a2,a2',a3,a4,a5,a6,a7,a8,a9,a10⟩:=row eb;obtain⟨hlt,_,hm⟩:=hz;rw[eb]at hm;have he:=ho.ent b';unfold AF at he;rw[eb]at he;obtain⟨q1,q2,_⟩:=he;refine⟨σ',rs,_,a1,a2,a2',a3,a4,⟨a5,by simp,_,_,hm,q1,q2,fun hn=>?_⟩,a6,a7,⟨hlt,_,eb,rfl⟩,a8,a9,a10⟩;obtain⟨r,hβ⟩:=r8 (ho.ent b') eb hn;exact⟨r,_,by rw[hβ];rfl,by rw[hβ];simp⟩
    ·cases h
   ·cases h
  ·cases h
 |ref τ=>
  simp only[ZR]at h;split at h
  ·rename_i b';split at h
   ·rename_i cs eb;split at h
    ·rename_i x' ep;simp only[af,dh]at h;obtain⟨rfl,rfl,rfl⟩:=h;obtain⟨hlt,_,hm⟩:=hz;rw[eb]at hm;obtain⟨r,hβ,hy⟩:=hm;have he:=ho.ent b';unfold AF at he;rw[eb]at he;obtain⟨r',vs,T,h1,h2,h3⟩:=he;rw[hβ]at h1;cases h1;obtain⟨y1,y2,hyy,p1,p2⟩:=MZ h3 ep;cases p2;rw[dp]at hyy;obtain⟨σ2,b1,b2,b3,b4,b5,b6,b7,b8⟩:=aOL ho eb;have hown:=ho.own b' r ⟨by rw[eb];trivial,hβ⟩;refine⟨σ2,[r],_,b1,b2,b4,b5,b6,⟨rfl,r,vs,T,hy,rfl,by rw[b2];exact h2,?_⟩,by simp,fun q hq=>?_,⟨hlt,cs,r,eb,hβ,hy⟩,?_,fun q hq=>?_,b8⟩
     ·rw[b2,b4,hyy];exact p1
     ·simp at hq;subst hq;exact⟨hown.1,by rw[b2];exact hown.2.1,by rw[b4];exact hown.2.2,b7 q hβ⟩
     ·rw[b1,Ci hlt,if_pos rfl]
     ·simp at hq;subst hq;exact⟨b',by rw[eb];trivial,hβ⟩
    ·cases h
   ·cases h
  ·cases h
theorem aTQ{σ σ':Sit}{b:Nat}(hw:σ'.w=σ.w)(hS:σ'.S=σ.S)(hlen:σ'.mem.length=σ.mem.length)(hoth:∀b',b'≠b->Ac σ'.mem b'=Ac σ.mem b'/\σ'.E.β b'=σ.E.β b'/\σ'.E.κ b'=σ.E.κ b'){c:SC}{y:Value}(hc:Aw σ c y)(hn:VI b c=false):Aw σ' c y:=by
 have ne:∀{b':Nat},Nat.beq b' b=false->b'≠b:=fun h e=>by subst e;rw[dq]at h;cases h
 cases c with
 |undef=>exact hc
 |v x=>exact hc
 |fl k o=>exact hc
 |sl τ xs=>simp only[Aw];rw[hw,hS];exact hc
 |own b' =>
  obtain⟨g1,g2,g3⟩:=hoth b' (ne hn);obtain⟨h1,h2,h3⟩:=hc;refine⟨by rw[hlen];exact h1,h2,?_⟩;rw[g1,g2,g3,hw,hS];exact h3
 |ptr b' off=>
  obtain⟨g1,g2,g3⟩:=hoth b' (ne hn);obtain⟨h1,h2,h3⟩:=hc;refine⟨by rw[hlen];exact h1,h2,?_⟩;rw[g1,g2];exact h3
 |eptr b' i off=>
  obtain⟨g1,g2,g3⟩:=hoth b' (ne hn);obtain⟨h1,h2,h3⟩:=hc;refine⟨by rw[hlen];exact h1,h2,?_⟩;rw[g1,g2];exact h3
 |sub b' lo n=>
  obtain⟨g1,g2,g3⟩:=hoth b' (ne hn);obtain⟨h1,h2,h3⟩:=hc;refine⟨by rw[hlen];exact h1,h2,?_⟩;rw[g1,g2];exact h3
 |iptr τ x off=>simp only[Aw];rw[hw,hS];exact hc
 |gptr g=>exact hc
 |fnv o=>simp only[Aw];rw[hw,hS];exact hc
 |ifv o=>simp only[Aw];rw[hw,hS];exact hc
 |fn f caps=>
  have hne:∀p∈caps,p.1≠b:=fun p hp e=>by
   simp only[VI,List.any_eq_false]at hn;have:=hn p hp;rw[e,dq]at this;exact this rfl
  obtain⟨h1,h2,h3⟩:=hc;refine⟨fun p hp=>by rw[hlen];exact h1 p hp,h2,?_⟩;rcases h3 with⟨p,hp,hq⟩|⟨rs,g1,g2⟩
  ·exact .inl ⟨p,hp,by rw[(hoth p.1 (hne p hp)).1];exact hq⟩
  ·refine .inr ⟨rs,?_,g2⟩;rw[←g1];exact List.map_congr_left fun p hp=>(hoth p.1 (hne p hp)).2.1
theorem aNc{b:Nat}{mem:Ae}(h:SZ b mem=true){b':Nat}{cs:List SC}(e:Ac mem b'=.raw cs):∀c∈cs,VI b c=false:=fun c hc=>by
 unfold SZ at h
 rw[le]at h
 have hlt:b'<mem.length:=DH (by rw[e];simp)
 have hmem:(.raw cs:Blk)∈mem:=by
  unfold Ac at e
  rw[bc hlt]at e
  simp only[mh]at e
  rw[←e];exact gx hlt
 have:=h _ hmem
 simp only[aEt,le,dm]at this
 exact this c hc
theorem iX(ho:Ok base S0 σ){b:Nat}(hlt:b<σ.mem.length)(hgone:Ac σ.mem b=.gone)(hfree:SZ b σ.mem=true)(e:Blk)(A:Option Nat)(k:Nat)(hl:∀r,A=some r->E7 base σ r)
  (hm:∀σ':Sit,σ'.mem=σ.mem.set b e->σ'.w=σ.w->σ'.S=σ.S->Ac σ'.mem b=e->σ'.E.β b=A->σ'.E.κ b=k->AF σ' b) :
  ∃σ':Sit,σ'.mem=σ.mem.set b e/\σ'.w=σ.w/\σ'.S=σ.S/\Ok base S0 σ'/\Ac σ'.mem b=e/\σ'.E.β b=A/\σ'.E.κ b=k/\(∀b',b'≠b->Ac σ'.mem b'=Ac σ.mem b'/\σ'.E.β b'=σ.E.β b'/\σ'.E.κ b'=σ.E.κ b') /\
   ∀b' r,σ'.owned b' r->σ.owned b' r∨A=some r:=by
 let σ':Sit:={E:=⟨AC σ.E.β b A,AC σ.E.κ b k⟩,mem:=σ.mem.set b e,w:=σ.w,S:=σ.S}
 have hset:∀b',Ac σ'.mem b'=if b'=b then e else Ac σ.mem b':=fun b'=>Ci hlt;have hself:Ac σ'.mem b=e:=by rw[hset,if_pos rfl]
 have hβ:σ'.E.β b=A:=by simp[σ',AC]
 have hκ:σ'.E.κ b=k:=by simp[σ',AC]
 have hoth:∀b',b'≠b->Ac σ'.mem b'=Ac σ.mem b'/\σ'.E.β b'=σ.E.β b'/\σ'.E.κ b'=σ.E.κ b':=fun b' hne=>⟨by rw[hset,if_neg hne],by simp[σ',AC,hne],by simp[σ',AC,hne]⟩
 have hold:∀b' r,b'≠b->σ'.owned b' r->σ.owned b' r:=fun b' r hne ⟨h1,h2⟩=>by
  obtain⟨g1,g2,_⟩:=hoth b' hne;rw[g1]at h1;exact⟨h1,g2.symm.trans h2⟩
 have hnew:∀r,σ'.owned b r->A=some r:=fun r ⟨_,h2⟩=>hβ.symm.trans h2;refine⟨σ',rfl,rfl,rfl,⟨ho.below,ho.stab0,ho.stab,fun b'=>?_,fun b' r h=>?_,fun b1 b2 r h1 h2=>?_⟩,hself,hβ,hκ,hoth,fun b' r h=>?_⟩
 ·by_cases hbb:b'=b
  ·subst hbb;exact hm σ' rfl rfl rfl hself hβ hκ
  ·obtain⟨g1,g2,g3⟩:=hoth b' hbb;have he:=ho.ent b';unfold AF at he⊢;rw[g1,g2,g3];cases eb:Ac σ.mem b' with
   |gone=>trivial
   |froz τ xs=>trivial
   |arr τ xs=>rw[eb]at he;exact he
   |acc τ xs=>rw[eb]at he;exact he
   |raw cs=>
    rw[eb]at he;obtain⟨r,vs,T,h1,h2,h3⟩:=he;refine⟨r,vs,T,h1,h2,?_⟩;have hcs:=aNc hfree eb;exact aC9 h3 fun c y hc hy=>aTQ (σ:=σ) (σ':=σ') rfl rfl (by simp[σ']) hoth hy (hcs c hc)
 ·by_cases hbb:b'=b
  ·subst hbb;have:=hl r (hnew r h);exact⟨this.1,this.2.1,this.2.2.1⟩
  ·exact ho.own b' r (hold b' r hbb h)
 ·by_cases hb1:b1=b<;>by_cases hb2:b2=b
  ·rw[hb1,hb2]
  ·subst hb1;exact((hl r (hnew r h1)).2.2.2 b2 (hold b2 r hb2 h2)).elim
  ·subst hb2;exact((hl r (hnew r h2)).2.2.2 b1 (hold b1 r hb1 h1)).elim
  ·exact ho.inj b1 b2 r (hold b1 r hb1 h1) (hold b2 r hb2 h2)
 ·by_cases hbb:b'=b
  ·subst hbb;exact .inr (hnew r h)
  ·exact .inl (hold b' r hbb h)
theorem aL1{σ3:Sit}(ho:Ok base S0 σ3)(hg:Goes σ σ3){k:LK}{b:Nat}{y0:Value}(hw:Was σ k b y0)(hgone:Ac σ3.mem b=.gone)(hfree:SZ b σ3.mem=true){x:k.B}{rs:List Nat}(hb:Ki σ3.w σ3.S k x y0 rs)(hl:∀r∈rs,E7 base σ3 r):
  ∃σ4:Sit,σ4.mem=SI σ3.mem b k x/\σ4.w=σ3.w/\σ4.S=σ3.S/\Ok base S0 σ4/\Goes σ σ4/\∀b' r,σ4.owned b' r->σ3.owned b' r∨r∈rs:=by
 have hlt:b<σ3.mem.length:=ah hw.1 hg.len;cases k with
 |win e=>
  obtain⟨k0,h1,h2,h3⟩:=hb;obtain⟨hltb,xs0,eb,hy0⟩:=hw;have main:∀A:Option Nat,y0=.slice (A.map fun r=>⟨r,0,none⟩) x.length k0->(∀r,A=some r->r∈rs)->((A=none/\k0=0)∨∃r vs T,A=some r/\σ3.w.heap[r]? = some (.cells vs T (0,0))/\vs.size=k0*e.width/\Rows σ3.w σ3.S e vs 0 x) ->
    ∃σ4:Sit,σ4.mem=SI σ3.mem b (.win e) x/\σ4.w=σ3.w/\σ4.S=σ3.S/\Ok base S0 σ4/\Goes σ σ4/\∀b' r,σ4.owned b' r->σ3.owned b' r∨r∈rs:=fun A hy hA hc=>by
   obtain⟨σ4,c1,c2,c3,c4,c5,c6,c7,c8,c9⟩:=iX ho hlt hgone hfree (.arr e x) A k0 (fun r hr=>hl r (hA r hr)) (fun σ' m1 m2 m3 m4 m5 m6=>by
    unfold AF;rw[m4,m5,m6,m2,m3];exact⟨h1,h2,hc⟩)
   have heq:A=σ.E.β b/\x.length=xs0.length/\k0=σ.E.κ b:=by
    rw[hy]at hy0;simp only[qv]at hy0;refine⟨?_,hy0.2⟩;have:=hy0.1;cases A<;>cases hbb:σ.E.β b<;>rw[hbb]at this<;>simp at this⊢;exact this
   refine⟨σ4,c1,c2,c3,c4,⟨fun r hr=>by rw[c3];exact hg.stab r hr,fun r hr=>by rw[c2];exact hg.heap r hr,by rw[c1];simp[SI];exact hg.len,fun b' hb'=>?_⟩,fun b' r h=>?_⟩
   ·by_cases hbb:b'=b
    ·subst hbb;unfold Bm;rw[eb];exact .inl ⟨c6.trans heq.1,c7.trans heq.2.2,x,c5,heq.2.1⟩
    ·obtain⟨g1,g2,g3⟩:=c8 b' hbb;exact(hg.turns b' hb').same g1 g2 g3 c2 c3
   ·rcases c9 b' r h with g|g
    ·exact .inl g
    ·exact .inr (hA r g)
  rcases h3 with⟨g1,g2,g3⟩|⟨r,vs,T,g1,g2,g3,g4,g5⟩
  ·exact main none g1 (fun r h=>by cases h) (.inl ⟨rfl,g2⟩)
  ·subst g2;exact main (some r) g1 (fun r' h=>by cases h;simp) (.inr ⟨r,vs,T,rfl,g3,g4,g5⟩)
 |ref τ=>
  obtain⟨r,vs,T,h1,rfl,h2,h3⟩:=hb;obtain⟨hltb,cs,r0,eb,hβ,hy0⟩:=hw;have hrr:r=r0:=by rw[h1]at hy0;simpa using hy0
  subst hrr;obtain⟨σ4,c1,c2,c3,c4,c5,c6,c7,c8,c9⟩:=iX ho hlt hgone hfree (.raw (cellsOf τ x)) (some r) 0 (fun r' hr=>by cases hr;exact hl r (by simp)) (fun σ' m1 m2 m3 m4 m5 m6=>by
   unfold AF;rw[m4];exact⟨r,vs,T,m5,by rw[m2];exact h2,ME (by rw[m2,m3];exact h3)⟩)
  refine⟨σ4,c1,c2,c3,c4,⟨fun r hr=>by rw[c3];exact hg.stab r hr,fun r hr=>by rw[c2];exact hg.heap r hr,by rw[c1];simp[SI];exact hg.len,fun b' hb'=>?_⟩,fun b' r' h=>?_⟩
  ·by_cases hbb:b'=b
   ·subst hbb;unfold Bm;rw[eb];exact .inl ⟨c6.trans hβ.symm,_,c5⟩
   ·obtain⟨g1,g2,g3⟩:=c8 b' hbb;exact(hg.turns b' hb').same g1 g2 g3 c2 c3
  ·rcases c9 b' r' h with g|g
   ·exact .inl g
   ·cases g;exact .inr (by simp)
end Vx
namespace Vx
open Go Go.RowKit
def GlobsOk(G:List (Nat×Sigma fun τ=>List (Aa τ)))(w:World)(S:Nat->Prop):Prop:=
 ∀g τ xs,MK G g=some ⟨τ,xs⟩->S g/\∃vs T fz,w.heap[g]? = some (.cells vs T fz)/\Rows w S τ vs 0 xs
theorem aOr{C:Cfg}{w:World}{S:Nat->Prop}(h:GlobsOk C.globs w S):xR C w S:=h
theorem GlobsOk.mono{G:List (Nat×Sigma fun τ=>List (Aa τ))}{w w':World}{S S':Nat->Prop}(hS:∀r,S r->S' r)(hH:∀r,S r->w'.heap[r]? = w.heap[r]?)(h:GlobsOk G w S):GlobsOk G w' S':=fun g τ xs e=>by
 obtain⟨h1,vs,T,fz,h2,h3⟩:=h g τ xs e
 exact⟨hS g h1,vs,T,fz,(hH g h1).trans h2,h3.mono hS hH⟩
def DX:List Value->Value
 | [y]=>y
 |ys=>.tuple ys.toArray
def WF (P:Program) (f:FuncId) (args:Array Value) (w:World) (post:Ending->World->Prop):Prop :=((∃ fn, P.funcs[f]? = some fn /\ fn.body.isNone = false /\ (fn.name == "runtime.NumGoroutine") = false) /\ Calls P f args w post) ∨ ∃ v,(callFunc f args).run P w=.ok (.value v) w/\post (.returned v) w
structure Sound (P:Program) (G:List (Nat×Sigma fun τ=>List (Aa τ))) (f:FuncId) (S:Sum):Prop where
 calls:∀x,S.pre x=true->∀(w:World) (St:Nat->Prop) (ys:List Value) (rs:List Nat),(∀q,St q->q<w.heap.size)->GlobsOk G w St->Ct w St S.ins x ys rs->rs.Nodup->(∀r∈rs,¬St r/\r<w.heap.size) ->
  WF P f ys.toArray w fun e w'=>∃zs rs',e=.returned (DX zs)/\Low ⟨w,fun r=>r∈rs⟩ w'/\(∀r∈rs',Base.new ⟨w,fun r=>r∈rs⟩ r/\r<w'.heap.size)/\rs'.Nodup /\
   Ct w' (fun q=>(St q∨(Base.new ⟨w,fun r=>r∈rs⟩ q/\q<w'.heap.size))/\q∉rs') S.outs (S.F x) zs rs'
def Sit.later(σ:Sit)(rs rs':List Nat)(w':World):Sit:={E:=σ.E,mem:=σ.mem,w:=w',S:=fun q=>(σ.S q∨(Base.new ⟨σ.w,fun r=>r∈rs⟩ q/\q<w'.heap.size))/\q∉rs' }
theorem aFo{base:Base}{S0:Nat->Prop}{σ:Sit}(ho:Ok base S0 σ){rs rs':List Nat}{w':World}(hl:∀r∈rs,E7 base σ r)(hb:Low ⟨σ.w,fun r=>r∈rs⟩ w')(hr':∀r∈rs',Base.new ⟨σ.w,fun r=>r∈rs⟩ r/\r<w'.heap.size):
  Ok base S0 (σ.later rs rs' w')/\Goes σ (σ.later rs rs' w')/\∀r∈rs',E7 base (σ.later rs rs' w') r:=by
 have hold:∀q,σ.S q->q<σ.w.heap.size/\q∉rs/\q∉rs':=fun q hq=>by
  refine⟨(ho.stab q hq).1,fun h=>(hl q h).2.2.1 hq,fun h=>?_⟩
  rcases(hr' q h).1 with g|g
  ·have:=(ho.stab q hq).1
   have g:σ.w.heap.size<=q:=g
   omega
  ·exact(hl q g).2.2.1 hq
 have hown:∀b r,σ.owned b r->r<σ.w.heap.size/\r∉rs:=fun b r h=>⟨(ho.own b r h).2.1,fun h'=>(hl r h').2.2.2 b h⟩
 have hnew:∀q,Base.new ⟨σ.w,fun r=>r∈rs⟩ q->base.new q:=fun q h=>by
  rcases h with h|h
  ·exact .inl (fk ho.below.size h)
  ·exact(hl q h).1
 have hg:Goes σ (σ.later rs rs' w'):=⟨fun q h=>⟨.inl h,(hold q h).2.2⟩,fun r hr=>hb.block r (hold r hr).1 (hold r hr).2.1,cg _,fun _ _=>Bm.refl rfl rfl rfl⟩
 refine⟨⟨ho.below.step hb.os hb.tape hb.output hb.size (fun k hk hn=>hb.block k hk (fun h=>hn ((hl k h).1))),fun r h=>⟨.inl (ho.stab0 r h),(hold r (ho.stab0 r h)).2.2⟩,fun r h=>?_,fun b=>?_,fun b r h=>?_,fun b b' r h h'=>ho.inj b b' r h h'⟩,hg,fun r hr=>?_⟩
 ·rcases h.1 with g|g
  ·exact⟨ah (ho.stab r g).1 hb.size,(ho.stab r g).2⟩
  ·exact⟨g.2,.inr (hnew r g.1)⟩
 ·exact AF.keep hg rfl rfl rfl (fun r hr=>hb.block r (hown b r hr).1 (hown b r hr).2) (ho.ent b)
 ·have:=ho.own b r h
  refine⟨this.1,ah this.2.1 hb.size,fun hs=>?_⟩
  rcases hs.1 with hs|hs
  ·exact this.2.2 hs
  ·rcases hs.1 with g|g
   ·have g:σ.w.heap.size<=r:=g
    omega
   ·exact(hown b r h).2 g
 ·refine⟨hnew r (hr' r hr).1,(hr' r hr).2,fun h=>h.2 hr,fun b h=>?_⟩
  have h:σ.owned b r:=h
  rcases(hr' r hr).1 with g|g
  ·have:=(hown b r h).1
   have g:σ.w.heap.size<=r:=g
   omega
  ·exact(hown b r h).2 g
structure SoundL (P:Program) (G:List (Nat×Sigma fun τ=>List (Aa τ))) (f:FuncId) (L:SumL):Prop where
 calls:∀x,L.pre x=true->∀(w:World) (St:Nat->Prop) (y y0:Value) (ys:List Value) (rl rs:List Nat),(∀q,St q->q<w.heap.size)->GlobsOk G w St->R0 w St L.lend x.1 y y0 rl->Ct w St L.ins x.2 ys rs->(rl++rs).Nodup->(∀r∈rl++rs,¬St r/\r<w.heap.size) ->
  WF P f (y::ys).toArray w fun e w'=>∃zs rs',e=.returned (DX zs)/\Low ⟨w,fun r=>r∈rl++rs⟩ w'/\(∀r∈rs',Base.new ⟨w,fun r=>r∈rl++rs⟩ r/\r<w'.heap.size)/\(rl++rs').Nodup /\
   Ct w' (fun q=>(St q∨(Base.new ⟨w,fun r=>r∈rl++rs⟩ q/\q<w'.heap.size))/\q∉rl++rs') L.outs (L.F x).2 zs rs' /\
   Ki w' (fun q=>(St q∨(Base.new ⟨w,fun r=>r∈rl++rs⟩ q/\q<w'.heap.size))/\q∉rl++rs') L.lend (L.F x).1 y0 rl
def TB(w:World)(S:Nat->Prop)(ns:List Nat)(ps:List Value):Prop:=ps.length=ns.length/\∀(i n:Nat),ns[i]? = some n->∃(r:Nat) (vs:Array Value) (T:TypeId) (fz:Nat×Nat),ps[i]? = some (jb (some ⟨r,0,none⟩))/\S r/\w.heap[r]? = some (Obj.cells vs T fz)/\vs[0]? = some (MC n)
theorem TB.mono{w w':World}{S S':Nat->Prop}(hS:∀r,S r->S' r)(hH:∀r,S r->w'.heap[r]? = w.heap[r]?){ns:List Nat}{ps:List Value}(h:TB w S ns ps):TB w' S' ns ps:=
 ⟨h.1,fun i n hi=>by
  obtain⟨r,vs,T,fz,e1,e2,e3,e4⟩:=h.2 i n hi
  exact⟨r,vs,T,fz,e1,hS r e2,(hH r e2).trans e3,e4⟩⟩
structure FnSound (P:Program) (G:List (Nat×Sigma fun τ=>List (Aa τ))) (f:FuncId) (cs:List Nat) (S:Sum):Prop where
 calls:∀x,S.pre x=true->∀(w:World) (St:Nat->Prop) (ys:List Value) (rs:List Nat) (ps:List Value),(∀q,St q->q<w.heap.size)->GlobsOk G w St->Ct w St S.ins x ys rs->rs.Nodup->(∀r∈rs,¬St r/\r<w.heap.size)->TB w St cs ps ->
  WF P f (ys++ps).toArray w fun e w'=>∃zs rs',e=.returned (DX zs)/\Low ⟨w,fun r=>r∈rs⟩ w'/\(∀r∈rs',Base.new ⟨w,fun r=>r∈rs⟩ r/\r<w'.heap.size)/\rs'.Nodup /\
   Ct w' (fun q=>(St q∨(Base.new ⟨w,fun r=>r∈rs⟩ q/\q<w'.heap.size))/\q∉rs') S.outs (S.F x) zs rs'
def u5(P:Program)(m:String)(T:TypeId)(f:FuncId):Bool:=
 match P.info? T,P.underlying T with
 |some i,some (.struct _)=>(match i.methods.find? (·.name==m)with
  |some row=>(match row.path.toList,row.func with
   | [],some (g,false)=>Nat.beq g f
   |_,_=>false)
  |none=>false)
 |_,_=>false
structure MSound (P:Program) (G:List (Nat×Sigma fun τ=>List (Aa τ))) (f:FuncId) (v:Value) (S:Sum):Prop where
 calls:∀x,S.pre x=true->∀(w:World) (St:Nat->Prop) (ys:List Value) (rs:List Nat),(∀q,St q->q<w.heap.size)->GlobsOk G w St->Ct w St S.ins x ys rs->rs.Nodup->(∀r∈rs,¬St r/\r<w.heap.size) ->
  WF P f (v::ys).toArray w fun e w'=>∃zs rs',e=.returned (DX zs)/\Low ⟨w,fun r=>r∈rs⟩ w'/\(∀r∈rs',Base.new ⟨w,fun r=>r∈rs⟩ r/\r<w'.heap.size)/\rs'.Nodup /\
   Ct w' (fun q=>(St q∨(Base.new ⟨w,fun r=>r∈rs⟩ q/\q<w'.heap.size))/\q∉rs') S.outs (S.F x) zs rs'
def Kk(P:Program)(G:List (Nat×Sigma fun τ=>List (Aa τ)))(S:SumF):Prop:=
 ∀v x,S.pre v x=true->∃f cs S1,v=some (f,cs)/\FnSound P G f cs S1/\∃(h1:S1.ins=S.ins) (h2:S1.outs=S.outs),S1.pre (h1▸x)=true/\S.F v x=h2▸S1.F (h1▸x)
def oD(P:Program)(G:List (Nat×Sigma fun τ=>List (Aa τ)))(m:String)(S:SumM):Prop:=
 ∀d x,S.pre d x=true->∃T ns f S1,d=some (T,ns)/\u5 P m T f=true/\((∀n∈ns,IntKind.i64.min<=n/\n<=IntKind.i64.max)->MSound P G f (.agg (ns.map (mn .i64)).toArray) S1)/\∃(h1:S1.ins=S.ins) (h2:S1.outs=S.outs),S1.pre (h1▸x)=true/\S.F d x=h2▸S1.F (h1▸x)
structure SumsOk (C:Cfg):Prop where
 sums:∀f mem args S,C.sum f mem args=some S->Sound C.P C.globs f S
 lsums:∀f mem args L,C.lsum f mem args=some L->SoundL C.P C.globs f L
 fns:∀T S,(T,S)∈C.fns->Kk C.P C.globs S
 meths:∀m S,(m,S)∈C.meths->oD C.P C.globs m S
theorem nU{σ:Sit}{vs:List SV}{ys:List Value}(h:All2 (A8 σ) vs ys):A2 σ (Nd vs) (DX ys):=by
 cases h with
 |nil=>exact⟨by simp,[],rfl,.nil⟩
 |cons h1 t=>
  cases t with
  |nil=>exact h1
  |cons h2 t=>exact⟨by simp,_,rfl,.cons h1 (.cons h2 t)⟩
theorem i9 {P : Program} {f : FuncId} (h : ∃ fn, P.funcs[f]? = some fn /\ fn.body.isNone = false /\ (fn.name == "runtime.NumGoroutine") = false) (args : Array Value) (w : World) : (callFunc f args).run P w = .ok (.enter f args) w := by
 obtain⟨fn,h1,h2,h3⟩:=h;unfold callFunc;have h2':¬fn.body=none:=fun e=>by rw[e]at h2;cases h2
 simp[h1];rw[if_neg (by simpa using h3),if_neg h2']
variable {C:Cfg}{base:Base}{S0:Nat->Prop}{σ:Sit}{s:St}{a:Act}{ctx:List (Nat×Bool)}{o:Oper}{x:TV}{mem':Ae}
theorem aPx(hC:SumsOk C)(ho:Ok base S0 σ)(hr:RelT σ s a)(hx:Bj a ctx)(hG:GlobsOk C.globs σ.w σ.S){c:Call}{fo:Operand}(hop:o.op=.call c)(hc:c.callee=.value fo){f:FuncId}{args:List SV}(ef:AZ s ctx fo=some (.fn f []))(eargs:Et s ctx c.args.toList=some args)
  {L:SumL} (hL:C.lsum f s.mem args=some L)
  (h:(match(generalizing:=false) args with
      |z::rest=>(match CH (Be (RN s.mem L.lend z) L.ins rest).2 L.ins (Be (RN s.mem L.lend z) L.ins rest).1 with
        |some (x,m2)=>(match ZR m2 L.lend z with
         |some (b,xl,m3)=>bif SZ b m3 then(match CB (SI m3 b L.lend (L.F (xl,x)).1) L.outs (L.F (xl,x)).2 with
          |some (vs,m4)=>some (Res.ok (L.pre (xl,x)) (Nd vs) m4)
          |none=>none)else none
         |none=>none)
        |none=>none)
      | []=>none)=some (Res.ok true x mem')):BE C base S0 id σ a o x mem':=by
 have hargs:=SR hr hx eargs
 cases args with
 |cons z rest=>
  simp only at h
  generalize hya:c.args.toList.map a.eval=yall at hargs
  cases hargs with
  |cons hz hrest=>
  rename_i y ys
  obtain⟨σ0,l1,l2,l3,l4,l5⟩:=aHa ho L.lend z
  cases hf:Be (RN s.mem L.lend z) L.ins rest with
  |mk rest' m1=>
   rw[hf]at h
   simp only at h
   rw[←hr.mem,←l1]at hf
   obtain⟨σ1,a1,a2,a3,a4,a5,a6⟩:=S4 l4 hf
   split at h
   ·rename_i v m2 ez
    split at h
    ·rename_i b xl m3 el
     obtain⟨hfree,h⟩:=AI h
     split at h
     ·rename_i vs m4 ev
      simp only[af,Res.ok.injEq]at h
      obtain⟨hpre,rfl,rfl⟩:=h
      rw[←a1]at ez
      obtain⟨σ2,rs,b1,b2,b3,b4,b5,b6,hsr,b8,b9,b10⟩:=aV a4 (a6 _ (hrest.mono fun _ _=>l5.repV)) ez
      have hg2:Goes σ σ2:=l5.trans (a5.trans b6)
      rw[←b1]at el
      obtain⟨σ3,rl,y0,d1,d2,d3,d4,d5,d6,d7,d8,d9,d10,d11,d12⟩:=aOJ b5 (hg2.repV hz) el
      have hcalls:=(hC.lsums f _ _ L hL).calls
      have hfv:a.eval fo=.func (.func f) #[] #[]:=by
       obtain⟨_,_,h1⟩:=Bs hr hx ef
       rcases h1 with⟨p,hp,_⟩|⟨rs,h1,h2⟩
       ·simp at hp
       ·simpa using h2
      intro K Q hK
      have hexec:(execOp a.eval o).run C.P σ.w=(callFunc f (y::ys).toArray).run C.P σ.w:=by
       simp only[execOp,hop,resolve,hc,hfv]
       simp only[Deferred.ofValue,cy,ee,bl,invoke]
       rw[←hya]
       congr 2
       apply gb.1
       simp
      have hw1:σ1.w=σ.w:=a2.trans l2
      have hw2:σ2.w=σ.w:=b2.trans hw1
      have hw3:σ3.w=σ.w:=d2.trans hw2
      have hS3:σ3.S=σ1.S:=d3.trans b4
      have hloose:∀r∈rs,E7 base σ3 r:=fun r hr'=>by
       obtain⟨⟨b',hb'⟩,hn⟩:=b9 r hr'
       have:=a4.own b' r hb'
       exact⟨this.1,by rw[d2,b2];exact this.2.1,by rw[hS3];exact this.2.2,fun b'' h=>hn b'' (d12 b'' r h)⟩
      have hdis:∀r∈rl,∀r'∈rs,r≠r':=fun r h1 r' h2 e=>by
       subst e
       obtain⟨b',hb'⟩:=d11 r h1
       exact(b9 r h2).2 b' hb'
      have hall:∀r∈rl++rs,E7 base σ3 r:=fun r hr'=>by
       rcases cz.1 hr' with h|h
       ·exact d8 r h
       ·exact hloose r h
      have hnd:(rl++rs).Nodup:=jt.2 ⟨d7,b8,hdis⟩
      have hsr3:Ct σ3.w σ3.S L.ins v ys rs:=by
       rw[hw3,hS3,←hw1];exact hsr
      have hcl:=hcalls (xl,v) hpre σ3.w σ3.S y y0 ys rl rs (fun q hq=>(d4.stab q hq).1) (by rw[hw3];exact GlobsOk.mono (hg2.trans d5).stab (fun _ _=>rfl) hG) d6 hsr3 hnd (fun r hr'=>⟨(hall r hr').2.2.1,(hall r hr').2.1⟩)
      rw[hw3]at hcl
      have hend:∀(e:Ending) (w':World),(∃zs rs',e=.returned (DX zs)/\Low ⟨σ.w,fun r=>r∈rl++rs⟩ w'/\(∀r∈rs',Base.new ⟨σ.w,fun r=>r∈rl++rs⟩ r/\r<w'.heap.size)/\(rl++rs').Nodup /\
        Ct w' (fun q=>(σ3.S q∨(Base.new ⟨σ.w,fun r=>r∈rl++rs⟩ q/\q<w'.heap.size))/\q∉rl++rs') L.outs (L.F (xl,v)).2 zs rs' /\
        Ki w' (fun q=>(σ3.S q∨(Base.new ⟨σ.w,fun r=>r∈rl++rs⟩ q/\q<w'.heap.size))/\q∉rl++rs') L.lend (L.F (xl,v)).1 y0 rl)->∃v,e=.returned v/\K (a.put o.dst v) w':=fun e w' he=>by
       obtain⟨zs,rs',rfl,hb,hr',hn',hz',hbk⟩:=he
       rw[←hw3]at hb hr' hz' hbk
       have hr'':∀r∈rl++rs',Base.new ⟨σ3.w,fun r=>r∈rl++rs⟩ r/\r<w'.heap.size:=fun r h=>by
        rcases cz.1 h with h|h
        ·exact⟨.inr (cz.2 (.inl h)),ah (d8 r h).2.1 hb.size⟩
        ·exact hr' r h
       obtain⟨k1,k2,k3⟩:=aFo d4 hall hb hr''
       obtain⟨n1,n2,n3⟩:=jt.1 hn'
       obtain⟨σ4,g1,g2,g3,g4,g5,g6⟩:=aL1 k1 (d5.trans k2) d9 (by show Ac σ3.mem b=.gone;exact d10) (by show SZ b σ3.mem=true;rw[d1];exact hfree) hbk (fun r h=>k3 r (cz.2 (.inl h)))
       have ev':CB σ4.mem L.outs (L.F (xl,v)).2=some (vs,m4):=by
        rw[g1]
        show CB (SI σ3.mem b L.lend (L.F (xl,v)).1) L.outs _=_
        rw[d1];exact ev
       have hz4:Ct σ4.w σ4.S L.outs (L.F (xl,v)).2 zs rs':=by rw[g2,g3];exact hz'
       obtain⟨σ5,c1,c2,c3,c4,c5,c6⟩:=ZJ g4 hz4 n2 (fun r h=>by
        obtain⟨q1,q2,q3,q4⟩:=k3 r (cz.2 (.inr h))
        refine⟨q1,by rw[g2];exact q2,by rw[g3];exact q3,fun b' hb'=>?_⟩
        rcases g6 b' r hb' with g|g
        ·exact q4 b' g
        ·exact n3 r g r h rfl) ev'
       have:=hK (DX zs) σ5 c4 ((hg2.trans g5).trans c5).moves c1 (nU c6)
       rw[c2,g2]at this
       exact⟨_,rfl,this⟩
      rcases hcl with⟨hcall,hcl⟩|⟨v',hv,hpost⟩
      ·unfold Oper.wp
       rw[hexec,i9 hcall,Oper.upon_enter]
       refine hcl.mono fun e w' he=>?_
       obtain⟨v,rfl,hk⟩:=hend e w' he
       exact hk
      ·obtain⟨v',hv',hk⟩:=hend _ _ hpost
       cases hv'
       unfold Oper.wp
       rw[hexec,hv]
       exact hk
     ·cases h
    ·cases h
   ·cases h
 |nil=>cases h
theorem aPK(ho:Ok base S0 σ)(hr:RelT σ s a)(hx:Bj a ctx){T:TypeId}{y:Operand}{lo hi mx:Option Operand}{b:Nat}(hop:o.op=.slice T y lo hi mx)(hns:Nb C s ctx T y lo hi mx=none)(ht:RW C s ctx y lo mx=some b)(h:Ax C s ctx o=some (.ok true x mem')):BE C base S0 id σ a o x mem':=by
 have hlo:lo=none/\mx=none/\AZ s ctx y=some (.own b):=by
  unfold RW at ht;cases lo with
  |some _=>simp at ht
  |none=>
   cases mx with
   |some _=>simp at ht
   |none=>
    have ht:=(AI ht).2;split at ht
    ·rename_i b' e;split at ht<;>first|(cases ht;done)|(cases ht;exact⟨rfl,rfl,e⟩)
    ·cases ht
 obtain⟨rfl,rfl,ey⟩:=hlo;unfold Ax at h;rw[hop]at h;simp only[hns,ht]at h;split at h
 ·rename_i e hT;split at h
  ·rename_i τ eτ;split at h
   ·rename_i xs exs;split at h
    ·rename_i hh eh;simp only[af,Res.ok.injEq,ai,decide_eq_true_eq]at h;obtain⟨⟨g1,g2⟩,rfl,rfl⟩:=h;rw[←hr.mem]at exs;have hb:Ac σ.mem b=.arr τ xs∨Ac σ.mem b=.acc τ xs:=by
      unfold aHw at exs;split at exs
      ·rename_i eb;obtain⟨hττ,hxs⟩:=Ih exs;subst hττ;simp only at hxs;subst hxs;exact .inl eb
      ·rename_i eb;obtain⟨hττ,hxs⟩:=Ih exs;subst hττ;simp only at hxs;subst hxs;exact .inr eb
      ·cases exs
     obtain⟨σ1,rs,a1,a2,a3,a4,a5,a6,⟨k,h1,h2,h3⟩,a8,a9,a10⟩:=VE ho hb (Bs hr hx ey);have hA:∃A,a.eval y=.slice A xs.length k/\(∀r,A=some r->r.add 0=r):=by
      rcases h3 with⟨h3,_⟩|⟨r,_,_,h3,_⟩
      ·exact⟨none,h3,fun r h=>by cases h⟩
      ·exact⟨_,h3,fun r h=>by simp[Addr.add]⟩
     obtain⟨A,hy,hadd⟩:=hA;have hrun:=wU (C:=C) (lo:=none) hr hx hT eτ hy h1 (l:=0) rfl eh hop (jy _) g1 g2 σ.w;have hv:(Value.slice (if k=(0:Int).toNat then A else A.map (·.add ((0:Int).toNat*τ.width))) (hh.toNat-(0:Int).toNat) (k-(0:Int).toNat))=.slice A (xs.take hh.toNat).length k:=by
      have e1:(xs.take hh.toNat).length=hh.toNat:=by simp;omega
      have e2:(if k=(0:Int).toNat then A else A.map (·.add ((0:Int).toNat*τ.width)))=A:=by
       split
       ·rfl
       ·cases A with
        |none=>rfl
        |some r=>simp only[Int.toNat_zero,Nat.zero_mul,js,hadd r rfl]
      rw[e1,e2];simp
     rw[hv]at hrun;have hown:Ga σ1.w σ1.S τ (xs.take hh.toNat) (.slice A (xs.take hh.toNat).length k) rs:=by
      rw[a2,a4];refine⟨k,by simp;omega,h2,?_⟩;rcases h3 with⟨e1,e2,e3⟩|⟨r,vs,T',e1,e2,e3,e4,e5⟩
      ·rw[hy]at e1;cases e1;exact .inl ⟨rfl,e2,e3⟩
      ·rw[hy]at e1;cases e1;exact .inr ⟨r,vs,T',rfl,e2,e3,e4,fun i x hi=>e5 i x (by
        rw[List.getElem?_take]at hi;split at hi
        ·exact hi
        ·cases hi)⟩
     obtain⟨σ2,b1,b2,b3,b4,b5,b6,_⟩:=aE6 a5 hown (fun r hr'=>by
      obtain⟨⟨b',hb'⟩,hn⟩:=a9 r hr';have:=ho.own b' r hb';exact⟨this.1,by rw[a2];exact this.2.1,by rw[a4];exact this.2.2,hn⟩)
     refine AX (σ':=σ2) (v:=.slice A (xs.take hh.toNat).length k) ?_ b4 (a6.trans b5).moves (by rw[b1,a1,hr.mem]) ?_
     ·rw[b2,a2];exact hrun
     ·rw[a1]at b6;have e:(σ.mem.set b .gone).length=s.mem.length:=by rw[hr.mem];simp
      rw[e]at b6;exact b6
    ·cases h
   ·cases h
  ·cases h
 ·cases h
end Vx
namespace Vx
open Go Go.RowKit
def VJ:List Nat->List Nat->Bool
 | [],[]=>true
 |a::r,b::s=>Nat.beq a b&&VJ r s
 |_,_=>false
def Zt(o:Option (Nat×List Nat))(f:Nat)(cs:List Nat):Bool:=
 match o with
 |some p=>Nat.beq p.1 f&&VJ p.2 cs
 |none=>false
theorem aGg:∀{a b:List Nat},VJ a b=true->a=b
 | [],[],_=>rfl
 | [],_::_,h=>by simp[VJ]at h
 |_::_,[],h=>by simp[VJ]at h
 |x::a,y::b,h=>by
  simp only[VJ,ai]at h
  rw[ak h.1,aGg h.2]
theorem aM7{o:Option (Nat×List Nat)}{f:Nat}{cs:List Nat}(h:Zt o f cs=true):o=some (f,cs):=by
 unfold Zt at h;split at h
 ·rename_i p;simp only[ai]at h;obtain⟨a,b⟩:=p;rw[show a=f from ak h.1,show b=cs from aGg h.2]
 ·cases h
def gE(I O:Ab)(v:Option (Nat×List Nat))(x:DenS I):List (Nat×List Nat×Sum)->Bool
 | []=>false
 |(f,cs,S)::r=>bif Zt v f cs then(if h:S.ins=I/\S.outs=O then S.pre (h.1▸x)else false)else gE I O v x r
def gF(I O:Ab)(v:Option (Nat×List Nat))(x:DenS I):List (Nat×List Nat×Sum)->DenS O
 | []=>DenS.dflt0 O
 |(f,cs,S)::r=>bif Zt v f cs then(if h:S.ins=I/\S.outs=O then h.2▸S.F (h.1▸x)else DenS.dflt0 O)else gF I O v x r
def J0(I O:Ab)(l:List (Nat×List Nat×Sum)):SumF:=⟨I,O,fun v x=>gE I O v x l,fun v x=>gF I O v x l⟩
def xQ(P:Program)(G:List (Nat×Sigma fun τ=>List (Aa τ))):List (Nat×List Nat×Sum)->Prop
 | []=>True
 |(f,cs,S)::r=>FnSound P G f cs S/\xQ P G r
theorem UQ{P:Program}{G:List (Nat×Sigma fun τ=>List (Aa τ))}{I O:Ab}:∀{l:List (Nat×List Nat×Sum)},xQ P G l->Kk P G (J0 I O l)
 | [],_,v,x,h=>by simp[J0,gE]at h
 |(f,cs,S)::r,ha,v,x,h=>by
  simp only[J0,gE]at h
  cases hb:Zt v f cs with
  |true=>
   rw[hb,cond_true]at h
   split at h
   ·rename_i hh
    exact⟨f,cs,S,aM7 hb,ha.1,hh.1,hh.2,h,by simp only[J0,gF];rw[hb,cond_true,dif_pos hh]⟩
   ·cases h
  |false=>
   rw[hb,cond_false]at h
   obtain⟨f',cs',S',k1,k2,k3,k4,k5,k6⟩:=UQ (I:=I) (O:=O) ha.2 v x h
   exact⟨f',cs',S',k1,k2,k3,k4,k5,by simp only[J0,gF];rw[hb,cond_false];exact k6⟩
variable {C:Cfg}{base:Base}{S0:Nat->Prop}{σ:Sit}{s:St}{a:Act}{ctx:List (Nat×Bool)}{o:Oper}{x:TV}{mem':Ae}
theorem sM(ho:Ok base S0 σ)(hr:RelT σ s a)(hG:GlobsOk C.globs σ.w σ.S){args:List SV}{ys:List Value}(hargs:All2 (A8 σ) args ys){S:Sum}(h:FF s.mem S args=some (true,x,mem'))
  (hcalls:∀z,S.pre z=true->∀(St:Nat->Prop) (rs:List Nat),(∀q,σ.S q->St q)->(∀q,St q->q<σ.w.heap.size)->GlobsOk C.globs σ.w St->Ct σ.w St S.ins z ys rs->rs.Nodup->(∀r∈rs,¬St r/\r<σ.w.heap.size) ->
   ∃f as,(execOp a.eval o).run C.P σ.w=(callFunc f as).run C.P σ.w/\WF C.P f as σ.w fun e w'=>∃zs rs',e=.returned (DX zs)/\Low ⟨σ.w,fun r=>r∈rs⟩ w'/\(∀r∈rs',Base.new ⟨σ.w,fun r=>r∈rs⟩ r/\r<w'.heap.size)/\rs'.Nodup /\
    Ct w' (fun q=>(St q∨(Base.new ⟨σ.w,fun r=>r∈rs⟩ q/\q<w'.heap.size))/\q∉rs') S.outs (S.F z) zs rs'):BE C base S0 id σ a o x mem':=by
 unfold FF at h
 cases hf:Be s.mem S.ins args with
 |mk args' m1=>
  rw[hf]at h
  simp only at h
  rw[←hr.mem]at hf
  obtain⟨σ1,a1,a2,a3,a4,a5,a6⟩:=S4 ho hf
  split at h
  ·rename_i zm ez
   obtain⟨z,m2⟩:=zm
   simp only at h
   split at h
   ·rename_i vs m3 ev
    simp only[af,dh]at h
    obtain⟨hpre,rfl,rfl⟩:=h
    rw[←a1]at ez
    obtain⟨σ2,rs,b1,b2,b3,b4,b5,b6,hsr,b8,b9,b10⟩:=aV a4 (a6 _ hargs) ez
    intro K Q hK
    have hloose:∀r∈rs,E7 base σ2 r:=fun r hr'=>by
     obtain⟨⟨b,hb⟩,hn⟩:=b9 r hr'
     have:=a4.own b r hb
     exact⟨this.1,by rw[b2];exact this.2.1,by rw[b4];exact this.2.2,hn⟩
    have hw2:σ2.w=σ.w:=b2.trans a2
    rw[←b2,←b4]at hsr
    obtain⟨f,as,hexec,hcl⟩:=hcalls z hpre σ2.S rs (a5.trans b6).stab (fun q hq=>by rw[←hw2];exact(b5.stab q hq).1) (GlobsOk.mono (a5.trans b6).stab (fun _ _=>rfl) hG) (by rw[←hw2];exact hsr) b8 (fun r hr'=>by rw[←hw2];exact⟨(hloose r hr').2.2.1,(hloose r hr').2.1⟩)
    have hend:∀(e:Ending) (w':World),(∃zs rs',e=.returned (DX zs)/\Low ⟨σ.w,fun r=>r∈rs⟩ w'/\(∀r∈rs',Base.new ⟨σ.w,fun r=>r∈rs⟩ r/\r<w'.heap.size)/\rs'.Nodup /\
      Ct w' (fun q=>(σ2.S q∨(Base.new ⟨σ.w,fun r=>r∈rs⟩ q/\q<w'.heap.size))/\q∉rs') S.outs (S.F z) zs rs')->∃v,e=.returned v/\K (a.put o.dst v) w':=fun e w' he=>by
     obtain⟨zs,rs',rfl,hb,hr',hn',hz⟩:=he
     rw[←hw2]at hb hr' hz
     obtain⟨k1,k2,k3⟩:=aFo b5 hloose hb hr'
     have ev':CB (σ2.later rs rs' w').mem S.outs (S.F z)=some (vs,m3):=by
      show CB σ2.mem S.outs (S.F z)=_
      rw[b1];exact ev
     obtain⟨σ3,c1,c2,c3,c4,c5,c6⟩:=ZJ k1 hz hn' k3 ev'
     have:=hK (DX zs) σ3 c4 (((a5.trans b6).trans k2).trans c5).moves c1 (nU c6)
     rw[c2]at this
     exact⟨_,rfl,this⟩
    rcases hcl with⟨hcall,hcl⟩|⟨v,hv,hpost⟩
    ·unfold Oper.wp
     rw[hexec,i9 hcall,Oper.upon_enter]
     refine hcl.mono fun e w' he=>?_
     obtain⟨v,rfl,hk⟩:=hend e w' he
     exact hk
    ·obtain⟨v',hv',hk⟩:=hend _ _ hpost
     cases hv'
     unfold Oper.wp
     rw[hexec,hv]
     exact hk
   ·cases h
  ·cases h
theorem aPJ(hC:SumsOk C)(ho:Ok base S0 σ)(hr:RelT σ s a)(hx:Bj a ctx)(hG:GlobsOk C.globs σ.w σ.S){c:Call}{fo:Operand}(hop:o.op=.call c)(hc:c.callee=.value fo)(hnv:∀v,AZ s ctx fo≠some (.fnv v))(h:Ax C s ctx o=some (.ok true x mem')):BE C base S0 id σ a o x mem':=by
 unfold Ax at h;rw[hop]at h;simp only[hc]at h;split at h
 ·rename_i f caps args ef eargs;split at h
  ·rename_i L eL;have hcaps:caps=[]/\C.lsum f s.mem args=some L:=by
    split at eL
    ·exact⟨rfl,eL⟩
    ·cases eL
   obtain⟨rfl,hL⟩:=hcaps;exact aPx hC ho hr hx hG hop hc ef eargs hL h
  split at h
  ·rename_i S eS;have hcaps:caps=[]/\C.sum f s.mem args=some S:=by
    cases caps with
    |nil=>exact⟨rfl,eS⟩
    |cons _ _=>cases eS
   obtain⟨rfl,hS⟩:=hcaps;split at h
   ·rename_i g x' m' ec;simp only[af,Res.ok.injEq]at h;obtain⟨rfl,rfl,rfl⟩:=h;have hfv:a.eval fo=.func (.func f) #[] #[]:=by
     obtain⟨_,_,h1⟩:=Bs hr hx ef;rcases h1 with⟨p,hp,_⟩|⟨rs,h1,h2⟩
     ·simp at hp
     ·simpa using h2
    refine sM ho hr hG (SR hr hx eargs) ec fun z hz St rs _ hSl hGl hsr hnd hrs=>⟨f,(c.args.toList.map a.eval).toArray,?_,(hC.sums f _ _ S hS).calls z hz σ.w St _ rs hSl hGl hsr hnd hrs⟩
    simp only[execOp,hop,resolve,hc,hfv];simp only[Deferred.ofValue,cy,ee,bl,invoke];congr 2;apply gb.1;simp
   ·cases h
  ·have h2:=(AI h).2;cases h2
 ·rename_i ef _;exact absurd ef (hnv _)
 ·cases h
theorem aD9{mem:Ae}{T:TypeId}{args:List SV}{S:SumF}:∀{l:List (TypeId×SumF)},Rx mem T args l=some S->(T,S)∈l
 | [],h=>by simp[Rx]at h
 |(T',S')::r,h=>by
  unfold Rx at h
  cases hb:Nat.beq T' T&&Rz mem S'.ins args with
  |true=>
   rw[hb]at h
   cases h
   simp only[ai]at hb
   rw[ak hb.1]
   simp
  |false=>
   rw[hb]at h
   exact ig _ (aD9 h)
theorem aEe{mem:Ae}{m:String}{args:List SV}{S:SumM}:∀{l:List (String×SumM)},Ry mem m args l=some S->(m,S)∈l
 | [],h=>by simp[Ry]at h
 |(m',S')::r,h=>by
  unfold Ry at h
  cases hb:m'==m&&Rz mem S'.ins args with
  |true=>
   rw[hb]at h
   cases h
   simp only[ai,beq_iff_eq]at hb
   rw[hb.1]
   simp
  |false=>
   rw[hb]at h
   exact ig _ (aEe h)
theorem aPs(hC:SumsOk C)(ho:Ok base S0 σ)(hr:RelT σ s a)(hx:Bj a ctx)(hG:GlobsOk C.globs σ.w σ.S){c:Call}{fo:Operand}(hop:o.op=.call c)(hc:c.callee=.value fo){v:Option (Nat×List Nat)}(ef:AZ s ctx fo=some (.fnv v))(h:Ax C s ctx o=some (.ok true x mem')):BE C base S0 id σ a o x mem':=by
 unfold Ax at h;rw[hop]at h;cases eargs:Et s ctx c.args.toList with
 |none=>simp only[hc,ef,eargs]at h;cases h
 |some args=>
  simp only[hc,ef,eargs]at h;split at h
  ·rename_i S eS;split at h
   ·rename_i g x' m' ec;simp only[af,Res.ok.injEq]at h;obtain⟨rfl,rfl,rfl⟩:=h;refine sM ho hr hG (SR hr hx eargs) ec fun z hz St rs hS hSl hGl hsr hnd hrs=>?_;obtain⟨f,cs,S1,rfl,hfn,h1,h2,k3,k4⟩:=hC.fns _ _ (aD9 eS) v z hz;obtain⟨ps,hy,hp1,hp2⟩:=Bs hr hx ef;have hy:a.eval fo=.func (.func f) #[] ps.toArray:=by simpa using hy
    refine⟨f,(c.args.toList.map a.eval++ps).toArray,?_,?_⟩
    ·simp only[execOp,hop,resolve,hc,hy];simp only[Deferred.ofValue,cy,ee,bl,invoke];congr 2;apply gb.1;simp
    ·obtain⟨ins,outs,pre,F⟩:=S1;obtain⟨ins',outs',pre',F'⟩:=S;simp only at h1 h2;subst h1;subst h2;have:=hfn.calls z k3 σ.w St _ rs ps hSl hGl hsr hnd hrs (TB.mono hS (fun _ _=>rfl) ⟨hp1,hp2⟩);have k4:F' (some (f,cs)) z=F z:=k4;simp only[SumF.at];rw[k4];exact this
   ·cases h
  ·cases h
theorem aT6{P:Program}{m:String}{T:TypeId}{f:FuncId}(h:u5 P m T f=true)(v:Value)(args:Array Value)(w:World):(callMethod (.iface T v) m args).run P w=(callFunc f (#[v]++args)).run P w:=by
 unfold u5 at h;split at h
 ·rename_i i fs e1 e2;split at h
  ·rename_i row e3;split at h
   ·rename_i g e4 e5;have hg:g=f:=ak h;subst hg;have hm:(method (P.types.size+Made.depth) T v m).run P w=.ok (g,v) w:=by
     obtain⟨k,hk⟩:∃k,P.types.size+Made.depth=k+1:=⟨P.types.size+Made.depth-1,by unfold Made.depth;omega⟩
     rw[hk];have hti:(typeInfo T).run P w=.ok i w:=by simp[typeInfo,e1]
     simp only[method,cy,hti,bl,e3,e4,e5,follow,ee,receiverAt,CG e2,Place.get]
    unfold callMethod;simp only[cy];have hp:(program:Sem Program).run P w=.ok P w:=rfl;rw[hp];simp only[bl,cy,hm]
   ·cases h
  ·cases h
 ·cases h
theorem aPv(hC:SumsOk C)(ho:Ok base S0 σ)(hr:RelT σ s a)(hx:Bj a ctx)(hG:GlobsOk C.globs σ.w σ.S){c:Call}{q:Operand}{m:String}(hop:o.op=.call c)(hc:c.callee=.invoke q m)(h:Ax C s ctx o=some (.ok true x mem')):BE C base S0 id σ a o x mem':=by
 unfold Ax at h;rw[hop]at h;simp only[hc]at h;split at h
 ·rename_i d args ef eargs;split at h
  ·rename_i S eS;split at h
   ·rename_i g x' m' ec;simp only[af,Res.ok.injEq]at h;obtain⟨rfl,rfl,rfl⟩:=h;refine sM ho hr hG (SR hr hx eargs) ec fun z hz St rs hS hSl hGl hsr hnd hrs=>?_;obtain⟨T,ns,f,S1,rfl,hm,hms,h1,h2,k4,k5⟩:=hC.meths _ _ (aEe eS) d z hz;obtain⟨hy,hbnd⟩:=Bs hr hx ef;have hy:a.eval q=.iface T (.agg (ns.map (mn .i64)).toArray):=by simpa using hy
    refine⟨f,(.agg (ns.map (mn .i64)).toArray::c.args.toList.map a.eval).toArray,?_,?_⟩
    ·simp only[execOp,hop,resolve,hc,hy];simp only[cy,ee,bl,invoke];have e:(#[Value.iface T (.agg (ns.map (mn .i64)).toArray)]++Array.map a.eval c.args)[0]? = some (.iface T (.agg (ns.map (mn .i64)).toArray)):=by rw[Array.getElem?_append_left (by simp)];rfl
     simp only[e];rw[aT6 hm];congr 2;apply gb.1;simp only[Array.toList_append,Array.toList_extract,Array.toList_map,List.extract];simp[cv]
    ·obtain⟨ins1,outs1,pre1,F1⟩:=S1;obtain⟨ins',outs',pre',F'⟩:=S;simp only at h1 h2;subst h1;subst h2;have:=(hms hbnd).calls z k4 σ.w St (c.args.toList.map a.eval) rs hSl hGl hsr hnd hrs;have k5:F' (some (T,ns)) z=F1 z:=k5;simp only[SumM.at];rw[k5];exact this
   ·cases h
  ·cases h
 ·cases h
theorem aFj{σ:Sit}:∀{cs:List SC} {ns:List Int} {ys:List Value},ZQ cs=some ns->All2 (Aw σ) cs ys->ys=ns.map (mn .i64)/\∀n∈ns,IntKind.i64.min<=n/\n<=IntKind.i64.max
 | [],ns,_,h,.nil=>by simp[ZQ]at h;subst h;simp
 |c::cs,ns,_,h,.cons hc ht=>by
  unfold ZQ at h
  split at h
  ·rename_i e;cases e
  ·rename_i n r e
   cases e
   split at h
   ·rename_i l e2
    cases h
    obtain⟨k1,k2⟩:=aFj e2 ht
    obtain⟨rfl,hb⟩:=hc
    refine⟨by rw[k1];rfl,fun z hz=>?_⟩
    rcases cx.1 hz with rfl|hz
    ·exact hb
    ·exact k2 z hz
   ·cases h
  ·cases h
theorem aPA(ho:Ok base S0 σ)(hr:RelT σ s a)(hx:Bj a ctx){T:TypeId}{y:Operand}(hop:o.op=.makeInterface T y)(h:Ax C s ctx o=some (.ok true x mem')):BE C base S0 id σ a o x mem':=by
 unfold Ax at h;rw[hop]at h;simp only at h;split at h
 ·rename_i cs fs ey hT;split at h
  ·rename_i ns en;simp only[af,Res.ok.injEq,true_and]at h;obtain⟨rfl,rfl⟩:=h;obtain⟨ys,e,ha⟩:=Hd hr hx ey;obtain⟨k1,k2⟩:=aFj en ha;subst k1;refine AX (σ':=σ) (v:=.iface T (.agg (ns.map (mn .i64)).toArray)) ?_ ho (Goes.refl σ).moves hr.mem ⟨rfl,k2⟩;simp only[execOp,hop,e];refine Cj ?_;unfold Instr.makeInterface;simp only[cy,CG hT,bl,ee]
  ·cases h
 ·cases h
theorem VS(hC:SumsOk C)(ho:Ok base S0 σ)(hr:RelT σ s a)(hx:Bj a ctx)(hG:GlobsOk C.globs σ.w σ.S)(hna:∀c,o.op=.call c->c.callee≠.builtin .append)(h:Ax C s ctx o=some (.ok true x mem')):BE C base S0 id σ a o x mem':=by
 cases hop:o.op with
 |move y=>exact aGu ho hr hx (.inl hop) h
 |assign y=>exact aGu ho hr hx (.inr hop) h
 |pick c A B=>exact aPF ho hr hx hop h
 |alloc T=>exact aPg ho hr hop h
 |box T y=>exact aPj ho hr hx hop h
 |build T ps=>exact aPk ho hr hx hop h
 |buildSlice T n ps=>exact aPl ho hr hx hop h
 |load T y=>exact aPy ho hr hx hop h
 |store T y z=>exact aPH ho hr hx hop h
 |nilCheck y=>exact aPE ho hr hx hop h
 |binOp op T y z T'=>exact aPi ho hr hx hop h
 |unOp op T y=>exact aPL ho hr hx hop h
 |convert T T' y=>exact aPm ho hr hx hop h
 |makeSlice T l c=>exact aPB ho hr hx hop h
 |slice T y lo hi mx=>
  cases hs:Nb C s ctx T y lo hi mx with
  |some p=>exact aPI ho hr hx hop (g:=p.1) (c:=p.2) hs h
  |none=>
   cases ht:RW C s ctx y lo mx with
   |none=>exact aPG ho hr hx hop hs ht h
   |some b=>exact aPK ho hr hx hop hs ht h
 |fieldAddr T y i=>exact aPq ho hr hx hop h
 |field T y i=>exact aPp ho hr hx hop h
 |indexAddr T y z=>exact aPu ho hr hx (aOr hG) hop h
 |index T y z=>exact aPt ho hr hx hop h
 |extract y i=>exact aPo ho hr hx hop h
 |makeFunc fn first captured=>exact aPz ho hr hx hop h
 |makeInterface T y=>exact aPA ho hr hx hop h
 |call c=>
  cases hc:c.callee with
  |value fo=>
   cases ef:AZ s ctx fo with
   |none=>unfold Ax at h;rw[hop]at h;simp only[hc,ef]at h;cases h
   |some c0=>
    by_cases hv:∃v,c0=.fnv v
    ·obtain⟨v,rfl⟩:=hv;exact aPs hC ho hr hx hG hop hc ef h
    ·exact aPJ hC ho hr hx hG hop hc (fun v e=>hv ⟨v,kl (ef.symm.trans e)⟩) h
  |invoke r m=>exact aPv hC ho hr hx hG hop hc h
  |builtin b=>
   cases b with
   |len=>exact aPw ho hr hx hop hc h
   |min=>exact aPD ho hr hx hop hc h
   |max=>exact aPC ho hr hx hop hc h
   |append=>exact absurd hc (hna c hop)
   |copy=>exact aPn ho hr hx hop hc h
   |_=>unfold Ax at h;rw[hop]at h;simp only[hc]at h;cases h
 |_=>unfold Ax at h;rw[hop]at h;simp only at h;cases h
end Vx
namespace Vx
open Go Go.RowKit
structure Adv (σ σ':Sit):Prop where
 stab:∀r,σ.S r->σ'.S r
 heap:∀r,σ.S r->σ'.w.heap[r]? = σ.w.heap[r]?
 rep:∀c y,Aw σ c y->Aw σ' (Ij σ.mem c) y
 len:σ.mem.length<=σ'.mem.length
 noacc:∀b,b<σ.mem.length->G6 (Ac σ'.mem b)->G6 (Ac σ.mem b)
theorem SO{mem:Ae}{b:Nat}:Ij mem (.own b)=.undef/\G6 (Ac mem b)∨Ij mem (.own b)=.own b/\¬G6 (Ac mem b):=by
 simp only[Ij];cases Ac mem b with
 |acc _ _=>exact .inl ⟨rfl,trivial⟩
 |_=>exact .inr ⟨rfl,fun h=>h⟩
theorem aDZ{mem:Ae}{c:SC}(h:∀b,c≠.own b):Ij mem c=c:=by
 cases c with
 |own b=>exact absurd rfl (h b)
 |_=>rfl
theorem Adv.refl(σ:Sit):Adv σ σ:=by
 refine⟨fun _ h=>h,fun _ _=>rfl,fun c y h=>?_,cg _,fun _ _ h=>h⟩;cases c with
 |own b=>
  rcases SO (mem:=σ.mem) (b:=b)with⟨e,_⟩|⟨e,_⟩
  ·rw[e];exact h.2.1
  ·rw[e];exact h
 |_=>exact h
theorem Adv.trans{σ σ' σ'':Sit}(h:Adv σ σ')(h':Adv σ' σ''):Adv σ σ'':=by
 refine⟨fun r hr=>h'.stab r (h.stab r hr),fun r hr=>(h'.heap r (h.stab r hr)).trans (h.heap r hr),fun c y hc=>?_,fk h.len h'.len,fun b hb ha=>h.noacc b hb (h'.noacc b (ah hb h.len) ha)⟩;have h1:=h.rep c y hc;have h2:=h'.rep _ y h1;by_cases hown:∃b,c=.own b
 ·obtain⟨b,rfl⟩:=hown;rcases SO (mem:=σ.mem) (b:=b)with⟨e,_⟩|⟨e,hn⟩
  ·rw[e];exact hc.2.1
  ·rw[e]at h2⊢;rcases SO (mem:=σ'.mem) (b:=b)with⟨e',ha⟩|⟨e',_⟩
   ·exact absurd (h.noacc b hc.1 ha) hn
   ·rw[e']at h2;exact h2
 ·have hne:∀b,c≠.own b:=fun b e=>hown ⟨b,e⟩;rw[aDZ hne]at h2⊢;rw[aDZ hne]at h2;exact h2
theorem Moves.adv_id{σ σ':Sit}(h:Moves id σ σ'):Adv σ σ':=by
 refine⟨h.stab,h.heap,fun c y hc=>?_,h.len,h.noacc⟩;have h1:=h.rep c y hc;cases c with
 |own b=>
  rcases SO (mem:=σ.mem) (b:=b)with⟨e,_⟩|⟨e,_⟩
  ·rw[e];exact hc.2.1
  ·rw[e];exact h1
 |_=>exact h1
theorem Moves.adv_own{σ σ':Sit}{b:Nat}(h:Moves (Ef b) σ σ')(hb:G6 (Ac σ'.mem b)):Adv σ σ':=by
 refine⟨h.stab,h.heap,fun c y hc=>?_,h.len,h.noacc⟩;have h1:=h.rep c y hc;cases c with
 |own b' =>
  rcases SO (mem:=σ.mem) (b:=b')with⟨e,_⟩|⟨e,hn⟩
  ·rw[e];exact hc.2.1
  ·rw[e];simp only[Ef]at h1;cases hbb:Nat.beq b b' with
   |true=>
    have:b=b':=ak hbb;subst this;exact absurd (h.noacc b hc.1 hb) hn
   |false=>rw[hbb]at h1;exact h1
 |_=>exact h1
theorem Goes.adv{σ σ':Sit}(h:Goes σ σ'):Adv σ σ':=h.moves.adv_id
theorem A2.drop{σ σ':Sit}{f:SC->SC}(hm:∀c y,Aw σ c y->Aw σ' (f c) y){fT:TV->TV}(hf:∀x,fT x=match x with
  |.un=>.un
  |.val (.one c)=>.val (.one (f c))
  |.val (.agg cs)=>.val (.agg (cs.map f))
  |.tup l=>.tup (l.map fun v=>match v with|.one c=>.one (f c)|.agg cs=>.agg (cs.map f))) {x:TV} {y:Value} (h:A2 σ x y):A2 σ' (fT x) y:=by
 rw[hf]
 have hv:∀v y,A8 σ v y->A8 σ' (match v with|.one c=>.one (f c)|.agg cs=>.agg (cs.map f)) y:=fun v y hv=>by
  cases v with
  |one c=>exact hm c y hv
  |agg cs=>obtain⟨ys,e,ha⟩:=hv;exact⟨ys,e,ha.mapL f hm⟩
 cases x with
 |un=>trivial
 |val v=>cases v with
  |one c=>exact hv (.one c) y h
  |agg cs=>exact hv (.agg cs) y h
 |tup l=>
  obtain⟨h1,ys,e,ha⟩:=h
  exact⟨by simpa using h1,ys,e,ha.mapL _ hv⟩
theorem A2.keep{σ σ':Sit}(hm:∀c y,Aw σ c y->Aw σ' (id c) y){x:TV}{y:Value}(h:A2 σ x y):A2 σ' x y:=by
 have hv:∀v y,A8 σ v y->A8 σ' v y:=fun v y hv=>by
  cases v with
  |one c=>exact hm c y hv
  |agg cs=>obtain⟨ys,e,ha⟩:=hv;exact⟨ys,e,ha.mono hm⟩
 cases x with
 |un=>trivial
 |val v=>exact hv v y h
 |tup l=>
  obtain⟨h1,ys,e,ha⟩:=h;exact⟨h1,ys,e,ha.mono hv⟩
theorem aMQ(b:Nat)(x:TV):SP b x=match x with
  |.un=>.un
  |.val (.one c)=>.val (.one (Ef b c))
  |.val (.agg cs)=>.val (.agg (cs.map (Ef b)))
  |.tup l=>.tup (l.map fun v=>match v with|.one c=>.one (Ef b c)|.agg cs=>.agg (cs.map (Ef b))):=by
 cases x with
 |un=>rfl
 |val v=>cases v<;>rfl
 |tup l=>simp only[SP];congr 1
theorem aDX(m:Ae)(x:TV):SN m x=match x with
  |.un=>.un
  |.val (.one c)=>.val (.one (Ij m c))
  |.val (.agg cs)=>.val (.agg (cs.map (Ij m)))
  |.tup l=>.tup (l.map fun v=>match v with|.one c=>.one (Ij m c)|.agg cs=>.agg (cs.map (Ij m))):=by
 cases x with
 |un=>rfl
 |val v=>cases v<;>rfl
 |tup l=>simp only[SN];congr 1
theorem uD{g:TV->TV}(hg:g .un=.un):∀(tm:List (Nat×TV)) (t:Nat),AU (tm.map fun p=>(p.1,g p.2)) t=g (AU tm t)
 | [],t=>by simp[AU,hg]
 |(n,x)::r,t=>by
  simp only[gq,AU]
  cases Nat.beq n t with
  |true=>rfl
  |false=>exact uD hg r t
theorem MP{a:Act}{d:Nat}{v:Value}(hd:d<a.tmps.size)(t:Nat):(a.put (some d) v).tmps.getD t undef=if t=d then v else a.tmps.getD t undef:=by
 simp only[Act.put];rw[dt,dt];by_cases h:t=d
 ·subst h;rw[Array.getElem?_setIfInBounds_self_of_lt hd];simp
 ·rw[Array.getElem?_setIfInBounds_ne (fun e=>h e.symm),if_neg h]
theorem vE:∀{cs:List (Nat×Nat×Bool×TV)} {d:Nat},FO d cs=true->∀e g p x,(e,g,p,x)∈cs->e≠d/\g≠d
 | [],_,_,_,_,_,_,h=>by simp at h
 |(e',g',p',x')::r,d,h,e,g,p,x,hm=>by
  simp only[FO,ai,dm]at h
  rcases cx.1 hm with h' | h'
  ·cases h'
   refine⟨fun e=>?_,fun e=>?_⟩
   ·subst e;simp[dq]at h
   ·subst e;simp[dq]at h
  ·exact vE h.2 e g p x h'
variable {C:Cfg}{base:Base}{S0:Nat->Prop}{σ:Sit}{s s':St}{a:Act}{o:Oper}
theorem i5{σ':Sit}{fT:TV->TV}(hun:fT .un=.un)(hm:∀x y,A2 σ x y->A2 σ' (fT x) y)(hr:RelT σ s a){x:TV}{v:Value}(hv:A2 σ' x v){mem:Ae}(hmem:σ'.mem=mem)
  (h:RO {s with tm:=s.tm.map fun p=>(p.1,fT p.2),cs:=s.cs.map fun p=>(p.1,p.2.1,p.2.2.1,fT p.2.2.2)} o x mem=some s'):RelT σ' s' (a.put o.dst v):=by
 unfold RO at h;cases hd:o.dst with
 |none=>
  rw[hd]at h;simp only[af]at h;subst h;refine⟨hr.size,hr.defers,hmem,fun t=>?_,fun d g p y hmm=>?_⟩
  ·simp only[uD hun];exact hm _ _ (hr.tm t)
  ·obtain⟨q,hq,he⟩:=mw.1 hmm;cases he;have:=hr.cs _ _ _ _ hq;exact⟨fun h=>hm _ _ (this.1 h),this.2⟩
 |some d=>
  rw[hd]at h;simp only at h;cases hb:(FO d (s.cs.map fun p=>(p.1,p.2.1,p.2.2.1,fT p.2.2.2))&&Nat.blt d s.n)with
  |false=>rw[hb]at h;cases h
  |true=>
   rw[hb]at h;simp only[ai]at hb;simp only[cond_true,af]at h;subst h;have hdl:d<a.tmps.size:=by rw[hr.size];simpa using hb.2
   refine⟨by simp[Act.put,hr.size],hr.defers,hmem,fun t=>?_,fun e g p y hmm=>?_⟩
   ·rw[MP hdl];simp only[AU];by_cases h:t=d
    ·subst h;rw[if_pos rfl,dq];exact hv
    ·rw[if_neg h];have:Nat.beq d t=false:=by
      cases hq:Nat.beq d t with
      |false=>rfl
      |true=>exact absurd (ak hq).symm h
     rw[this,cond_false,uD hun];exact hm _ _ (hr.tm t)
   ·obtain⟨h1,h2⟩:=vE hb.1 e g p y hmm;rw[MP hdl,MP hdl,if_neg h1,if_neg h2];obtain⟨q,hq,he⟩:=mw.1 hmm;cases he;have:=hr.cs _ _ _ _ hq;exact⟨fun h=>hm _ _ (this.1 h),this.2⟩
theorem xK{ops:Array Oper}{gi:Nat}{p:Bool}{t:Nat}(hg:o.guard=some (gi,p))(ht:EZ ops.toList gi=some t):gg o (yielded ops a.tmps)=true↔a.tmps.getD t undef=.bool p:=by
 unfold gg;rw[hg];simp only[beq_iff_eq];unfold yielded;have hd:(ops[gi]?).bind (·.dst)=some t:=by
  unfold EZ at ht;split at ht
  ·rename_i o' e;have:ops[gi]? = some o':=by simpa using e
   rw[this];exact ht
  ·cases ht
 rw[hd];simp only[Option.bind_some];rw[dt];cases e:a.tmps[t]? with
 |none=>simp[undef]
 |some v=>cases v<;>simp
theorem sK(ho:Ok base S0 σ)(hm:σ.mem=s.mem){S:Sum}{args:List SV}{g:Bool}{x:TV}{mem:Ae}(h:FF s.mem S args=some (g,x,mem))(hst:Nat.beq mem.length s.mem.length=true):
  ∃σ1:Sit,σ1.mem=mem/\σ1.w=σ.w/\Ok base S0 σ1/\Goes σ σ1:=by
 unfold FF at h;cases hf:Be s.mem S.ins args with
 |mk args' m1=>
  rw[hf]at h;simp only at h;have hlen:=aNi hf;rw[←hm]at hf;obtain⟨σ1,a1,a2,a3,a4,a5,a6⟩:=S4 ho hf;split at h
  ·rename_i zm ez;obtain⟨z,m2⟩:=zm;simp only at h;split at h
   ·rename_i vs m3 ev;simp only[af,dh]at h;obtain⟨_,_,rfl⟩:=h;rw[←a1]at ez;obtain⟨σ2,b1,b2,b3,b4,b5⟩:=aIn a4 ez;have hst:=ak hst;have:=aE8 ev (by rw[hst,b5,a1,hlen]);exact⟨σ2,by rw[b1,this],b2.trans a2,b3,a5.trans b4⟩
   ·cases h
  ·cases h
theorem aOF{ctx:List (Nat×Bool)}(ho:Ok base S0 σ)(hm:σ.mem=s.mem){g:Bool}{x:TV}{mem:Ae}(hgd:o.guard≠none)(hl:MT o.op=true)(hst:Ez o.op s.mem mem=true)(h:Ax C s ctx o=some (.ok g x mem)):
  ∃σ1:Sit,σ1.mem=mem/\σ1.w=σ.w/\Ok base S0 σ1/\Goes σ σ1:=by
 have same:mem=s.mem->∃σ1:Sit,σ1.mem=mem/\σ1.w=σ.w/\Ok base S0 σ1/\Goes σ σ1:=fun e=>⟨σ,hm.trans e.symm,rfl,ho,Goes.refl σ⟩
 unfold Ax at h;cases hop:o.op with
 |alloc T=>rw[hop]at hl;cases hl
 |box T y=>rw[hop]at hl;cases hl
 |store T y z=>rw[hop]at hl;cases hl
 |makeSlice T l c=>rw[hop]at hl;cases hl
 |buildSlice T n ps=>
  rw[hop]at h;simp only at h;split at h
  ·split at h
   ·split at h
    ·rename_i cs ecs;cases hf:EY s.mem cs with
     |mk cs' m1=>
      rw[hf]at h;simp only at h;split at h
      ·rw[←hm]at hf;obtain⟨σ1,a1,a2,a3,a4,a5,a6⟩:=Zv ho hf;have:=Bn (AI h).2;exact⟨σ1,a1.trans this.symm,a2,a4,a5⟩
      ·cases h
    ·cases h
   ·cases h
  ·cases h
 |slice T y lo hi mx=>
  rw[hop]at h;simp only at h;cases hsb:Nb C s ctx T y lo hi mx with
  |some p=>rw[hsb]at h;exact same (Bn h)
  |none=>
  rw[hsb]at h;simp only at h;cases htr:RW C s ctx y lo mx with
  |some b=>
   exfalso;rw[htr]at h;simp only at h;(repeat' split at h)<;>first|(cases h;done)|skip
   have:=Bn h;unfold Ez at hst;rw[hop,this]at hst;have hst:=ak hst;simp at hst
  |none=>
  rw[htr]at h;simp only at h;split at h
  ·rename_i c hT ec;split at h
   ·cases hf:C8 s.mem c with
    |mk c' m1=>
     rw[hf]at h;simp only at h;rw[←hm]at hf;obtain⟨σ1,a1,a2,a3,a4,a5,a6⟩:=RC ho hf;split at h
     ·split at h
      ·exact⟨σ1,a1.trans (Bn h).symm,a2,a4,a5⟩
      ·cases h
     ·cases h
   ·cases h
  ·cases h
 |indexAddr T y z=>
  rw[hop]at h;simp only at h;split at h
  ·split at h
   ·exact same (Bn (AI (DU h)).2)
   ·cases h
  ·split at h
   ·exact same (Bn (DU h))
   ·cases h
  ·split at h
   ·split at h
    ·split at h
     ·exact same (Bn (DU h))
     ·rename_i eb;have:=Bn (DU h);rw[←hm]at eb this;obtain⟨σ1,a1,a2,a3,a4,a5⟩:=gV ho (.inr eb);exact⟨σ1,a1.trans this.symm,a2,a4,a5⟩
     ·exact same (Bn (DU h))
     ·cases h
    ·exact same (Bn (DU h))
    ·split at h
     ·exact same (Bn (DU h))
     ·cases h
    ·cases h
   ·cases h
  ·cases h
 |call c=>
  rw[hop]at h hl;simp only at h;cases hc:c.callee with
  |value fo=>
   have hlen:Nat.beq mem.length s.mem.length=true:=by unfold Ez at hst;rw[hop]at hst;simpa only[hc]using hst
   simp only[hc]at h;split at h
   ·rename_i f caps args ef eargs;split at h
    ·rename_i L eL;exfalso;split at eL
     ·rename_i e;exact hgd e
     ·cases eL
    split at h
    ·split at h
     ·rename_i ec;rw[←Bn h]at ec;exact sK ho hm ec hlen
     ·cases h
    ·have h2:=(AI h).2;cases h2
   ·split at h
    ·split at h
     ·rename_i ec;rw[←Bn h]at ec;exact sK ho hm ec hlen
     ·cases h
    ·cases h
   ·cases h
  |invoke r m=>
   have hlen:Nat.beq mem.length s.mem.length=true:=by unfold Ez at hst;rw[hop]at hst;simpa only[hc]using hst
   simp only[hc]at h;split at h
   ·split at h
    ·split at h
     ·rename_i ec;rw[←Bn h]at ec;exact sK ho hm ec hlen
     ·cases h
    ·cases h
   ·cases h
  |builtin b=>
   simp only[MT,hc]at hl;simp only[hc]at h;cases b<;>simp only at h hl<;>first|(cases hl;done)|(cases h;done)|(repeat' split at h)<;>first|(cases h;done)|exact same (Bn h)|exact same (Bn (AI h).2)|exact same (Bn (DU h))
 |_=>
  rw[hop]at h;simp only at h;(repeat' split at h)<;>first|(cases h;done)|exact same (Bn h)|exact same (Bn (AI h).2)|exact same (Bn (DU h))|(have h2:=(AI h).2;cases h2)
theorem wK{σ':Sit}(hr:RelT σ s a){d t:Nat}{p:Bool}{x:TV}{v:Value}{mem:Ae}(hdl:d<a.tmps.size)(hdt:t≠d)(hnt:FO d s.cs=true)(hm:∀x y,A2 σ x y->A2 σ' x y)(hmem:σ'.mem=mem)
  (h1:a.tmps.getD t undef=.bool p->A2 σ' x v) (h2:a.tmps.getD t undef≠.bool p->v=undef):RelT σ' (aD s d t p x mem) (a.put (some d) v):=by
 refine⟨by simp[Act.put,hr.size,aD],hr.defers,hmem,fun q=>?_,fun e g' p' y hmm=>?_⟩
 ·rw[MP hdl];simp only[aD,AU];by_cases h:q=d
  ·subst h;rw[dq];trivial
  ·rw[if_neg h];have:Nat.beq d q=false:=by
    cases hq:Nat.beq d q with
    |false=>rfl
    |true=>exact absurd (ak hq).symm h
   rw[this,cond_false];exact hm _ _ (hr.tm q)
 ·rcases cx.1 hmm with h|h
  ·cases h;rw[MP hdl,MP hdl,if_neg hdt,if_pos rfl];exact⟨h1,h2⟩
  ·obtain⟨n1,n2⟩:=vE hnt e g' p' y h;rw[MP hdl,MP hdl,if_neg n1,if_neg n2];have:=hr.cs _ _ _ _ h;exact⟨fun h=>hm _ _ (this.1 h),this.2⟩
theorem aU1(hC:SumsOk C)(ho:Ok base S0 σ)(hr:RelT σ s a)(hG:GlobsOk C.globs σ.w σ.S){ops:Array Oper}(h:step C ops.toList o s=some (.ok true s')){K:Act->World->Prop}{Q:Exit->Act->World->Prop}
  (hK:∀a' σ',Ok base S0 σ'->Adv σ σ'->RelT σ' s' a'->K a' σ'.w) :
  if gg o (yielded ops a.tmps)then o.wp C.P a σ.w K Q else K (a.put o.dst undef) σ.w:=by
 unfold step at h;cases hg:o.guard with
 |none=>
  rw[hg]at h;simp only at h;rw[if_pos (by simp[gg,hg])];split at h
  ·rename_i g x mem hp;by_cases happ:∃c,o.op=.call c/\c.callee=.builtin .append
   ·obtain⟨c,hop,hc⟩:=happ;have hg1:g=true/\∃b,x=.val (.one (.own b))/\RO {s with tm:=s.tm.map fun p=>(p.1,SP b p.2),cs:=s.cs.map fun p=>(p.1,p.2.1,p.2.2.1,SP b p.2.2.2)} o x (mem.map (Ru b))=some s':=by
     have hx:∃b,x=.val (.one (.own b)):=by
      have hp':=hp;unfold Ax at hp';rw[hop]at hp';simp only[hc]at hp';repeat' split at hp'
      all_goals first|(cases hp';done)|(cases hp';exact⟨_,rfl⟩)
     obtain⟨b,rfl⟩:=hx;simp only[aP,hop,hc]at h;split at h
     ·rename_i s'' e;cases h;exact⟨rfl,b,rfl,e⟩
     ·cases h
    obtain⟨rfl,b,rfl,hput⟩:=hg1;obtain⟨b',e,hac,hgood⟩:=aPh ho hr (fun _ _ h=>by simp at h) hop hc hp;cases e;refine hgood K Q fun v σ' k1 k2 k3 k4=>?_;have hacc:G6 (Ac σ'.mem b):=by rw[k3];exact hac
    exact hK _ σ' k1 (k2.adv_own hacc) (i5 (fT:=SP b) rfl (fun x y hxy=>A2.drop k2.rep (aMQ b) hxy) hr k4 k3 hput)
   ·have hstrip:aP o x s mem=(s,mem):=by
     unfold aP;split
     ·rename_i c hop;split
      ·rename_i hc;exact absurd ⟨c,hop,hc⟩ happ
      ·rfl
     ·rfl
    rw[hstrip]at h;simp only at h;split at h
    ·rename_i s'' e;cases h;refine VS hC ho hr (fun _ _ h=>by simp at h) hG (fun c hop hc=>happ ⟨c,hop,hc⟩) hp K Q fun v σ' k1 k2 k3 k4=>?_;refine hK _ σ' k1 k2.adv_id (i5 (fT:=id) rfl (fun x y hxy=>?_) hr k4 k3 ?_)
     ·exact A2.keep k2.rep hxy
     ·simpa using e
    ·cases h
  ·cases h
  ·cases h
 |some gp=>
  obtain⟨gi,p⟩:=gp;rw[hg]at h;simp only at h;split at h
  ·rename_i t d ht hd;cases hb:(MT o.op&&FO d s.cs&&!(Nat.beq d t)&&Nat.blt d s.n)with
   |false=>rw[hb]at h;cases h
   |true=>
    rw[hb]at h;simp only[ai,dm]at hb;simp only[cond_true]at h;split at h
    ·rename_i c g x mem hcv hp;obtain⟨hst,h⟩:=AI h;simp only[af,Step.ok.injEq,dl,dm]at h;obtain⟨hgc,rfl⟩:=h;have hdl:d<a.tmps.size:=by rw[hr.size];simpa using hb.2
     have hdt:t≠d:=fun e=>by subst e;simp[dq]at hb
     have hciff:=Zi hr.tm hr.cs hcv;have hwiff:=xK (a:=a) hg ht;have hcs:∀{σ':Sit} {v:Value},(∀x y,A2 σ x y->A2 σ' x y)->σ'.mem=mem->(a.tmps.getD t undef=.bool p->A2 σ' x v)->(a.tmps.getD t undef≠.bool p->v=undef) ->
       RelT σ' {s with tm:=(d,.un)::s.tm,cs:=(d,t,p,x)::s.cs,mem:=mem} (a.put o.dst v):=fun {σ' v} hm hmem h1 h2=>by
      rw[hd];exact wK hr hdl hdt hb.1.1.2 hm hmem h1 h2
     by_cases hw:gg o (yielded ops a.tmps)=true
     ·rw[if_pos hw];have htrue:=hwiff.1 hw;have hc1:c=true:=hciff.2 htrue;have hg1:g=true:=by
       rcases hgc with h|h
       ·exact h
       ·rw[hc1]at h;cases h
      subst hg1;have happ:∀c,o.op=.call c->c.callee≠.builtin .append:=fun c hop hc=>by
       have:=hb.1.1.1;unfold MT at this;rw[hop]at this;simp only[hc]at this;cases this
      refine VS hC ho hr (Zg hr.cs htrue) hG happ hp K Q fun v σ' k1 k2 k3 k4=>?_;exact hK _ σ' k1 k2.adv_id (hcs (fun x y hxy=>A2.keep k2.rep hxy) k3 (fun _=>k4) (fun hn=>absurd htrue hn))
     ·rw[if_neg hw];have hfalse:a.tmps.getD t undef≠.bool p:=fun e=>hw (hwiff.2 e);obtain⟨σ1,b1,b2,b3,b4⟩:=aOF ho hr.mem (by rw[hg];simp) hb.1.1.1 hst hp;have:=hK (a.put o.dst undef) σ1 b3 b4.adv (hcs (fun x y hxy=>b4.repT hxy) b1 (fun e=>absurd e hfalse) (fun _=>rfl));rw[b2]at this;exact this
    ·cases h
    ·cases h
  ·cases h
end Vx
namespace Vx
open Go Go.RowKit
variable {C:Cfg}{base:Base}{S0:Nat->Prop}{σ σ0:Sit}{s s':St}{a:Act}{R:Type}{r:R}
structure ProgOk (C:Cfg):Prop where
 sums:SumsOk C
 mixed:C.P.follows .mixedOrders=true
def TD(C:Cfg)(inl:FuncId->List SV->Ae->(List SV->Ae->Option R)->Option R):Prop:=
 ∀f args mem k r,inl f args mem k=some r->∀base S0 (σ:Sit) ys,Ok base S0 σ->σ.mem=mem->GlobsOk C.globs σ.w σ.S->All2 (A8 σ) args ys ->
  (∃ fn, C.P.funcs[f]? = some fn /\ fn.body.isNone = false /\ (fn.name == "runtime.NumGoroutine") = false) /\
  Calls C.P f ys.toArray σ.w fun e w'=>∃(σ':Sit) (rs:List SV) (zs:List Value),e=.returned (DX zs)/\σ'.w=w'/\Ok base S0 σ'/\Adv σ σ'/\All2 (A8 σ') rs zs/\k rs σ'.mem=some r
theorem GlobsOk.adv{G:List (Nat×Sigma fun τ=>List (Aa τ))}{σ σ':Sit}(h:GlobsOk G σ.w σ.S)(ha:Adv σ σ'):GlobsOk G σ'.w σ'.S:=h.mono ha.stab ha.heap
def K6(base:Base)(S0:Nat->Prop)(σ0:Sit)(r:R)(kn:St->Option R)(ke:Nat->St->Option R)(kr:St->Option R)(e:Exit)(a':Act)(w':World):Prop:=
 ∃(σ':Sit) (s':St),σ'.w=w'/\Ok base S0 σ'/\Adv σ0 σ'/\RelT σ' s' a'/\s'.m0=σ0.mem.length/\(match e with
  |.normal=>kn s'=some r
  |.exit id=>ke id s'=some r
  |.ret=>kr s'=some r
  |_=>False)
theorem aU0{ops:List Oper}{o:Oper}{g:Bool}(h:step C ops o s=some (.ok g s')):s'.m0=s.m0:=by
 unfold step at h;have hput:∀{s1 s2:St} {x:TV} {mem:Ae},RO s1 o x mem=some s2->s2.m0=s1.m0:=fun {s1 s2 x mem} h=>by
  unfold RO at h;split at h
  ·cases h;rfl
  ·have h2:=(AI h).2;cases h2;rfl
 split at h
 ·split at h
  ·split at h;rename_i s1 m1 e;split at h
   ·rename_i s2 e2;cases h;rw[hput e2];unfold aP at e;split at e
    ·split at e
     ·split at e<;>(cases e;rfl)
     ·cases e;rfl
    ·cases e;rfl
   ·cases h
  ·cases h
  ·cases h
 ·split at h
  ·have h:=(AI h).2;split at h
   ·have h:=(AI h).2;cases h;rfl
   ·cases h
   ·cases h
  ·cases h
theorem aL2{c g:Bool}{x:TV}{mem:Ae}{o:Option Res}{f:FuncId}{args:List SV}(h:(bif c then some (.ok g x mem)else o)=some (.inl f args)):o=some (.inl f args):=by
 cases c with
 |true=>cases h
 |false=>exact h
theorem RelT.clear(hr:RelT σ s a):RelT σ {s with cs:=[] } a:=⟨hr.size,hr.defers,hr.mem,hr.tm,fun _ _ _ _ h=>by simp at h⟩
theorem aDa{mem:Ae}:∀{l:List (Nat×Nat)},Y7 mem l=true->∀p∈l,∃cs,Ac mem p.1=.raw cs
 | [],_,p,hp=>by simp at hp
 |(b,off)::r,h,p,hp=>by
  simp only[Y7]at h
  split at h
  ·rename_i cs e
   rcases cx.1 hp with rfl|hp
   ·exact⟨cs,e⟩
   ·exact aDa h p hp
  ·cases h
theorem aDA{σ:Sit}:∀{caps:List (Nat×Nat)} {rs:List Nat},(∀p∈caps,p.1<σ.mem.length)->(∀p∈caps,∃cs,Ac σ.mem p.1=.raw cs)->caps.map (fun p=>σ.E.β p.1)=rs.map some ->
  All2 (A8 σ) (caps.map fun p=>SV.one (.ptr p.1 p.2)) ((caps.zip rs).map fun q=>jb (some ⟨q.2,q.1.2,none⟩))
 | [],_,_,_,_=>by simp;exact .nil
 |p::caps,[],_,_,h=>by simp at h
 |p::caps,q::rs,h1,h2,h=>by
  simp only[gq,List.cons.injEq]at h
  obtain⟨cs,e⟩:=h2 p (by simp)
  refine .cons ⟨h1 p (by simp),⟨_,rfl⟩,?_⟩ (aDA (fun p hp=>h1 p (by simp[hp])) (fun p hp=>h2 p (by simp[hp])) h.2)
  rw[e]
  exact⟨q,h.1,rfl⟩
theorem aFh{inl:FuncId->List SV->Ae->(List SV->Ae->Option R)->Option R}(hI:TD C inl)(ho:Ok base S0 σ)(hr:RelT σ s a)(hG:GlobsOk C.globs σ.w σ.S){o:Oper}{f:FuncId}{args:List SV}{k:List SV->Ae->Option R}
  {ctx:List (Nat×Bool)} (hx:Bj a ctx) (hs:Ax C s ctx o=some (.inl f args)) (h:inl f args s.mem k=some r) {K:Act->World->Prop} {Q:Exit->Act->World->Prop}
  (hK:∀(v:Value) (σ':Sit) (rs:List SV) (zs:List Value),Ok base S0 σ'->Adv σ σ'->v=DX zs->All2 (A8 σ') rs zs->k rs σ'.mem=some r->K (a.put o.dst v) σ'.w):o.wp C.P a σ.w K Q:=by
 have hcall:∃c fo caps as,o.op=.call c/\c.callee=.value fo/\AZ s ctx fo=some (.fn f caps)/\Et s ctx c.args.toList=some as/\Y7 s.mem caps=true/\args=as++caps.map fun p=>SV.one (.ptr p.1 p.2):=by
  unfold Ax at hs;cases hop:o.op with
  |call c=>
   rw[hop]at hs;simp only at hs;cases hc:c.callee with
   |value fo=>
    simp only[hc]at hs;split at hs
    ·rename_i f' caps as ef ea;split at hs
     ·(repeat' split at hs)<;>first|(cases hs;done)|(have h2:=(AI hs).2;(repeat' split at h2)<;>cases h2)
     split at hs
     ·repeat' split at hs
      all_goals cases hs
     ·obtain⟨h1,h2⟩:=AI hs;cases h2;exact⟨c,fo,caps,as,rfl,hc,ef,ea,h1,rfl⟩
    ·(repeat' split at hs)<;>cases hs
    ·cases hs
   |invoke q m=>simp only[hc]at hs;(repeat' split at hs)<;>cases hs
   |builtin b=>
    simp only[hc]at hs;cases b<;>simp only at hs<;>first|(cases hs;done)|(repeat' split at hs)<;>first|(cases hs;done)|(have h2:=(AI hs).2;cases h2;done)|(have h2:=DU hs;cases h2)
  |_=>
   rw[hop]at hs;simp only at hs;(repeat' split at hs)<;>first|(cases hs;done)|(have h2:=(AI hs).2;(repeat' split at h2)<;>cases h2;done)|(have h2:=aL2 hs;have h3:=(AI h2).2;cases h3;done)|(have h2:=DU hs;(repeat' split at h2)<;>first|(cases h2;done)|(have h3:=(AI h2).2;cases h3))
 obtain⟨c,fo,caps,as,hop,hc,ef,ea,hraw,rfl⟩:=hcall;rw[←hr.mem]at hraw h;obtain⟨hb,_,hm⟩:=Bs hr hx ef;have hall:=aDa hraw;obtain⟨rs,hrs,hfv⟩:=hm.resolve_left fun⟨p,hp,hq⟩=>by obtain⟨cs,e⟩:=hall p hp;rw[e]at hq;exact hq
 have hargs:=(SR hr hx ea).append (aDA hb hall hrs);obtain⟨hcl,hcalls⟩:=hI f _ σ.mem k r h base S0 σ _ ho rfl hG hargs;have hexec:(execOp a.eval o).run C.P σ.w=.ok (.enter f ((c.args.toList.map a.eval)++(caps.zip rs).map fun q=>jb (some ⟨q.2,q.1.2,none⟩)).toArray) σ.w:=by
  simp only[execOp,hop,resolve,hc,hfv];simp only[Deferred.ofValue,cy,ee,bl,invoke];rw[i9 hcl];congr 2;apply gb.1;simp
 unfold Oper.wp;rw[hexec,Oper.upon_enter];refine hcalls.mono fun e w' he=>?_;obtain⟨σ',rs',zs,rfl,rfl,h1,h2,h3,h4⟩:=he;exact hK (DX zs) σ' rs' zs h1 h2 rfl h3 h4
theorem Tn(hP:ProgOk C){inl:FuncId->List SV->Ae->(List SV->Ae->Option R)->Option R}(hI:TD C inl)(ops:Array Oper){kn:St->Option R}{ke:Nat->St->Option R}{kr:St->Option R}(hG0:GlobsOk C.globs σ0.w σ0.S):
  ∀(l:List Oper) {σ:Sit} {s:St} {a:Act},Ok base S0 σ->Adv σ0 σ->RelT σ s a->s.m0=σ0.mem.length->M7 C inl ops.toList l s kn=some r->wpList C.P ops (K6 base S0 σ0 r kn ke kr) l a σ.w
 | [],σ,s,a,ho,hA,hr,hm,h=>⟨σ,s,rfl,ho,hA,hr,hm,h⟩
 |o::l,σ,s,a,ho,hA,hr,hm,h=>by
  simp only[M7]at h
  unfold wpList
  split at h
  ·rename_i g s1 e
   obtain⟨h1,h2⟩:=AI h
   subst h1
   have:=aU1 hP.sums ho hr (hG0.adv hA) e (K:=wpList C.P ops (K6 base S0 σ0 r kn ke kr) l) (Q:=K6 base S0 σ0 r kn ke kr) fun a' σ' k1 k2 k3=>
    Tn hP hI ops hG0 l k1 (hA.trans k2) k3 ((aU0 e).trans hm) h2
   split at this
   ·rename_i hw;rw[if_pos hw];exact .inl this
   ·rename_i hw;rw[if_neg hw];exact this
  ·rename_i f args e
   split at h
   ·rename_i hg
    rw[if_pos (by simp[gg,hg])]
    have hs:Ax C s [] o=some (.inl f args):=by
     unfold step at e
     rw[hg]at e
     simp only at e
     (repeat' split at e)<;>first|(cases e;done)|(cases e;assumption)
    refine .inl (aFh hI ho hr (hG0.adv hA) (fun _ _ h=>by simp at h) hs h fun v σ' rs zs k1 k2 k3 k4 k5=>?_)
    split at k5
    ·rename_i s2 e2
     refine Tn hP hI ops hG0 l k1 (hA.trans k2) (s:=s2) ?_ ?_ k5
     ·refine i5 (σ:=σ) (fT:=SN s.mem) rfl (fun x y hxy=>A2.drop (by rw[←hr.mem];exact k2.rep) (aDX s.mem) hxy) hr (x:=Nd rs) (v:=v) (by rw[k3];exact nU k4) rfl e2
     ·unfold RO at e2
      split at e2
      ·cases e2;exact hm
      ·have:=(AI e2).2;cases this;exact hm
    ·cases k5
   ·cases h
  ·rename_i c t d p f args e
   obtain⟨gi,hg,ht,hd,hnt,hdt,hdl,hcv,hs⟩:∃gi,o.guard=some (gi,p)/\EZ ops.toList gi=some t/\o.dst=some d/\FO d s.cs=true/\t≠d/\d<s.n/\Rq s.tm s.cs t p=some c/\Ax C s (J1 s.cs t p) o=some (.inl f args):=by
    unfold step at e
    split at e
    ·(repeat' split at e)<;>cases e
    ·rename_i gi p' hg
     split at e
     ·rename_i t' d' ht hd
      obtain⟨hb,e⟩:=AI e
      simp only[ai,dm]at hb
      split at e
      ·have:=(AI e).2;cases this
      ·cases e
       exact⟨gi,hg,ht,hd,hb.1.1.2,fun e=>by subst e;simp[dq]at hb,by simpa using hb.2,by assumption,by assumption⟩
      ·cases e
     ·cases e
   have hdl':d<a.tmps.size:=by rw[hr.size];exact hdl
   have hciff:=Zi hr.tm hr.cs hcv
   have hwiff:=xK (a:=a) hg ht
   cases c with
   |true=>
    rw[cond_true]at h
    have htrue:=hciff.1 rfl
    rw[if_pos (hwiff.2 htrue)]
    refine .inl (aFh hI ho hr (hG0.adv hA) (Zg hr.cs htrue) hs h fun v σ' rs zs k1 k2 k3 k4 k5=>?_)
    have hr2:RelT σ' {Zj s with mem:=σ'.mem} a:=by
     have:=i5 (σ:=σ) (σ':=σ') (o:={o with dst:=none}) (v:=undef) (x:=.un) (fT:=SN s.mem) rfl (fun x y hxy=>A2.drop (by rw[←hr.mem];exact k2.rep) (aDX s.mem) hxy) hr trivial rfl (s':={Zj s with mem:=σ'.mem}) rfl
     simpa[Act.put]using this
    have hnt2:FO d (Zj s).cs=true:=by
     have:∀l:List (Nat×Nat×Bool×TV),FO d (l.map fun p=>(p.1,p.2.1,p.2.2.1,SN s.mem p.2.2.2))=FO d l:=fun l=>by
      induction l with
      |nil=>rfl
      |cons q l ih=>obtain⟨_,_,_,_⟩:=q;simp only[gq,FO,ih]
     show FO d (s.cs.map _)=true
     rw[this];exact hnt
    rw[hd]
    exact Tn hP hI ops hG0 l k1 (hA.trans k2) (wK hr2 hdl' hdt hnt2 (fun _ _ h=>h) rfl (fun _=>by rw[k3];exact nU k4) (fun hn=>absurd htrue hn)) hm k5
   |false=>
    rw[cond_false]at h
    have hfalse:a.tmps.getD t undef≠.bool p:=fun e=>by have:=hciff.2 e;cases this
    rw[if_neg (fun hw=>hfalse (hwiff.1 hw)),hd]
    exact Tn hP hI ops hG0 l ho hA (wK hr hdl' hdt hnt (fun _ _ h=>h) hr.mem (fun e=>absurd e hfalse) (fun _=>rfl)) hm h
  ·cases h
end Vx
namespace Vx
open Go Go.RowKit
theorem gT{mem:Ae}{c:SC}(h:FQ c=true):C8 mem c=(c,mem):=by
 cases c with
 |fn f caps=>cases caps with
  |nil=>rfl
  |cons p r=>simp[FQ]at h
 |_=>first|rfl|(simp[FQ]at h)
theorem gU{mem:Ae}:∀{l:List SC},AM l=true->EY mem l=(l,mem)
 | [],_=>rfl
 |c::r,h=>by
  simp only[AM,ai]at h
  simp only[EY,gT h.1,gU h.2]
theorem tN{mem:Ae}{x:SV}(h:AM x.cells=true):FH mem x=(x,mem):=by
 cases x with
 |one c=>simp only[SV.cells,AM,Bool.and_true]at h;simp only[FH,gT h]
 |agg cs=>simp only[SV.cells]at h;simp only[FH,gU h]
theorem Zw{mem:Ae}:∀{sg:Ab} {l:List SV},(∀x∈l,AM x.cells=true)->(Be mem sg l).2=mem/\(l.length=sg.length->(Be mem sg l).1=l)
 | [],_,_=>⟨rfl,fun _=>rfl⟩
 |_::_,[],_=>⟨rfl,fun _=>rfl⟩
 |(a,τ)::sg,x::r,h=>by
  obtain⟨h1,h2⟩:=Zw (mem:=mem) (sg:=sg) (l:=r) fun y hy=>h y (by simp[hy])
  simp only[Be]
  cases J9 a τ with
  |true=>exact⟨h1,fun hl=>by simp only[cond_true];rw[h2 (by simpa using hl)]⟩
  |false=>
   simp only[cond_false,tN (h x (by simp))]
   exact⟨h1,fun hl=>by rw[h2 (by simpa using hl)]⟩
theorem S3{mem m2:Ae}:∀{sg:Ab} {l:List SV},(∀x∈l,AM x.cells=true)->(Be m2 sg l).1=(Be mem sg l).1/\∀x∈(Be mem sg l).1,AM x.cells=true
 | [],_,h=>⟨rfl,h⟩
 |_::_,[],h=>⟨rfl,h⟩
 |(a,τ)::sg,x::r,h=>by
  obtain⟨h1,h2⟩:=S3 (mem:=mem) (m2:=m2) (sg:=sg) (l:=r) fun y hy=>h y (by simp[hy])
  simp only[Be]
  cases J9 a τ with
  |true=>
   simp only[cond_true]
   refine⟨by rw[h1],fun y hy=>?_⟩
   rcases cx.1 hy with rfl|hy
   ·exact h _ (by simp)
   ·exact h2 y hy
  |false=>
   simp only[cond_false,tN (h x (by simp))]
   refine⟨by rw[h1],fun y hy=>?_⟩
   rcases cx.1 hy with rfl|hy
   ·exact h _ (by simp)
   ·exact h2 y hy
theorem aVc{mem m1:Ae}{a:Bool}{τ:Shape}{z:SV}{x:Aa τ}(hz:AM z.cells=true)(h:IB mem a τ z=some (x,m1)):m1=mem/\∀m2,IB m2 a τ z=some (x,m2):=by
 have plain:∀{a:Bool} {τ:Shape} {x:Aa τ},Eh mem a τ z=some (x,m1)->m1=mem/\∀m2,Eh m2 a τ z=some (x,m2):=fun {a τ x} h=>by
  unfold Eh at h⊢;cases z<;>cases a<;>simp only[cond_true,cond_false]at h⊢<;>first|(cases h;done)|skip
  ·split at h
   ·cases h;exact⟨rfl,fun m2=>rfl⟩
   ·cases h
  ·split at h
   ·cases h;exact⟨rfl,fun m2=>rfl⟩
   ·cases h
 cases τ with
 |slice e=>
  cases a with
  |false=>exact plain h
  |true=>
   simp only[IB,cond_true]at h⊢;split at h
   ·simp[SV.cells,AM,FQ]at hz
   ·cases h;exact⟨rfl,fun _=>rfl⟩
   ·cases h
 |_=>exact plain h
theorem aU:∀{sg:Ab} {mem m1:Ae} {l:List SV} {x:DenS sg},(∀z∈l,AM z.cells=true)->CH mem sg l=some (x,m1)->m1=mem/\∀m2,CH m2 sg l=some (x,m2)
 | [],mem,m1,[],x,_,h=>by simp only[CH]at h;cases h;exact⟨rfl,fun _=>rfl⟩
 | [],mem,m1,_::_,x,_,h=>by simp[CH]at h
 |_::_,mem,m1,[],x,_,h=>by simp[CH]at h
 |(a,τ)::sg,mem,m1,z::l,x,hz,h=>by
  simp only[CH]at h⊢
  split at h
  ·rename_i u m3 e1
   split at h
   ·rename_i v m4 e2
    cases h
    obtain⟨h1,h2⟩:=aVc (hz z (by simp)) e1
    subst h1
    obtain⟨h3,h4⟩:=aU (fun y hy=>hz y (by simp[hy])) e2
    exact⟨h3,fun m2=>by rw[h2 m2];simp only;rw[h4 m2]⟩
   ·cases h
  ·cases h
theorem iC:∀{sg:Ab} {mem m1:Ae} {x:DenS sg} {vs:List SV},CB mem sg x=some (vs,m1)->m1.length=mem.length->∀m2,CB m2 sg x=some (vs,m2)
 | [],mem,m1,x,vs,h,_=>by simp only[CB]at h⊢;cases h;intro m2;rfl
 |(a,τ)::sg,mem,m1,x,vs,h,hl=>by
  simp only[CB]at h⊢
  split at h
  ·rename_i v m3 e1
   split at h
   ·rename_i r m4 e2
    cases h
    obtain⟨l2,g2⟩:=uE e2
    have plain:∀{τ:Shape} {y:Aa τ},DL.giveP mem a τ y=some (v,m3)->m3=mem/\∀m2,DL.giveP m2 a τ y=some (v,m2):=fun {τ y} h=>by
     unfold DL.giveP at h⊢
     cases a with
     |true=>simp only[cond_true]at h⊢;cases h;exact⟨rfl,fun _=>rfl⟩
     |false=>
      simp only[cond_false]at h⊢
      split at h
      ·cases h;exact⟨rfl,fun _=>rfl⟩
      ·cases h
    have key:m3=mem/\∀m2,DL m2 a τ x.1=some (v,m2):=by
     cases τ with
     |slice e=>
      simp only[DL]at e1⊢
      cases a with
      |true=>
       simp only[cond_true]at e1
       cases e1
       rw[g2]at hl
       simp only[fh,gk,je]at hl
       omega
      |false=>
       simp only[cond_false]at e1⊢
       split at e1
       ·cases e1;exact⟨rfl,fun _=>rfl⟩
       ·cases e1
     |_=>exact plain e1
    obtain⟨rfl,k2⟩:=key
    have ih:=iC e2 hl
    exact fun m2=>by rw[k2 m2];simp only;rw[ih m2]
   ·cases h
  ·cases h
theorem aE7:∀{sg:Ab} {mem m1:Ae} {x:DenS sg} {vs:List SV},CB mem sg x=some (vs,m1)->∃l,m1=mem++l/\∀m2,m2.length=mem.length->CB m2 sg x=some (vs,m2++l)
 | [],mem,m1,x,vs,h=>by simp only[CB]at h⊢;cases h;exact⟨[],by simp,fun m2 _=>by simp⟩
 |(a,τ)::sg,mem,m1,x,vs,h=>by
  simp only[CB]at h⊢
  split at h
  ·rename_i v m3 e1
   split at h
   ·rename_i r m4 e2
    cases h
    have plain:∀{τ:Shape} {y:Aa τ},DL.giveP mem a τ y=some (v,m3)->m3=mem/\∀m2,DL.giveP m2 a τ y=some (v,m2):=fun {τ y} h=>by
     unfold DL.giveP at h⊢
     cases a with
     |true=>simp only[cond_true]at h⊢;cases h;exact⟨rfl,fun _=>rfl⟩
     |false=>
      simp only[cond_false]at h⊢
      split at h
      ·cases h;exact⟨rfl,fun _=>rfl⟩
      ·cases h
    have plain':(m3=mem/\∀m2,DL m2 a τ x.1=some (v,m2))->∃l,m3=mem++l/\∀m2,m2.length=mem.length->DL m2 a τ x.1=some (v,m2++l):=fun⟨h1,h2⟩=>⟨[],by simp[h1],fun m2 _=>by rw[h2 m2];simp⟩
    have key:∃l,m3=mem++l/\∀m2,m2.length=mem.length->DL m2 a τ x.1=some (v,m2++l):=by
     cases τ with
     |slice e=>
      simp only[DL]at e1 plain' ⊢
      cases a with
      |true=>
       simp only[cond_true]at e1⊢
       cases e1
       exact⟨[.arr e x.1],rfl,fun m2 hm=>by rw[hm]⟩
      |false=>
       simp only[cond_false]at e1 plain' ⊢
       split at e1
       ·rename_i c ec
        cases e1
        exact⟨[],by simp,fun m2 _=>by simp⟩
       ·cases e1
     |_=>exact plain' (plain e1)
    obtain⟨l1,rfl,k2⟩:=key
    obtain⟨l2,h3,k4⟩:=aE7 e2
    exact⟨l1++l2,by rw[h3,fj],fun m2 hm=>by
     rw[k2 m2 hm]
     simp only
     rw[k4 (m2++l1) (by simp[hm]),fj]⟩
   ·cases h
  ·cases h
theorem tK{m1 m2:Ae}:∀{sg:Ab} {l:List SV},(∀z∈l,AM z.cells=true)->ML m1 sg l=ML m2 sg l
 | [],[],_=>rfl
 | [],_::_,_=>rfl
 |_::_,[],_=>rfl
 |(a,τ)::sg,z::l,h=>by
  simp only[ML]
  rw[tK (m1:=m1) (m2:=m2) fun y hy=>h y (by simp[hy])]
  congr 1
  cases J9 a τ with
  |false=>rfl
  |true=>
   simp only[cond_true]
   have hz:=h z (by simp)
   split
   ·simp[SV.cells,AM,FQ]at hz
   ·rfl
   ·rfl
theorem tJ{m1 m2:Ae}{f:FuncId}{args:List SV}(h:∀z∈args,AM z.cells=true):∀{l:List (FuncId×Sum)},Il l f m1 args=Il l f m2 args
 | []=>rfl
 |(g,S)::r=>by simp only[Il];rw[tK (m1:=m1) (m2:=m2) h,tJ h]
variable {C:Cfg}{s:St}{o:Oper}{ctx:List (Nat×Bool)}
theorem UM{m mem:Ae}{S:Sum}{args:List SV}{g:Bool}{x:TV}(hargs:∀z∈args,AM z.cells=true)(h:FF m S args=some (g,x,mem)):
  ∃l,mem=m++l/\(∀m2,m2.length=m.length->FF m2 S args=some (g,x,m2++l))/\(mem.length=m.length->∀m2,FF m2 S args=some (g,x,m2)):=by
 unfold FF at h⊢;cases hf:Be m S.ins args with
 |mk args' m1=>
  rw[hf]at h;simp only at h;have k1:=(Zw (mem:=m) (sg:=S.ins) hargs).1;have k2:=(S3 (mem:=m) (m2:=m) (sg:=S.ins) hargs).2;rw[hf]at k1 k2;simp only at k1 k2;subst k1;split at h
  ·rename_i zm ez;obtain⟨z,m3⟩:=zm;simp only at h;split at h
   ·rename_i vs m4 ev;simp only[af,dh]at h;obtain⟨rfl,rfl,rfl⟩:=h;obtain⟨rfl,t2⟩:=aU k2 ez;have key:∀m2,(∃l,CB m2 S.outs (S.F z)=some (vs,l))->∀l,CB m2 S.outs (S.F z)=some (vs,l)->(match Be m2 S.ins args with
      |(args',m1)=>match CH m1 S.ins args' with
       |some x=>match CB x.2 S.outs (S.F x.1)with
        |some (vs,mem')=>some (S.pre x.1,Nd vs,mem')
        |none=>none
       |none=>none)=some (S.pre z,Nd vs,l):=fun m2 _ l hl=>by
     have e1:=(S3 (mem:=m3) (m2:=m2) (sg:=S.ins) hargs).1;have e2:=(Zw (mem:=m2) (sg:=S.ins) hargs).1;rw[hf]at e1;cases hf2:Be m2 S.ins args with
     |mk args2 m5=>
      rw[hf2]at e1 e2;simp only at e1 e2;subst e1 e2;simp only;rw[t2];simp only;rw[hl]
    obtain⟨l,hl,g2⟩:=aE7 ev;exact⟨l,hl,fun m2 h=>key m2 ⟨_,g2 _ h⟩ _ (g2 _ h),fun h m2=>key m2 ⟨_,iC ev h m2⟩ _ (iC ev h m2)⟩
   ·cases h
  ·cases h
theorem sL{m mem:Ae}{S:Sum}{args:List SV}{g:Bool}{x:TV}(hargs:∀z∈args,AM z.cells=true)(h:FF m S args=some (g,x,mem))(hl:Nat.beq mem.length m.length=true):mem=m:=by
 obtain⟨l,rfl,_⟩:=UM hargs h;have:=ak hl;simp only[fh]at this;rw[cq (l:=l) (by omega),dp]
theorem aEk{m1 m2:Ae}{I:Ab}{args:List SV}(h:∀z∈args,AM z.cells=true):Rz m1 I args=Rz m2 I args:=by
 have hx:∀m:Ae,Rz m I args=(CH m2 I (Be m2 I args).1).isSome:=fun m=>by
  unfold Rz;have e1:=(S3 (mem:=m2) (m2:=m) (sg:=I) h).1;have e2:=(Zw (mem:=m) (sg:=I) h).1;have k2:=(S3 (mem:=m2) (m2:=m2) (sg:=I) h).2;cases hf:Be m I args with
  |mk a b=>
   rw[hf]at e1 e2;simp only at e1 e2;subst e1 e2;simp only;split
   ·rename_i e;rw[(aU k2 e).2 m2];rfl
   ·rename_i e;cases e':CH m2 I (Be m2 I args).1 with
    |none=>rfl
    |some q=>rw[(aU k2 e').2 b]at e;cases e
 rw[hx,hx]
theorem tH{m1 m2:Ae}{T:TypeId}{args:List SV}(h:∀z∈args,AM z.cells=true):∀{l:List (TypeId×SumF)},Rx m1 T args l=Rx m2 T args l
 | []=>rfl
 |(g,S)::r=>by simp only[Rx];rw[aEk (m1:=m1) (m2:=m2) h,tH h]
theorem aEd{m1 m2:Ae}{m:String}{args:List SV}(h:∀z∈args,AM z.cells=true):∀{l:List (String×SumM)},Ry m1 m args l=Ry m2 m args l
 | []=>rfl
 |(g,S)::r=>by simp only[Ry];rw[aEk (m1:=m1) (m2:=m2) h,aEd h]
theorem aEb{mem:Ae}{f:FuncId}{args:List SV}(h:∀z∈args,AM z.cells=true):∀{l:List (FuncId×SumL)},J3 l f mem args=none
 | []=>rfl
 |(g,L)::r=>by
  have hf:SX mem L.lend args=false:=by
   cases args with
   |nil=>rfl
   |cons z zs=>
    have hz:=h z (by simp)
    simp only[SX]
    cases hk:L.lend with
    |win e=>
     simp only[gQ]
     split
     ·simp[SV.cells,AM,FQ]at hz
     ·simp[SV.cells,AM,FQ]at hz
     ·rfl
    |ref τ=>
     simp only[gQ]
     split
     ·simp[SV.cells,AM,FQ]at hz
     ·rfl
  simp only[J3,hf,Bool.and_false,cond_false]
  exact aEb h
theorem ZS{C:Cfg}{mem:Ae}{f:FuncId}{args:List SV}(h:∀z∈args,AM z.cells=true):C.lsum f mem args=none:=aEb h
theorem vD:∀{l:List Operand},DA s ctx l=true->∀x∈l,∀v,ev s ctx x=some v->vF v=true
 | [],_,x,hx,_,_=>by simp at hx
 |y::r,h,x,hx,v,hv=>by
  simp only[DA,ai]at h
  rcases cx.1 hx with rfl|hx
  ·rw[hv]at h;exact h.1
  ·exact vD h.2 x hx v hv
theorem aMX{l:List Operand}(h:DA s ctx l=true){x:Operand}(hx:x∈l){c:SC}(hc:AZ s ctx x=some c):FQ c=true:=by
 unfold AZ at hc;split at hc
 ·rename_i c' e;cases hc;have:=vD h x hx _ e;simpa[vF,SV.cells,AM]using this
 ·cases hc
theorem aD6{l:List Operand}(h:DA s ctx l=true){x:Operand}(hx:x∈l){c:SV}(hc:EW s ctx x=some c):AM c.cells=true:=by
 unfold EW at hc;split at hc
 ·rename_i c' e;cases hc;exact vD h x hx _ e
 ·cases hc
theorem MI{l:List Operand}(h:DA s ctx l=true):∀{m:List Operand},(∀x∈m,x∈l)->∀{cs:List SV},Et s ctx m=some cs->∀c∈cs,AM c.cells=true
 | [],_,cs,hc,c,hcc=>by simp only[Et]at hc;cases hc;simp at hcc
 |x::m,hm,cs,hc,c,hcc=>by
  simp only[Et]at hc
  split at hc
  ·rename_i v vs e1 e2
   cases hc
   rcases cx.1 hcc with rfl|hcc
   ·exact aD6 h (hm x (by simp)) e1
   ·exact MI h (fun y hy=>hm y (by simp[hy])) e2 c hcc
  ·cases hc
theorem tD{l:List Operand}(h:DA s ctx l=true):∀{m:List (Nat×Operand)},(∀p∈m,p.2∈l)->∀{cs:List (Nat×SV)},Hc s ctx m=some cs->∀c∈cs,AM c.2.cells=true
 | [],_,cs,hc,c,hcc=>by simp only[Hc]at hc;cases hc;simp at hcc
 |(i,x)::m,hm,cs,hc,c,hcc=>by
  simp only[Hc]at hc
  split at hc
  ·rename_i v vs e1 e2
   cases hc
   rcases cx.1 hcc with rfl|hcc
   ·exact aD6 h (hm (i,x) (by simp)) e1
   ·exact tD h (fun y hy=>hm y (by simp[hy])) e2 c hcc
  ·cases hc
theorem iH:∀{a b:List SC},AM (a++b)=(AM a&&AM b)
 | [],b=>by simp[AM]
 |c::a,b=>by simp[AM,iH,Bool.and_assoc]
theorem aGm:∀{l:List SC} (n:Nat),AM l=true->AM (l.take n)=true
 |_,0,_=>by simp[AM]
 | [],_+1,_=>by simp[AM]
 |c::l,n+1,h=>by
  simp only[AM,ai]at h
  simp[AM,h.1,aGm n h.2]
theorem aGl:∀{l:List SC} (n:Nat),AM l=true->AM (l.drop n)=true
 |l,0,h=>by simpa using h
 | [],_+1,_=>by simp[AM]
 |c::l,n+1,h=>by
  simp only[AM,ai]at h
  simpa using aGl n h.2
theorem xB(At:Nat->Option (Nat×Nat)):∀{ps:List (Nat×SV)} {old r:List SC},IA At ps old=some r->AM old=true->(∀p∈ps,AM p.2.cells=true)->AM r=true
 | [],old,r,h,ho,_=>by simp only[IA]at h;cases h;exact ho
 |(i,x)::ps,old,r,h,ho,hp=>by
  simp only[IA]at h
  split at h
  ·cases h
  ·have h:=(AI h).2
   split at h
   ·rename_i old' e
    refine xB At h ?_ (fun p hp'=>hp p (by simp[hp']))
    obtain⟨h1,_⟩:=jD e
    rw[h1,iH,iH,aGm _ ho,aGl _ ho,hp (i,x) (by simp)]
    rfl
   ·cases h
theorem aHD{v:Value}{c:SC}(h:V4 v=some c):FQ c=true:=by
 unfold V4 at h;(repeat' split at h)<;>first|(cases h;rfl)|(cases h;done)|(have h2:=(AI h).2;cases h2;rfl)
theorem aHF:∀{l:List Value} {cs:List SC},RS l=some cs->AM cs=true
 | [],_,h=>by simp only[RS]at h;cases h;rfl
 |v::r,_,h=>by
  simp only[RS]at h
  split at h
  ·rename_i e1 e2
   cases h
   simp[AM,aHD e1,aHF e2]
  ·cases h
theorem aIB{P:Program}{T:TypeId}{z:SV}(h:FY P T=some z):AM z.cells=true:=by
 unfold FY at h;split at h
 ·split at h
  ·unfold aT at h;split at h
   ·split at h
    ·rename_i e;cases h;exact aHF e
    ·cases h
   ·split at h
    ·rename_i e;cases h;simp[SV.cells,AM,aHD e]
    ·cases h
  ·cases h
 ·cases h
theorem vG:∀(n:Nat) {l:List SC},AM l=true->AM (ax n l).flatten=true
 |0,_,_=>rfl
 |n+1,l,h=>by rw[List.replicate_succ,List.flatten_cons,iH,h,vG n h];rfl
theorem wT{T:TypeId}{y:Operand}{lo hi mx:Option Operand}(h:DA s ctx [y]=true):Nb C s ctx T y lo hi mx=none/\RW C s ctx y lo mx=none/\∀c,AZ s ctx y=some c->FQ c=true:=by
 have hn:∀c,AZ s ctx y=some c->FQ c=true:=fun c hc=>aMX h (by simp) hc;refine⟨?_,?_,hn⟩
 ·unfold Nb;split
  ·rename_i e;have:=hn _ e;cases this
  ·rename_i e;have:=hn _ e;cases this
  ·rfl
 ·unfold RW;cases hb:(C.keep&&lo.isNone&&mx.isNone)with
  |false=>rfl
  |true=>
   simp only[cond_true];split
   ·rename_i e;have:=hn _ e;cases this
   ·rfl
theorem aLX{m m2:Ae}{τ:Shape}{c:SC}(h:FQ c=true):Mx m2 τ c=Mx m τ c:=by
 cases c with
 |own b=>cases h
 |v x=>
  unfold Mx;split<;>first|rfl|(rename_i e;cases e)|simp_all
 |_=>rfl
theorem uU(hcalm:DS s ctx o.op=true)(hk:Ba o.op<=1){g:Bool}{x:TV}{mem:Ae}(hst:Ez o.op s.mem mem=true)(h:Ax C s ctx o=some (.ok g x mem)):mem=s.mem:=by
 unfold Ax at h;cases hop:o.op with
 |alloc T=>rw[hop]at hk;simp[Ba]at hk
 |box T y=>rw[hop]at hk;simp[Ba]at hk
 |store T y z=>rw[hop]at hk;simp[Ba]at hk
 |makeSlice T l c=>rw[hop]at hk;simp[Ba]at hk
 |slice T y lo hi mx=>
  rw[hop]at h hcalm;obtain⟨h1,h2,hn⟩:=wT (C:=C) (T:=T) (lo:=lo) (hi:=hi) (mx:=mx) (show DA s ctx [y]=true from hcalm);simp only[h1,h2]at h;split at h
  ·rename_i e c hT ec;split at h
   ·rw[gT (hn c ec)]at h;simp only at h;split at h
    ·split at h
     ·exact Bn h
     ·cases h
    ·cases h
   ·cases h
  ·cases h
 |buildSlice T n ps=>
  have hn:DA s ctx o.op.operands.toList=true:=by
   have:=hcalm;rw[hop]at this⊢;exact this
  rw[hop]at h hn;simp only at h;split at h
  ·split at h
   ·rename_i z pl eτ hz hps;split at h
    ·rename_i cs ecs;have hcs:AM cs=true:=xB _ ecs (vG n (aIB hz)) (tD hn (fun p hp=>by
      simp only[Op.operands];simp only[mw];exact⟨p,hp,rfl⟩) hps)
     rw[gU hcs]at h;simp only at h;split at h
     ·exact Bn (AI h).2
     ·cases h
    ·cases h
   ·cases h
  ·cases h
 |indexAddr T y z=>
  rw[hop]at h hcalm;simp only at h;split at h
  ·split at h
   ·exact Bn (AI (DU h)).2
   ·cases h
  ·split at h
   ·exact Bn (DU h)
   ·cases h
  ·rename_i e c i hT ec ei;split at h
   ·split at h
    ·split at h
     ·exact Bn (DU h)
     ·rename_i eb;simp only[DS,ec,eb]at hcalm;cases hcalm
     ·exact Bn (DU h)
     ·cases h
    ·exact Bn (DU h)
    ·split at h
     ·exact Bn (DU h)
     ·cases h
    ·cases h
   ·cases h
  ·cases h
 |call c=>
  rw[hop]at h hk hcalm;simp only at h;cases hc:c.callee with
  |value fo=>
   have hn:DA s ctx (Op.call c).operands.toList=true:=by simpa only[DS,hc]using hcalm
   have hlen:Nat.beq mem.length s.mem.length=true:=by unfold Ez at hst;rw[hop]at hst;simpa only[hc]using hst
   simp only[hc]at h;split at h
   ·rename_i f caps args ef eargs;have hargs:=MI hn (m:=c.args.toList) (fun x hx=>by simp[Op.operands,Call.operands,hc];exact .inr (by simpa using hx)) eargs;split at h
    ·rename_i L eL;exfalso;split at eL
     ·rw[ZS hargs]at eL;cases eL
     ·cases eL
    split at h
    ·split at h
     ·rename_i ec;rw[←Bn h]at ec;exact sL hargs ec hlen
     ·cases h
    ·have h2:=(AI h).2;cases h2
   ·rename_i args ef eargs;have hargs:=MI hn (m:=c.args.toList) (fun x hx=>by simp[Op.operands,Call.operands,hc];exact .inr (by simpa using hx)) eargs;split at h
    ·split at h
     ·rename_i ec;rw[←Bn h]at ec;exact sL hargs ec hlen
     ·cases h
    ·cases h
   ·cases h
  |invoke r m=>
   have hn:DA s ctx (Op.call c).operands.toList=true:=by simpa only[DS,hc]using hcalm
   have hlen:Nat.beq mem.length s.mem.length=true:=by unfold Ez at hst;rw[hop]at hst;simpa only[hc]using hst
   simp only[hc]at h;split at h
   ·rename_i args ef eargs;have hargs:=MI hn (m:=c.args.toList) (fun x hx=>by simp[Op.operands,Call.operands,hc];exact .inr (by simpa using hx)) eargs;split at h
    ·split at h
     ·rename_i ec;rw[←Bn h]at ec;exact sL hargs ec hlen
     ·cases h
    ·cases h
   ·cases h
  |builtin b=>
   simp only[Ba,hc]at hk;simp only[hc]at h;cases b<;>simp only at h hk<;>first|omega|(cases h;done)|(repeat' split at h)<;>first|(cases h;done)|exact Bn h|exact Bn (AI h).2|exact Bn (DU h)
 |_=>
  rw[hop]at h;simp only at h;(repeat' split at h)<;>first|(cases h;done)|exact Bn h|exact Bn (AI h).2|exact Bn (DU h)|(have h2:=(AI h).2;cases h2)
theorem CF{g g':Bool}{x x':TV}{m m':Ae}(h:some (Res.ok g x m)=some (Res.ok g' x' m'))(m2:Ae):some (Res.ok g x m2)=some (Res.ok g' x' m2):=by
 cases h;rfl
def n8(m m2:Ae)(c:SC):Prop:=∀b,aDq c=some b->Ac m2 b=Ac m b
theorem aMh{m m2:Ae}{c:SC}(h:n8 m m2 c):MD m2 c=MD m c:=by
 cases c with
 |ptr b off=>simp only[MD,h b rfl]
 |eptr b i off=>simp only[MD,h b rfl]
 |_=>rfl
theorem aOG{m m2:Ae}{c:SC}(h:n8 m m2 c):lenOf m2 c=lenOf m c:=by
 cases c with
 |own b=>simp only[lenOf,h b rfl]
 |v x=>
  unfold lenOf;split<;>first|rfl|(rename_i e;cases e)|simp_all
 |_=>rfl
theorem Zn(m2:Ae)(ctx:List (Nat×Bool))(y:Operand):ev {s with mem:=m2} ctx y=ev s ctx y:=by cases y<;>rfl
theorem Fe(m2:Ae)(ctx:List (Nat×Bool))(y:Operand):AZ {s with mem:=m2} ctx y=AZ s ctx y:=by unfold AZ;rw[Zn]
theorem Zl(m2:Ae)(ctx:List (Nat×Bool))(y:Operand):EW {s with mem:=m2} ctx y=EW s ctx y:=by unfold EW;rw[Zn]
theorem Zm(m2:Ae)(ctx:List (Nat×Bool)):∀l:List Operand,Et {s with mem:=m2} ctx l=Et s ctx l
 | []=>rfl
 |x::r=>by simp only[Et,Zl,Zm m2 ctx r]
theorem tC(m2:Ae)(ctx:List (Nat×Bool)):∀l:List (Nat×Operand),Hc {s with mem:=m2} ctx l=Hc s ctx l
 | []=>rfl
 |(i,x)::r=>by simp only[Hc,Zl,tC m2 ctx r]
theorem uM(m2:Ae)(ctx:List (Nat×Bool))(y:Operand):E0 {s with mem:=m2} ctx y=E0 s ctx y:=by unfold E0;rw[Fe]
def cE(m m2:Ae):FP->Prop
 |.pure=>True
 |.rd (some b)=>Ac m2 b=Ac m b
 |.wr (some b)=>Ac m2 b=Ac m b
 |.mk _=>m2.length=m.length
 |_=>m2=m
theorem SE{m2:Ae}{y:Operand}{c:SC}(hc:AZ s ctx y=some c)(h:cE s.mem m2 (MM s ctx y)):n8 s.mem m2 c:=by
 intro b hb;unfold MM at h;rw[hc]at h;simp only[hb]at h;exact h
theorem aNb(hcalm:DS s ctx o.op=true)(hk:Ba o.op<=1){g:Bool}{x:TV}{mem:Ae}(hst:Ez o.op s.mem mem=true)(h:Ax C s ctx o=some (.ok g x mem))(m2:Ae)(hs:cE s.mem m2 (Eu s ctx o.op)):
  Ax C {s with mem:=m2} ctx o=some (.ok g x m2):=by
 by_cases hfull:m2=s.mem
 ·subst hfull;have:=uU hcalm hk hst h;subst this;exact h
 unfold Ax at h⊢;cases hop:o.op with
 |alloc T=>rw[hop]at hk;simp[Ba]at hk
 |box T y=>rw[hop]at hk;simp[Ba]at hk
 |store T y z=>rw[hop]at hk;simp[Ba]at hk
 |makeSlice T l c=>rw[hop]at hk;simp[Ba]at hk
 |slice T y lo hi mx=>
  rw[hop]at h hcalm;have hcalm:DA s ctx [y]=true:=hcalm;obtain⟨h1,h2,hn⟩:=wT (C:=C) (T:=T) (lo:=lo) (hi:=hi) (mx:=mx) hcalm;obtain⟨h1',h2',_⟩:=wT (C:=C) (s:={s with mem:=m2}) (T:=T) (lo:=lo) (hi:=hi) (mx:=mx) (y:=y) (by
   simp only[DA,Zn]at hcalm⊢;exact hcalm)
  simp only[h1,h2]at h;simp only[h1',h2',Fe,uM]at h⊢;split at h
  ·rename_i e c hT ec;split at h
   ·rename_i τ eτ;rw[gT (hn c ec)]at h⊢;simp only at h⊢;rw[aLX (m:=s.mem) (hn c ec)];split at h
    ·split at h
     ·exact CF h m2
     ·cases h
    ·cases h
   ·cases h
  ·cases h
 |makeFunc fn first captured=>rw[hop]at hs;exact absurd hs hfull
 |load T y=>
  rw[hop]at h hs;simp only[Fe]at h⊢;split at h
  ·rename_i a ea;have hag:=SE ea hs;simp only[aMh hag];(repeat' split at h)<;>first|(cases h;done)|exact CF h m2
  ·cases h
 |nilCheck y=>
  rw[hop]at h hs;simp only[Zn]at h⊢;split at h
  ·rename_i b off ea;have hag:=SE (c:=.ptr b off) (by unfold AZ;rw[ea]) hs b rfl;simp only[hag];(repeat' split at h)<;>first|(cases h;done)|exact CF h m2
  ·cases h
 |fieldAddr T y i=>
  rw[hop]at h hs;simp only[Fe]at h⊢;split at h
  ·rename_i b off d ft ea ef;have hag:=SE ea hs b rfl;simp only[hag];(repeat' split at h)<;>first|(cases h;done)|exact CF h m2
  ·rename_i b j off d ft ea ef;have hag:=SE ea hs b rfl;simp only[hag];(repeat' split at h)<;>first|(cases h;done)|exact CF h m2
  ·exact CF h m2
  ·cases h
 |indexAddr T y z=>
  rw[hop]at h hs;simp only[Fe,uM]at h⊢;split at h
  ·split at h
   ·split at h
    ·rename_i heq;rw[if_pos heq];obtain⟨h1,h2⟩:=AI h;simp only[h1,cond_true];exact CF h2 m2
    ·cases h
   ·cases h
  ·rename_i ea ei;have hag:=SE ea hs _ rfl;simp only[hag];split at h
   ·split at h
    ·rename_i heq;rw[if_pos heq];exact CF h m2
    ·cases h
   ·cases h
  ·rename_i c i hT ea ei;have hag:=SE ea hs;split at h
   ·rename_i τ eτ;cases c with
    |own b=>
     have hb:=hag b rfl;simp only at h⊢;simp only[hb];have hc2:=hcalm;rw[hop]at hc2;simp only[DS,ea]at hc2;split at h
     ·split at h
      ·rename_i heq;rw[if_pos heq];exact CF h m2
      ·cases h
     ·rename_i eb;rw[eb]at hc2;cases hc2
     ·split at h
      ·rename_i heq;rw[if_pos heq];exact CF h m2
      ·cases h
     ·cases h
    |sl τ' xs=>
     simp only at h⊢;split at h
     ·rename_i heq;rw[if_pos heq];exact CF h m2
     ·cases h
    |sub b lo n=>
     have hb:=hag b rfl;simp only at h⊢;simp only[hb];split at h
     ·split at h
      ·rename_i heq;rw[if_pos heq];exact CF h m2
      ·cases h
     ·cases h
    |_=>simp only at h;cases h
   ·cases h
  ·cases h
 |buildSlice T n ps=>
  have hn:DA s ctx o.op.operands.toList=true:=by
   have:=hcalm;rw[hop]at this⊢;exact this
  rw[hop]at h hn;simp only[tC]at h⊢;split at h
  ·split at h
   ·rename_i z pl eτ hz hps;split at h
    ·rename_i cs ecs;have hcs:AM cs=true:=xB _ ecs (vG n (aIB hz)) (tD hn (fun p hp=>by
      simp only[Op.operands];simp only[mw];exact⟨p,hp,rfl⟩) hps)
     rw[gU hcs]at h⊢;simp only at h⊢;split at h
     ·obtain⟨h1,h2⟩:=AI h;simp only[h1,cond_true];exact CF h2 m2
     ·cases h
    ·cases h
   ·cases h
  ·cases h
 |call c=>
  rw[hop]at h hk hs hcalm;cases hc:c.callee with
  |value fo=>
   have hn:DA s ctx (Op.call c).operands.toList=true:=by simpa only[DS,hc]using hcalm
   have hlen:mem.length=s.mem.length:=by unfold Ez at hst;rw[hop]at hst;simp only[hc]at hst;exact ak hst
   simp only[hc,Fe,Zm]at h⊢;split at h
   ·rename_i f caps args ef eargs;have hargs:=MI hn (m:=c.args.toList) (fun x hx=>by simp[Op.operands,Call.operands,hc];exact .inr (by simpa using hx)) eargs;have hsum:C.sum f m2 args=C.sum f s.mem args:=tJ hargs;rw[hsum];split at h
    ·rename_i L eL;exfalso;split at eL
     ·rw[ZS hargs]at eL;cases eL
     ·cases eL
    split
    ·rename_i L eL;exfalso;split at eL
     ·rw[ZS hargs]at eL;cases eL
     ·cases eL
    split at h
    ·split at h
     ·rename_i ec;have hm:=Bn h;rw[(UM hargs ec).choose_spec.2.2 (by rw[←hm];exact hlen) m2];exact CF h m2
     ·cases h
    ·have h2:=(AI h).2;cases h2
   ·rename_i args ef eargs;have hargs:=MI hn (m:=c.args.toList) (fun x hx=>by simp[Op.operands,Call.operands,hc];exact .inr (by simpa using hx)) eargs;rw[tH (m1:=m2) (m2:=s.mem) hargs];split at h
    ·split at h
     ·rename_i ec;have hm:=Bn h;rw[(UM hargs ec).choose_spec.2.2 (by rw[←hm];exact hlen) m2];exact CF h m2
     ·cases h
    ·cases h
   ·cases h
  |invoke r m=>
   have hn:DA s ctx (Op.call c).operands.toList=true:=by simpa only[DS,hc]using hcalm
   have hlen:mem.length=s.mem.length:=by unfold Ez at hst;rw[hop]at hst;simp only[hc]at hst;exact ak hst
   simp only[hc,Fe,Zm]at h⊢;split at h
   ·rename_i args ef eargs;have hargs:=MI hn (m:=c.args.toList) (fun x hx=>by simp[Op.operands,Call.operands,hc];exact .inr (by simpa using hx)) eargs;rw[aEd (m1:=m2) (m2:=s.mem) hargs];split at h
    ·split at h
     ·rename_i ec;have hm:=Bn h;rw[(UM hargs ec).choose_spec.2.2 (by rw[←hm];exact hlen) m2];exact CF h m2
     ·cases h
    ·cases h
   ·cases h
  |builtin b=>
   cases b with
   |len=>
    simp only[hc,Fe]at h⊢;simp only[Eu,hc]at hs;split at h
    ·rename_i x T ex eT;rw[ex]at hs;simp only at hs;split at h
     ·obtain⟨h1,h2⟩:=AI h;simp only[h1,cond_true];exact CF h2 m2
     ·split at h
      ·rename_i a ea;have hag:=SE ea hs;split at h
       ·cases h
       ·rename_i b lo n;have hb:=hag b rfl;simp only[hb];split at h
        ·exact CF h m2
        ·cases h
       ·simp only[aOG hag];(repeat' split at h)<;>first|(cases h;done)|exact CF h m2
      ·cases h
     ·split at h
      ·exact CF h m2
      ·cases h
     ·cases h
    ·cases h
   |min=>
    simp only[hc,Fe]at h⊢;split at h
    ·split at h
     ·split at h
      ·rename_i hk';rw[if_pos hk'];exact CF h m2
      ·cases h
     ·cases h
    ·cases h
   |max=>
    simp only[hc,Fe]at h⊢;split at h
    ·split at h
     ·split at h
      ·rename_i hk';rw[if_pos hk'];exact CF h m2
      ·cases h
     ·cases h
    ·cases h
   |append=>simp[Ba,hc]at hk
   |copy=>simp[Ba,hc]at hk
   |_=>simp only[hc]at h;cases h
 |index T y z=>
  rw[hop]at h;simp only[Fe,uM]at h⊢;split at h
  ·exact CF h m2
  ·cases h
 |_=>
  rw[hop]at h;simp only[Zn,Fe,Zl,tC]at h⊢;first
   |(cases h;done)
   |((repeat' split at h)<;>first|(cases h;done)|exact CF h m2|(obtain⟨h1,h2⟩:=AI h;simp only[h1,cond_true];first|(cases h2;done)|exact CF h2 m2))
theorem aEs{T:TypeId}{y z:Operand}(hop:o.op=.store T y z){g:Bool}{x:TV}{mem:Ae}(h:Ax C s ctx o=some (.ok g x mem)){m2:Ae}{b:Nat}(hf:Eu s ctx o.op=.wr (some b))(hb:Ac m2 b=Ac s.mem b):
  Ac s.mem b≠.gone/\∃e,mem=s.mem.set b e/\Ax C {s with mem:=m2} ctx o=some (.ok g x (m2.set b e)):=by
 unfold Ax at h⊢;rw[hop]at h hf;rw[hop];simp only[Fe,Zl]at h⊢;simp only[Eu]at hf;split at h
 ·rename_i b' off v ey ez;rw[ey,ez]at hf;simp only[FP.wr.injEq,af]at hf;subst hf;simp only[hb];split at h
  ·rename_i eb;obtain⟨h1,h2⟩:=AI h;simp only[h1,cond_true];split at h2
   ·rename_i cs' ecs;cases h2;exact⟨by rw[eb];simp,_,rfl,rfl⟩
   ·cases h2
  ·cases h
 ·rename_i b' i off v ey ez;rw[ey,ez]at hf;simp only at hf;cases hno:AM v.cells with
  |false=>rw[hno]at hf;simp at hf
  |true=>
   rw[hno]at hf;simp only[cond_true,FP.wr.injEq,af]at hf;subst hf;rw[tN hno]at h⊢;simp only[hb]at h⊢;split at h
   ·rename_i eb;obtain⟨h1,h2⟩:=AI h;simp only[h1,cond_true];split at h2
    ·split at h2
     ·cases h2;exact⟨by rw[eb];simp,_,rfl,rfl⟩
     ·cases h2
    ·cases h2
   ·cases h
 ·cases h
theorem tM{g:Bool}{x:TV}{mem:Ae}(hop:(∃T,o.op=.alloc T)∨∃T y,o.op=.box T y)(h:Ax C s ctx o=some (.ok g x mem)):
  ∃e,mem=s.mem++[e]/\∀m2:Ae,m2.length=s.mem.length->Ax C {s with mem:=m2} ctx o=some (.ok g x (m2++[e])):=by
 unfold Ax at h⊢;rcases hop with⟨T,hop⟩|⟨T,y,hop⟩
 ·rw[hop]at h⊢;simp only at h⊢;split at h
  ·split at h
   ·split at h
    ·rename_i xs exs;cases h;exact⟨_,rfl,fun m2 hm=>by rw[hm]⟩
    ·cases h
   ·cases h
  ·cases h;exact⟨_,rfl,fun m2 hm=>by rw[hm]⟩
  ·cases h
 ·rw[hop]at h⊢;simp only[Zl]at h⊢;split at h
  ·split at h
   ·split at h
    ·rename_i xs exs;cases h;exact⟨_,rfl,fun m2 hm=>by rw[hm]⟩
    ·cases h
   ·cases h
  ·cases h;exact⟨_,rfl,fun m2 hm=>by rw[hm]⟩
  ·cases h
theorem aDv{g:Bool}{x:TV}{mem:Ae}(hcalm:DS s ctx o.op=true∨Ba o.op=2)(hm:ZT o.op s.mem mem=true)(h:Ax C s ctx o=some (.ok g x mem)):
  ∃e,mem=s.mem++[e]/\∀m2,m2.length=s.mem.length->Ax C {s with mem:=m2} ctx o=some (.ok g x (m2++[e])):=by
 cases hop:o.op with
 |call c=>
  rw[hop]at hm;cases hc:c.callee with
  |value fo=>
   simp only[ZT,hc]at hm;have hlen:=ak hm;have hcalm:DS s ctx o.op=true:=hcalm.resolve_right (by rw[hop];simp[Ba,hc]);rw[hop]at hcalm;have hn:DA s ctx (Op.call c).operands.toList=true:=by simpa only[DS,hc]using hcalm
   have hex:∃e,mem=s.mem++[e]/\∀m2,m2.length=s.mem.length->Ax C {s with mem:=m2} ctx o=some (.ok g x (m2++[e])):=by
    unfold Ax at h⊢;rw[hop]at h⊢;simp only[hc,Fe,Zm]at h⊢;split at h
    ·rename_i f caps args ef eargs;have hargs:=MI hn (m:=c.args.toList) (fun x hx=>by simp[Op.operands,Call.operands,hc];exact .inr (by simpa using hx)) eargs;split at h
     ·rename_i L eL;exfalso;split at eL
      ·rw[ZS hargs]at eL;cases eL
      ·cases eL
     split at h
     ·rename_i S eS;have hcaps:caps=[]/\C.sum f s.mem args=some S:=by
       cases caps with
       |nil=>exact⟨rfl,eS⟩
       |cons _ _=>cases eS
      obtain⟨rfl,hS⟩:=hcaps;split at h
      ·rename_i ec;have hmm:=Bn h;obtain⟨l,hl1,hl2,_⟩:=UM hargs ec;have hle:∃e,l=[e]:=by
        rw[hmm,hl1]at hlen;simp only[fh]at hlen;match l,hlen with
        | [e],_=>exact⟨e,rfl⟩
        | [],h=>simp at h
        |_::_::_,h=>simp at h
       obtain⟨e,rfl⟩:=hle;refine⟨e,by rw[hmm,hl1],fun m2 hm2=>?_⟩;have hsum:C.sum f m2 args=some S:=(tJ hargs).trans hS;split
       ·rename_i L eL;exfalso;split at eL
        ·rw[ZS hargs]at eL;cases eL
        ·cases eL
       simp only[hsum];rw[hl2 m2 hm2];exact CF h _
      ·cases h
     ·have h2:=(AI h).2;cases h2
    ·rename_i args ef eargs;have hargs:=MI hn (m:=c.args.toList) (fun x hx=>by simp[Op.operands,Call.operands,hc];exact .inr (by simpa using hx)) eargs;split at h
     ·rename_i S eS;split at h
      ·rename_i ec;have hmm:=Bn h;obtain⟨l,hl1,hl2,_⟩:=UM hargs ec;have hle:∃e,l=[e]:=by
        rw[hmm,hl1]at hlen;simp only[fh]at hlen;match l,hlen with
        | [e],_=>exact⟨e,rfl⟩
        | [],h=>simp at h
        |_::_::_,h=>simp at h
       obtain⟨e,rfl⟩:=hle;refine⟨e,by rw[hmm,hl1],fun m2 hm2=>?_⟩;rw[tH (m1:=m2) (m2:=s.mem) hargs,eS];simp only;rw[hl2 m2 hm2];exact CF h _
      ·cases h
     ·cases h
    ·cases h
   exact hex
  |invoke r m=>simp only[ZT,hc]at hm;cases hm
  |builtin b=>simp only[ZT,hc]at hm;cases hm
 |_=>rw[hop]at hm;cases hm
theorem aEa{m m2:Ae}{f:FuncId}{b:Nat}{r:List SV}(hb:Ac m2 b=Ac m b):∀{l:List (FuncId×SumL)},J3 l f m2 (.one (.own b)::r)=J3 l f m (.one (.own b)::r)
 | []=>rfl
 |(g,L)::rest=>by
  have hf:SX m2 L.lend (.one (.own b)::r)=SX m L.lend (.one (.own b)::r):=by
   simp only[SX]
   cases L.lend with
   |win e=>simp only[gQ,hb]
   |ref τ=>rfl
  simp only[J3,hf,aEa hb (l:=rest)]
theorem aMZ{m m2:Ae}{b:Nat}{r:List SV}(hb:Ac m2 b=Ac m b)(h:∀z∈r,AM z.cells=true){sg:Ab}:ML m2 sg (.one (.own b)::r)=ML m sg (.one (.own b)::r):=by
 cases sg with
 |nil=>rfl
 |cons p sg=>
  obtain⟨a,τ⟩:=p;simp only[ML,hb,tK (m1:=m2) (m2:=m) h]
theorem aEf{m m2:Ae}{f:FuncId}{b:Nat}{r:List SV}(hb:Ac m2 b=Ac m b)(h:∀z∈r,AM z.cells=true):∀{l:List (FuncId×Sum)},Il l f m2 (.one (.own b)::r)=Il l f m (.one (.own b)::r)
 | []=>rfl
 |(g,S)::rest=>by simp only[Il,aMZ hb h,aEf hb h (l:=rest)]
theorem aDw{b:Nat}{g:Bool}{x:TV}{mem:Ae}(ho1:Z1 C s ctx o.op=some b)(hl:mem.length=s.mem.length)(h:Ax C s ctx o=some (.ok g x mem)):
  Ac s.mem b≠.gone/\mem=s.mem.set b .gone/\∀m2,Ac m2 b=Ac s.mem b->Ax C {s with mem:=m2} ctx o=some (.ok g x (m2.set b .gone)):=by
 cases hop:o.op with
 |call c=>
  rw[hop]at ho1;cases hc:c.callee with
  |value fo=>
   simp only[Z1,hc]at ho1;split at ho1
   ·rename_i f b' r ef ea;split at ho1
    ·rename_i S eL eS;split at ho1
     ·rename_i e sg hins;obtain⟨hall,ho1⟩:=AI ho1;cases ho1;have hr:∀z∈r,AM z.cells=true:=by simpa using hall
      unfold Ax at h⊢;rw[hop]at h⊢;simp only[hc,Fe,Zm,ef,ea]at h⊢;have hL:(match o.guard with|none=>C.lsum f s.mem (.one (.own b)::r)|_=>none)=none:=by
       split
       ·exact eL
       ·rfl
      have step1:∀m2,Ac m2 b=Ac s.mem b->C.lsum f m2 (.one (.own b)::r)=none/\C.sum f m2 (.one (.own b)::r)=some S:=fun m2 hb=>⟨(aEa hb).trans eL,(aEf hb hr).trans eS⟩
      split at h
      ·rename_i L e';exfalso;split at e'
       ·rw[eL]at e';cases e'
       ·cases e'
      simp only[eS]at h;cases S with
      |mk ins outs pre F=>
      simp only at hins;subst hins;split at h;rotate_left
      ·cases h
      rename_i g' x' m' ec;have hmm:=Bn h;subst hmm;unfold FF at ec;simp only[Be,J9,cond_true]at ec;have fr:∀m2,(Be m2 sg r).2=m2/\(Be m2 sg r).1=(Be s.mem sg r).1:=fun m2=>⟨(Zw hr).1,(S3 hr).1⟩
      have hr':∀z∈(Be s.mem sg r).1,AM z.cells=true:=(S3 (mem:=s.mem) (m2:=s.mem) hr).2;rw[(fr s.mem).1]at ec;simp only[CH]at ec;have key:∀(u:List (Aa e)) (m1:Ae),IB s.mem true (.slice e) (.one (.own b))=some (u,m1)->m1=s.mem.set b .gone/\Ac s.mem b≠.gone/\∀m2,Ac m2 b=Ac s.mem b->IB m2 true (.slice e) (.one (.own b))=some (u,m2.set b .gone):=fun u m1 h=>by
       simp only[IB,cond_true]at h⊢;cases eb:Ac s.mem b with
       |arr τ' xs=>
        rw[eb]at h;simp only at h;split at h
        ·rename_i xs' ec;cases h;exact⟨rfl,by simp,fun m2 hm=>by rw[hm];simp only[ec]⟩
        ·cases h
       |acc τ' xs=>
        rw[eb]at h;simp only at h;split at h
        ·rename_i xs' ec;cases h;exact⟨rfl,by simp,fun m2 hm=>by rw[hm];simp only[ec]⟩
        ·cases h
       |_=>rw[eb]at h;cases h
      split at ec
      ·rename_i zm ez;obtain⟨z,m3⟩:=zm;simp only at ec;split at ez
       ·rename_i u m1 e1;obtain⟨q1,q2,q3⟩:=key u m1 e1;subst q1;split at ez
        ·rename_i v m4 e2;cases ez;obtain⟨w1,w2⟩:=aU hr' e2;subst w1;split at ec
         ·rename_i vs m5 ev;cases ec;have hsame:mem.length=(s.mem.set b .gone).length:=by rw[hl];simp
          have gs:=aE8 ev hsame;refine⟨q2,gs,fun m2 hb=>?_⟩;obtain⟨s1,s2⟩:=step1 m2 hb;split
          ·rename_i L e';exfalso;split at e'
           ·rw[s1]at e';cases e'
           ·cases e'
          simp only[s2,FF,Be,J9,cond_true];rw[(fr m2).1,(fr m2).2];simp only[CH];rw[q3 m2 hb];simp only;rw[w2 (m2.set b .gone)];simp only;rw[iC ev hsame (m2.set b .gone)];simp only;exact CF h _
         ·cases ec
        ·cases ez
       ·cases ez
      ·cases ec
     ·cases ho1
    ·cases ho1
   ·cases ho1
  |invoke r m=>simp only[Z1,hc]at ho1;cases ho1
  |builtin b=>simp only[Z1,hc]at ho1;cases ho1
 |_=>rw[hop]at ho1;cases ho1
end Vx
namespace Vx
open Go Go.RowKit
variable {C:Cfg}
structure Trace (C:Cfg) (ops:List Oper) (s0:St) (S:Nat->St) (xs:Nat->TV) (fs:Nat->FP):Prop where
 zero:S 0=s0
 step:∀j o,ops[j]? = some o->SS C ops o (S j)=some (fs j,true,xs j,(S (j+1)).mem)/\S (j+1)=Ic ops o (S j) (xs j) (S (j+1)).mem/\∀d,o.dst=some d->d<(S j).n
theorem xF{ops:List Oper}:∀(l:List Oper) (s s':St) (fps:List FP) (gs:List Bool),Rt C ops l s=some (fps,gs,s')->(∀g∈gs,g=true) ->
  ∃(S:Nat->St) (xs:Nat->TV) (fs:Nat->FP),(∀j o,l[j]? = some o->fps[j]? = some (fs j))/\S 0=s/\S l.length=s'/\∀j o,l[j]? = some o->SS C ops o (S j)=some (fs j,true,xs j,(S (j+1)).mem)/\S (j+1)=Ic ops o (S j) (xs j) (S (j+1)).mem/\∀d,o.dst=some d->d<(S j).n
 | [],s,s',fps,gs,h,_=>by
  simp only[Rt]at h;cases h
  exact⟨fun _=>s,fun _=>.un,fun _=>.pure,fun j o hj=>by simp at hj,rfl,rfl,fun j o hj=>by simp at hj⟩
 |o::l,s,s',fps,gs,h,hg=>by
  simp only[Rt]at h
  split at h
  ·rename_i fp g x mem e
   obtain⟨hb,h⟩:=AI h
   split at h
   ·rename_i fps' gs' s'' e2
    cases h
    obtain⟨S,xs,fs,h0,h1,h2,h3⟩:=xF l _ _ _ _ e2 fun g hgg=>hg g (by simp[hgg])
    have hgt:g=true:=hg g (by simp)
    subst hgt
    have hmem:(S 0).mem=mem:=by
     rw[h1];unfold Ic;split
     ·rfl
     ·split
      ·rfl
      ·split<;>rfl
    refine⟨fun j=>match j with|0=>s|j+1=>S j,fun j=>match j with|0=>x|j+1=>xs j,fun j=>match j with|0=>fp|j+1=>fs j,fun j q hj=>?_,rfl,by simpa using h2,fun j q hj=>?_⟩
    ·cases j with
     |zero=>rfl
     |succ j=>simpa using h0 j q (by simpa using hj)
    cases j with
    |zero=>
     simp at hj;subst hj
     refine⟨by simp only[hmem];exact e,by simp only[hmem];exact h1,fun d hd=>?_⟩
     rw[hd]at hb
     simpa using hb
    |succ j=>exact h3 j q (by simpa using hj)
   ·cases h
  ·cases h
theorem aDg{ops:List Oper}{o:Oper}{s:St}{x:TV}{mem:Ae}:(Ic ops o s x mem).n=s.n/\(Ic ops o s x mem).m0=s.m0:=by
 unfold Ic;split
 ·exact⟨rfl,rfl⟩
 ·split
  ·exact⟨rfl,rfl⟩
  ·split<;>exact⟨rfl,rfl⟩
theorem MX:∀{l:List Nat} {n:Nat},He n l=true↔n∈l
 | [],n=>by simp[He]
 |m::r,n=>by
  simp only[He,dl,MX,cx]
  constructor
  ·rintro (h|h)
   ·exact .inl (ak h).symm
   ·exact .inr h
  ·rintro (h|h)
   ·subst h;exact .inl (dq _)
   ·exact .inr h
theorem gM{o:Oper}{l:List Nat}:MG o l=true↔∃d,o.dst=some d/\d∈l:=by
 unfold MG;cases o.dst with
 |none=>simp
 |some d=>simp[MX]
theorem aD1{x y:Oper}:gN x y=true↔∃d,x.dst=some d/\y.dst=some d:=by
 unfold gN;cases x.dst<;>cases y.dst<;>simp;rename_i a b;exact⟨fun h=>h.symm,fun h=>h.symm⟩
theorem Y6:∀{l:List Nat} {j:Nat},UH j l=true->∀i∈l,i<j
 | [],_,_,i,h=>by simp at h
 |m::r,j,h,i,hi=>by
  simp only[UH,ai]at h
  rcases cx.1 hi with rfl|hi
  ·simpa using h.1
  ·exact Y6 h.2 i hi
theorem aGr{ops:List Oper}{fps:List FP}{A:List (List Nat)}{j:Nat}{y:Oper}:∀(l:List Oper) (k:Nat),VP ops fps A j y k l=true->∀i x,l[i]? = some x->k+i<j->vJ ops fps A (k+i) j x y=true
 | [],_,_,i,x,h,_=>by simp at h
 |z::r,k,h,i,x,hi,hij=>by
  simp only[VP]at h
  have hk:Nat.blt k j=true:=by simp;omega
  rw[hk]at h
  simp only[cond_true,ai]at h
  cases i with
  |zero=>simp at hi;subst hi;exact h.1
  |succ i=>
   have:=aGr r (k+1) h.2 i x (by simpa using hi) (by omega)
   rw[show k+(i+1)=k+1+i by omega]
   exact this
theorem aGs{ops:List Oper}{fps:List FP}{A:List (List Nat)}:∀(l:List Oper) (k:Nat),iK ops fps A k l=true->∀j y,l[j]? = some y ->
  (∀i∈BS y,i<k+j)/\Ba y.op<3/\MG y (looks ops y)=false/\VP ops fps A (k+j) y 0 ops=true/\∀g p,y.guard=some (g,p)->g<k+j
 | [],_,_,j,y,h=>by simp at h
 |z::r,k,h,j,y,hj=>by
  simp only[iK,ai,dm]at h
  obtain⟨⟨⟨⟨⟨h1,h2⟩,h3⟩,h4⟩,h6⟩,h5⟩:=h
  cases j with
  |zero=>
   simp at hj;subst hj
   refine⟨Y6 h1,by simpa using h2,h3,h4,fun g p e=>?_⟩
   rw[e]at h6
   simpa using h6
  |succ j=>
   have:=aGs r (k+1) h5 j y (by simpa using hj)
   rw[show k+(j+1)=k+1+j by omega]
   exact this
theorem aEm{α β:Type}{f g:α->List β}:∀{l:List α},(∀x∈l,f x=g x)->l.flatMap f=l.flatMap g
 | [],_=>rfl
 |x::l,h=>by
  rw[pi,pi,h x (by simp),aEm fun y hy=>h y (by simp[hy])]
theorem r5:∀(l:List Oper) (acc:List (List Nat)) (i:Nat),i<acc.length->(Gp acc l)[i]? = acc[i]?
 | [],acc,i,_=>rfl
 |o::r,acc,i,h=>by
  simp only[Gp]
  rw[r5 r _ i (by simp;omega),co h]
theorem aDc:∀(l:List Oper) (acc:List (List Nat)) (j:Nat) (o:Oper),l[j]? = some o->∀BM,BM=Gp acc l->(∀i∈BS o,i<acc.length+j) ->
  BM[acc.length+j]? = some ((BS o).flatMap fun i=>i::(BM[i]?).getD [])
 | [],_,_,_,h,_,_,_=>by simp at h
 |z::r,acc,0,o,h,BM,hf,hp=>by
  simp at h;subst h
  subst hf
  simp only[Gp]
  rw[Nat.add_zero,r5 r _ acc.length (by simp)]
  rw[cj (cg _)]
  simp only[Nat.sub_self,fy,af]
  refine aEm fun i hi=>?_
  have:=hp i hi
  rw[r5 r _ i (by simp;omega),co (by omega)]
 |z::r,acc,j+1,o,h,BM,hf,hp=>by
  simp only[Gp]at hf
  have:=aDc r _ j o (by simpa using h) BM hf (fun i hi=>by have:=hp i hi;simp;omega)
  simp only[fh,gk,je]at this
  rw[show acc.length+(j+1)=acc.length+(0+1)+j by omega]
  exact this
end Vx
namespace Vx
open Go Go.RowKit
variable {C:Cfg}
structure Reg (C:Cfg) (ops:List Oper) (s0:St) (S:Nat->St) (xs:Nat->TV) (fs:Nat->FP):Prop where
 ok:∃fps:List FP,VO ops fps=true/\∀j o,ops[j]? = some o->fps[j]? = some (fs j)
 tr:Trace C ops s0 S xs fs
 cs0:s0.cs=[]
section
variable {ops:List Oper}{s0:St}{S:Nat->St}{xs:Nat->TV}{fs:Nat->FP}
def JV(ops:List Oper)(j:Nat):List Nat:=((Gp [] ops)[j]?).getD []
theorem Reg.row(h:Reg C ops s0 S xs fs){j:Nat}{y:Oper}(hj:ops[j]? = some y):
  (∀i∈BS y,i<j)/\Ba y.op<3/\MG y (looks ops y)=false/\(∃fps:List FP,VP ops fps (Gp [] ops) j y 0 ops=true/\∀j o,ops[j]? = some o->fps[j]? = some (fs j))/\∀g p,y.guard=some (g,p)->g<j:=by
 obtain⟨fps,h1,h2⟩:=h.ok;have:=aGs ops 0 h1 j y hj;simp only[dw]at this;exact⟨this.1,this.2.1,this.2.2.1,⟨fps,this.2.2.2.1,h2⟩,this.2.2.2.2⟩
theorem Reg.pair(h:Reg C ops s0 S xs fs){i j:Nat}{x y:Oper}(hi:ops[i]? = some x)(hj:ops[j]? = some y)(hij:i<j):
  gN x y=false/\(i∈JV ops j∨(MG x (looks ops y)=false/\MG y (looks ops x)=false/\C3 (fs i) (fs j)=true)):=by
 obtain⟨fps,h0,hf⟩:=(h.row hj).2.2.2.1;have h1:=aGr ops 0 h0 i x hi (by omega);rw[dw]at h1;simp only[vJ,hf i x hi,hf j y hj,mh,ai,dl,dm]at h1;refine⟨h1.1,?_⟩;rcases h1.2 with h2|h2
 ·exact .inl (MX.1 h2)
 ·exact .inr ⟨h2.1.1,h2.1.2,h2.2⟩
theorem Reg.anc_eq(h:Reg C ops s0 S xs fs){j:Nat}{y:Oper}(hj:ops[j]? = some y):JV ops j=(BS y).flatMap fun i=>i::JV ops i:=by
 have:=aDc ops [] j y hj _ rfl (by simpa using(h.row hj).1);simp only[je,dw]at this;unfold JV;rw[this];rfl
theorem Reg.distinct(h:Reg C ops s0 S xs fs){i j:Nat}{x y:Oper}{d:Nat}(hi:ops[i]? = some x)(hj:ops[j]? = some y)(hx:x.dst=some d)(hy:y.dst=some d):i=j:=by
 rcases Nat.lt_trichotomy i j with hlt|heq|hgt
 ·have:=(h.pair hi hj hlt).1;rw[aD1.2 ⟨d,hx,hy⟩]at this;cases this
 ·exact heq
 ·have:=(h.pair hj hi hgt).1;rw[aD1.2 ⟨d,hy,hx⟩]at this;cases this
theorem Reg.parts(h:Reg C ops s0 S xs fs):∀j,j<=ops.length->(S j).n=s0.n/\(S j).m0=s0.m0
 |0,_=>by rw[h.tr.zero];exact⟨rfl,rfl⟩
 |j+1,hj=>by
  obtain⟨_,h2,_⟩:=h.tr.step j ops[j] (bc (by omega))
  have ih:=h.parts j (by omega)
  rw[h2]
  exact⟨aDg.1.trans ih.1,aDg.2.trans ih.2⟩
theorem aMY{o:Oper}{s:St}{g:Bool}{x:TV}{mem:Ae}{gi:Nat}{p:Bool}{fp:FP}(hg:o.guard=some (gi,p))(h:SS C ops o s=some (fp,g,x,mem)):∃t d,EZ ops gi=some t/\o.dst=some d:=by
 unfold SS at h;rw[hg]at h;simp only at h;split at h
 ·rename_i t d e1 e2;exact⟨t,d,e1,e2⟩
 ·cases h
theorem Reg.tm_old(h:Reg C ops s0 S xs fs):∀j,j<=ops.length->∀t,(∀i o,i<j->ops[i]? = some o->o.dst≠some t)->AU (S j).tm t=AU s0.tm t
 |0,_,t,_=>by rw[h.tr.zero]
 |j+1,hj,t,ht=>by
  have hg:ops[j]? = some ops[j]:=bc (by omega)
  obtain⟨_,h2,_⟩:=h.tr.step j _ hg
  have ih:=h.tm_old j (by omega) t fun i o hi=>ht i o (by omega)
  rw[h2,←ih]
  have hne:=ht j _ (by omega) hg
  unfold Ic
  split
  ·rfl
  ·rename_i d ed
   have hdt:Nat.beq d t=false:=by
    cases hb:Nat.beq d t with
    |false=>rfl
    |true=>have:=ak hb;subst this;exact absurd ed hne
   split
   ·simp only[AU,hdt,cond_false]
   ·split
    ·simp only[AU,hdt,cond_false]
    ·rfl
theorem Reg.tm_new(h:Reg C ops s0 S xs fs){i:Nat}{o:Oper}{t:Nat}(hi:ops[i]? = some o)(ht:o.dst=some t):∀j,i<j->j<=ops.length->AU (S j).tm t=(match o.guard with|none=>xs i|some _=>.un)
 |0,hij,_=>by omega
 |j+1,hij,hj=>by
  have hg:ops[j]? = some ops[j]:=bc (by omega)
  obtain⟨h1,h2,_⟩:=h.tr.step j _ hg
  by_cases hji:j=i
  ·subst hji
   rw[hg]at hi
   cases hi
   rw[h2]
   unfold Ic
   simp only[ht]
   cases hgu:(ops[j]).guard with
   |none=>simp[AU,dq]
   |some gp=>
    obtain⟨gi,p⟩:=gp
    obtain⟨t',d,e1,_⟩:=aMY hgu h1
    simp only[e1]
    simp[AU,dq]
  ·have ih:=h.tm_new hi ht j (by omega) (by omega)
   rw[h2,←ih]
   have hne:ops[j].dst≠some t:=fun e=>hji (h.distinct hg hi e ht)
   unfold Ic
   split
   ·rfl
   ·rename_i d ed
    have hdt:Nat.beq d t=false:=by
     cases hb:Nat.beq d t with
     |false=>rfl
     |true=>have:=ak hb;subst this;exact absurd ed hne
    split
    ·simp only[AU,hdt,cond_false]
    ·split
     ·simp only[AU,hdt,cond_false]
     ·rfl
theorem Reg.cs_of(h:Reg C ops s0 S xs fs):∀j,j<=ops.length->∀d g p x,(d,g,p,x)∈(S j).cs->∃i o gi,i<j/\ops[i]? = some o/\o.dst=some d/\o.guard=some (gi,p)/\EZ ops gi=some g/\x=xs i
 |0,_,d,g,p,x,hm=>by rw[h.tr.zero,h.cs0]at hm;simp at hm
 |j+1,hj,d,g,p,x,hm=>by
  have hg:ops[j]? = some ops[j]:=bc (by omega)
  obtain⟨h1,h2,_⟩:=h.tr.step j _ hg
  have ih:=h.cs_of j (by omega) d g p x
  have old:(d,g,p,x)∈(S j).cs->∃i o gi,i<j+1/\ops[i]? = some o/\o.dst=some d/\o.guard=some (gi,p)/\EZ ops gi=some g/\x=xs i:=fun hm=>by
   obtain⟨i,o,gi,q1,q2⟩:=ih hm;exact⟨i,o,gi,by omega,q2⟩
  rw[h2]at hm
  unfold Ic at hm
  split at hm
  ·exact old hm
  ·rename_i d' ed
   split at hm
   ·exact old hm
   ·rename_i gi p' eg
    split at hm
    ·rename_i t et
     rcases cx.1 hm with hm|hm
     ·cases hm
      exact⟨j,_,gi,by omega,hg,ed,eg,et,rfl⟩
     ·exact old hm
    ·exact old hm
def Wr:FP->Nat->Prop
 |.wr none,_=>True
 |.wr (some c),b=>c=b
 |.mk c,b=>c=b
 |_,_=>False
def D3:FP->Prop
 |.wr _=>False
 |.mk _=>False
 |_=>True
def DY:FP->Prop
 |.wr none=>True
 |.mk _=>True
 |_=>False
theorem D3.not_wr{x:FP}(h:D3 x)(b:Nat):¬Wr x b:=by cases x<;>simp_all [D3,Wr]
theorem D3.not_len{x:FP}(h:D3 x):¬DY x:=by cases x<;>simp_all [D3,DY]
theorem D3.ne_wr{x:FP}(h:D3 x)(q:Option Nat):x≠.wr q:=fun e=>by rw[e]at h;exact h
theorem D3.ne_mk{x:FP}(h:D3 x)(q:Nat):x≠.mk q:=fun e=>by rw[e]at h;exact h
theorem UT{s:St}{ctx:List (Nat×Bool)}{op:Op}(hk:Ba op<=1):D3 (Eu s ctx op):=by
 have addr:∀y,D3 (MM s ctx y):=fun y=>by
  unfold MM;(repeat' split)<;>simp[D3]
 cases op<;>simp only[Eu,Ba]at hk⊢<;>first|exact addr _|(simp[D3];done)|omega|skip
 (repeat' split)<;>first|exact addr _|simp[D3]
theorem aDp{mem:Ae}{b c:Nat}{e:Blk}(h:c≠b):Ac (mem.set c e) b=Ac mem b:=by
 unfold Ac;rw[List.getElem?_set_ne h]
theorem Reg.mem_cases(h:Reg C ops s0 S xs fs){j:Nat}{o:Oper}(hj:ops[j]? = some o):
  (Ba o.op<=1/\(S (j+1)).mem=(S j).mem/\D3 (fs j))∨(o.guard=none/\(fs j=.wr none∨(∃c e,fs j=.wr (some c)/\(S (j+1)).mem=(S j).mem.set c e/\Ac (S j).mem c≠.gone)∨∃e,fs j=.mk (S j).mem.length/\(S (j+1)).mem=(S j).mem++[e])):=by
 obtain⟨h1,_,_⟩:=h.tr.step j o hj;have hk3:=(h.row hj).2.1;unfold SS at h1;simp only at h1;split at h1
 ·rename_i hg;cases hb:(DS (De ops o (S j)) [] o.op||Nat.beq (Ba o.op) 2)with
  |false=>
   rw[hb]at h1;simp only[cond_false]at h1;split at h1
   ·rename_i b eo;split at h1
    ·rename_i g x mem e;obtain⟨hl,h1⟩:=AI h1;simp only[af,dh]at h1;obtain⟨hfs,_,_,hmem⟩:=h1;obtain⟨q1,q2,_⟩:=aDw eo (ak hl) e;exact .inr ⟨hg,.inr (.inl ⟨b,.gone,hfs.symm,by rw[←hmem];exact q2,q1⟩)⟩
    ·cases h1
   ·cases h1
  |true=>
  rw[hb]at h1;simp only[cond_true]at h1;split at h1
  ·rename_i g x mem e;cases hst:Ez o.op (De ops o (S j)).mem mem with
   |false=>
    rw[hst]at h1;obtain⟨hmk,h1⟩:=AI h1;simp only[af,dh]at h1;obtain⟨hfs,_,_,hmem⟩:=h1;have hb':DS (De ops o (S j)) [] o.op=true∨Ba o.op=2:=by
     simp only[dl]at hb;exact hb.imp id fun h=>ak h
    obtain⟨e',he,_⟩:=aDv hb' hmk e;exact .inr ⟨hg,.inr (.inr ⟨e',hfs.symm,by rw[←hmem];exact he⟩)⟩
   |true=>
   rw[hst]at h1;simp only[cond_true,af,dh]at h1;obtain⟨hfs,_,_,hmem⟩:=h1;by_cases hk:Ba o.op<=1
   ·left;have hb:DS (De ops o (S j)) [] o.op=true:=by
     simp only[dl]at hb;rcases hb with hb|hb
     ·exact hb
     ·have:=ak hb;omega
    exact⟨hk,by rw[←hmem];exact uU hb hk hst e,by rw[←hfs];exact UT hk⟩
   ·right;refine⟨hg,?_⟩;rw[←hfs,←hmem];cases hop:o.op with
    |store T y z=>
     cases hf:Eu (De ops o (S j)) [] (.store T y z)with
     |wr q=>
      cases q with
      |none=>exact .inl rfl
      |some c=>
       obtain⟨hng,e',he,_⟩:=aEs hop e (m2:=(De ops o (S j)).mem) (b:=c) (by rw[hop];exact hf) rfl;exact .inr (.inl ⟨c,e',rfl,he,hng⟩)
     |_=>simp only[Eu]at hf;(repeat' split at hf)<;>first|cases hf|(cases hq:AM _<;>rw[hq]at hf<;>cases hf)
    |alloc T=>
     obtain⟨e',he,_⟩:=tM (.inl ⟨T,hop⟩) e;exact .inr (.inr ⟨e',rfl,he⟩)
    |box T y=>
     obtain⟨e',he,_⟩:=tM (.inr ⟨T,y,hop⟩) e;exact .inr (.inr ⟨e',rfl,he⟩)
    |call c=>
     exfalso;rw[hop]at hk hk3;simp only[Ba]at hk hk3;generalize hz:c.callee=z at hk hk3;cases z with
     |value f=>simp at hk
     |invoke r m=>simp at hk
     |builtin b=>cases b<;>simp at hk hk3
    |_=>exfalso;rw[hop]at hk hk3;simp only[Ba]at hk hk3;omega
  ·cases h1
 ·split at h1
  ·obtain⟨hb,h1⟩:=AI h1;simp only[ai]at hb;split at h1
   ·rename_i e;obtain⟨hst,h1⟩:=AI h1;simp only[af,dh]at h1;left;have hk:Ba o.op<=1:=by
     have hl:=hb.1.1;cases hop:o.op<;>rw[hop]at hl hk3<;>simp only[MT,Ba]at hl hk3⊢<;>first|omega|cases hl|skip
     split at hl<;>rename_i hc<;>first|cases hl|(split<;>first|omega|skip)
     all_goals (split at hk3<;>first|omega|simp_all)
    exact⟨hk,by rw[←h1.2.2.2];exact uU hb.2 hk hst e,by rw[←h1.1];exact UT hk⟩
   ·cases h1
  ·cases h1
end
end Vx
end
