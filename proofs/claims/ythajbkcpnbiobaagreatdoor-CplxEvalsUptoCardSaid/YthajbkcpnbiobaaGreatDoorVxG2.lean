/- Part 2 of the proof. What is proved: symbolic execution of the functions, proved sound; what each function of the program computes, and that every run ends with it; what these functions compute, in plain numbers. Conditions: each theorem bears its own. -/
import Derived.Test.YthajbkcpnbiobaaGreatDoorVxG1
set_option linter.all false
set_option exponentiation.threshold 1000000
noncomputable section
open Array renaming getD_eq_getD_getElem?->fi,getElem?_append->oq,size_append->qf,toList_inj->gy
open Bool renaming and_eq_true->ar,false_eq_true->px,not_eq_true'->ff,or_eq_true->fh
open Go.Builtin renaming append_->jx,copy_->oa,firstCells->jl,growBy->rb,len_->nl,nextslicecap->lm,zeroCells->nu
open Go.IntKind renaming bits->ji,max->mi,min->nd,signed->jr
open Go.Program renaming bytesOf->qu
open Go.Region renaming wanted->ig
open Go.Result renaming andThen->pi,andThen_ok->cd
open Go.Sem renaming run_bind->cz,run_pure->ej
open Go.Value renaming int->mz,pointer->jp
open Go.Value.slice renaming injEq->nw
open Int renaming le_refl->lc,le_trans->mm,mul_comm->om,mul_le_mul_of_nonneg_left->mr,natCast_add->ng,natCast_mul->kl
open List renaming all_eq_true->ku,append_assoc->fy,append_nil->du,drop_of_length_le->jz,eq_nil_of_length_eq_zero->co,getD_eq_getElem?_getD->aw,getElem?_append_left->cw,getElem?_append_right->cm,getElem?_cons_succ->ip,getElem?_cons_zero->gv,getElem?_drop->fe,getElem?_eq_getElem->bw,getElem?_eq_some_iff->bp,getElem?_replicate->me,getElem?_take->mc,getElem?_take_of_lt->di,getElem?_toArray->gq,getElem_mem->jd,length_append->fc,length_take->gz,map_cons->gg,map_nil->js,mem_append->dt,mem_cons->dq,mem_cons_of_mem->fw,mem_map->ly,nodup_append->ko,nodup_nil->jt,replicate->bd,size_toArray->qg,take->lb,take_length->dw,take_of_length_le->de
open Nat renaming add_mul->cu,beq_refl->fg,eq_of_beq_eq_true->av,eq_zero_or_pos->cg,le_refl->ci,le_total->ql,le_trans->gb,lt_of_le_of_lt->bv,lt_of_lt_of_le->az,lt_or_ge->bc,min_eq_left->ij,min_eq_right->lu,min_le_left->mf,min_le_right->lr,mod_lt->cn,mul_le_mul_right->bh,succ_mul->ks,zero_add->dj,zero_le->dv
open Option renaming map_none->md,map_some->kj
open Option.some renaming inj->ky,injEq->ap
open Prod.mk renaming injEq->cr
namespace Vx
open Go Go.RowKit
variable {C:Cfg}{base:Base}{S0:Nat->Prop}{σ:Sit}{s:St}{a:Act}{ctx:List (Nat×Bool)}{o:Oper}{x:TV}{mem':Ae}
theorem gN{mem:Ae}{c c':SC}{m:Ae}(h:Do mem c=(c',m))(b:Nat):c'≠.own b:=by
 unfold Do at h;split at h
 ·split at h<;>(cases h;simp)
 ·split at h<;>(cases h;simp)
 ·rename_i hn;cases h;intro e;exact hn b e
theorem Wc{τ:Shape}{c:SC}{y:Value}{xs:List (Ab τ)}(hc:Aw σ c y)(hn:∀b,c≠.own b)(h:HU σ.mem τ c=some xs):AJ σ.w σ.S (.slice τ) xs [y]:=by
 unfold HU at h;split at h
 ·exact aDf h hc
 ·cases h;obtain⟨rfl,_⟩:=hc;exact uY τ
 ·exact absurd rfl (hn _)
 ·cases h
theorem bIe{τ:Shape}{y:Value}{xs:List (Ab τ)}(h:AJ σ.w σ.S (.slice τ) xs [y]):∃A c,y=.slice A xs.length c/\xs.length<=c/\c<BU:=by
 obtain⟨A,c,h1,h2,h3,_⟩:=h;cases h1;exact⟨A,c,rfl,h2,h3⟩
theorem bA9{c:SC}{y:Value}{n:Nat}(hc:Aw σ c y)(hns:∀str,c≠.v (.string str))(h:lenOf σ.mem c=some n):∃A k,y=.slice A n k:=by
 unfold lenOf at h;split at h
 ·cases h;obtain⟨A,k,h1,_⟩:=hc;cases h1;exact⟨A,k,rfl⟩
 ·cases h;obtain⟨rfl,_⟩:=hc;exact⟨none,0,rfl⟩
 ·exact absurd rfl (hns _)
 ·obtain⟨_,_,hm⟩:=hc;split at h
  ·rename_i e;cases h;rw[e]at hm;obtain⟨r,_,rfl⟩:=hm;exact⟨_,_,rfl⟩
  ·rename_i e;cases h;rw[e]at hm;exact⟨_,_,hm⟩
  ·rename_i e;cases h;rw[e]at hm;obtain⟨A,k,h1,_⟩:=hm;cases h1;exact⟨A,k,rfl⟩
  ·cases h
 ·cases h
theorem bA8(ho:Ok base S0 σ){c:SC}{y:Value}{n:Nat}(hc:Aw σ c y)(h:lenOf σ.mem c=some n):n<BU:=by
 unfold lenOf at h;split at h
 ·cases h;obtain⟨A,k,h1,h2,h3,_⟩:=hc;exact bv h2 h3
 ·cases h;unfold BU;omega
 ·cases h;exact hc.2
 ·rename_i b;obtain⟨_,_,hm⟩:=hc;have he:=ho.ent b;unfold AE at he;split at h
  ·rename_i e;cases h;rw[e]at he;exact bv he.1 he.2.1
  ·rename_i e;cases h;rw[e]at he;exact bv he.1 he.2.1
  ·rename_i e;cases h;rw[e]at hm;obtain⟨A,k,h1,h2,h3,_⟩:=hm;exact bv h2 h3
  ·cases h
 ·cases h
theorem AJ.cut{w:World}{S:Nat->Prop}{τ:Shape}{xs:List (Ab τ)}{A:Option Addr}{c l h:Nat}(hd:AJ w S (.slice τ) xs [.slice A xs.length c])(h1:l<=h)(h2:h<=xs.length)(hc:xs.length<=c)(hlim:c<BU):
  AJ w S (.slice τ) ((xs.take h).drop l) [.slice (if c=l then A else A.map (·.add (l*τ.width))) (h-l) (c-l)]:=by
 obtain⟨A',c',e,_,_,h4⟩:=hd;cases e;have hlen:((xs.take h).drop l).length=h-l:=by simp;omega
 refine⟨_,c-l,by rw[hlen],by omega,by omega,fun hne=>?_⟩;have hlt:l<h:=by
  rcases bc l h with h' | h'
  ·exact h'
  ·exact absurd (co (by omega)) hne
 have hxs:xs≠[]:=by intro e;subst e;simp at h2;omega
 obtain⟨r,o,vs,T,fz,e1,e2,e3,e4⟩:=h4 hxs;refine⟨r,o+l*τ.width,vs,T,fz,?_,e2,e3,fun i x hi=>?_⟩
 ·rw[ag (by omega),e1];simp[LA]
 ·rw[fe,mc]at hi;split at hi
  ·obtain⟨ds,d1,d2⟩:=e4 _ _ hi;refine⟨ds,d1,fun j d hj=>?_⟩;have:=d2 j d hj;rw[cu]at this;rw[show o+l*τ.width+i*τ.width+j=o+(l*τ.width+i*τ.width)+j by omega];exact this
  ·cases hi
theorem aZ8{P:Program}{e:TypeId}{τ:Shape}(eτ:CD P e=some τ):∃i,P.info? e=some i:=by
 have:PQ P 12 e=some τ:=by
  unfold CD at eτ;split at eτ
  ·rename_i τ' e';cases hb:Nat.beq (P.cellsOf e) τ'.width with
   |false=>rw[hb]at eτ;cases eτ
   |true=>rw[hb]at eτ;cases eτ;exact e'
  ·cases eτ
 unfold PQ at this;cases hu:P.underlying e with
 |none=>rw[hu]at this;cases this
 |some d=>exact iC hu
theorem aEW{T e:TypeId}{τ:Shape}{y:Operand}{lo hi:Option Operand}(hr:RelT σ s a)(hx:BH a ctx)(hT:C.P.underlying T=some (.slice e))(eτ:CD C.P e=some τ){A:Option Addr}{n k:Nat}(hy:a.eval y=.slice A n k)(hk:n<=k){l hh:Int}
  (el:(match lo with|none=>some (0:Int)|some a=>Fi s ctx a)=some l) (eh:(match hi with|none=>some (n:Int)|some a=>Fi s ctx a)=some hh) (hop:o.op=.slice T y lo hi none) (g1:0<=l) (g2:l<=hh) (g3:hh<=(n:Int)) (w:World) :
  (execOp a.eval o).run C.P w=.ok (.value (.slice (if k=l.toNat then A else A.map (·.add (l.toNat*τ.width))) (hh.toNat-l.toNat) (k-l.toNat))) w:=by
 have hi':∃i,C.P.info? e=some i:=by
  have:PQ C.P 12 e=some τ:=by
   unfold CD at eτ
   split at eτ
   ·rename_i τ' e'
    cases hb:Nat.beq (C.P.cellsOf e) τ'.width with
    |false=>rw[hb]at eτ;cases eτ
    |true=>rw[hb]at eτ;cases eτ;exact e'
   ·cases eτ
  unfold PQ at this
  cases hu:C.P.underlying e with
  |none=>rw[hu]at this;cases this
  |some d=>exact iC hu
 have hw:=JJ eτ
 simp only[execOp,hop,hy,md]
 refine BO ?_
 unfold Instr.sliceAt
 simp only[cz,Cz hT,cd]
 unfold Instr.slice
 simp only[cz,Cz hT,cd]
 have hbH:(match hi.map a.eval with|some v=>Instr.sliceBound v k .sliceAcap|none=>pure n:Sem Nat).run C.P w=.ok hh.toNat w:=by
  cases hi with
  |none=>simp only[md,ej];simp at eh;subst eh;rfl
  |some q=>
   simp only at eh
   obtain⟨kk,hq,_⟩:=PI hr hx eh
   simp only[kj,hq,Instr.sliceBound,asIntOf,cz,ej,cd]
   rw[ah ⟨by omega,by omega⟩]
   rfl
 have hbL:(match lo.map a.eval with|some v=>Instr.sliceBound v hh.toNat (if(none:Option Value).isSome then .slice3C else .sliceB)|none=>pure 0:Sem Nat).run C.P w=.ok l.toNat w:=by
  cases lo with
  |none=>simp only[md,ej];simp at el;subst el;rfl
  |some q=>
   simp only at el
   obtain⟨kk,hq,_⟩:=PI hr hx el
   simp only[kj,hq,Instr.sliceBound,asIntOf,cz,ej,cd]
   rw[ah ⟨by omega,by omega⟩]
   rfl
 have hb:(Instr.sliceBounds true n k (lo.map a.eval) (hi.map a.eval) none).run C.P w=.ok (l.toNat,hh.toNat,k) w:=by
  cases hhi:hi.map a.eval<;>cases hlo:lo.map a.eval<;>rw[hhi]at hbH<;>rw[hlo]at hbL<;>
   simp only[ej,Result.ok.injEq,and_true,Option.isSome_none,px,if_false]at hbH hbL<;>unfold Instr.sliceBounds
  ·simp[hbH,←hbL]
  ·simp[hbH,hbL]
  ·simp[hbH,←hbL]
  ·simp[hbH,hbL]
 rw[hb]
 simp only[cd,Fk hi',hw]
 simp
theorem bCt(ho:Ok base S0 σ)(hr:RelT σ s a)(hx:BH a ctx){T:TypeId}{y:Operand}{lo hi mx:Option Operand}(hop:o.op=.slice T y lo hi mx){g:Bool}{c:SC}(hs:PU C s ctx T y lo hi mx=some (g,c))(h:At C s ctx o=some (.ok true x mem')):BQ C base S0 id σ a o x mem':=by
 unfold At at h;rw[hop]at h;simp only[hs,ap,Res.ok.injEq]at h;obtain⟨rfl,rfl,rfl⟩:=h;unfold PU at hs;split at hs
 ·rename_i b ec;replace hs:=(AK hs).2;split at hs
  ·rename_i e τ' xs hT eb;split at hs
   ·rename_i τ l hh eτ el eh;split at hs
    ·rename_i hττ;subst hττ;simp only[ap,cr,ar,ai]at hs;obtain⟨⟨⟨g1,g2⟩,g3⟩,rfl⟩:=hs;rw[←hr.mem]at eb;have hc:=BJ hr hx ec;have he:=ho.ent b;unfold AE at he;rw[eb]at he;obtain⟨q1,q2,_⟩:=he;obtain⟨hlt,_,hm⟩:=hc;rw[eb]at hm;simp only at hm;have hrun:=aEW hr hx hT eτ hm q1 el eh hop g1 g2 g3 σ.w;refine AY (σ':=σ) hrun ho (Goes.refl σ).moves hr.mem ?_;refine⟨hlt,ak,?_⟩;rw[eb];refine⟨by omega,_,_,rfl,by omega,by omega,fun hn=>?_⟩;obtain⟨r,hβ⟩:=aCL (ho.ent b) eb (by omega);refine⟨r,hβ,?_⟩;rw[ag (by omega),hβ];simp[LA]
    ·cases hs
   ·cases hs
  ·cases hs
 ·rename_i b ec;split at hs
  ·rename_i n e τ' xs hT eb;split at hs
   ·rename_i τ eτ;split at hs
    ·rename_i hττ;subst hττ;obtain⟨hn,hs⟩:=AK hs;simp only[ap,cr,true_and]at hs;subst hs;have hn:xs.length=n:=av hn;rw[←hr.mem]at eb;have hc:=BJ hr hx ec;have he:=ho.ent b;unfold AE at he;rw[eb]at he;obtain⟨q1,q2,_⟩:=he;obtain⟨hlt,_,hm⟩:=hc;rw[eb]at hm;obtain⟨r,hβ,hy⟩:=hm;refine AY (σ':=σ) (v:=.slice (some ⟨r,0,none⟩) xs.length xs.length) ?_ ho (Goes.refl σ).moves hr.mem ?_
     ·simp only[execOp,hop,hy];refine BO ?_;unfold Instr.sliceAt;simp only[cz,Cz hT,cd,Instr.sureAddr,ej,md,Instr.sliceBounds];simp[Fk (aZ8 eτ),hn,LA]
     ·refine⟨hlt,ak,?_⟩;rw[eb];exact⟨by omega,_,_,rfl,ci _,by omega,fun _=>⟨r,hβ,by simp⟩⟩
    ·cases hs
   ·cases hs
  ·cases hs
 ·cases hs
theorem bCr(ho:Ok base S0 σ)(hr:RelT σ s a)(hx:BH a ctx){T:TypeId}{y:Operand}{lo hi mx:Option Operand}(hop:o.op=.slice T y lo hi mx)(hns:PU C s ctx T y lo hi mx=none)(hno:Vq C s ctx y lo mx=none)(h:At C s ctx o=some (.ok true x mem')):BQ C base S0 id σ a o x mem':=by
 unfold At at h;rw[hop]at h;simp only[hns,hno]at h;split at h
 ·rename_i e c hT ec;split at h
  ·rename_i τ eτ;cases hf:Do s.mem c with
   |mk c' m1=>
    rw[hf]at h;simp only at h;rw[←hr.mem]at hf;obtain⟨σ1,a1,a2,a3,a4,a5,a6⟩:=Va ho hf;split at h
    ·rename_i xs exs;split at h
     ·rename_i l hh el eh;simp only[ap,Res.ok.injEq,ar,ai]at h;obtain⟨⟨⟨g1,g2⟩,g3⟩,rfl,rfl⟩:=h;have hd:=Wc (a6 _ (BJ hr hx ec)) (gN hf) (by rw[a1];exact exs);obtain⟨A,k,hy,hk,hklim⟩:=bIe hd;rw[hy]at hd;have hcut:=hd.cut (l:=l.toNat) (h:=hh.toNat) (by omega) (by omega) hk hklim;exact AY (σ':=σ1) (by rw[a2];exact aEW hr hx hT eτ hy hk el eh hop g1 g2 g3 σ.w) a4 a5.moves a1 hcut
     ·cases h
    ·cases h
  ·cases h
 ·cases h
end Vx
namespace Vx
open Go Go.RowKit
variable {C:Cfg}{base:Base}{S0:Nat->Prop}{σ:Sit}{s:St}{a:Act}{ctx:List (Nat×Bool)}{o:Oper}{x:TV}{mem':Ae}
theorem Ps{P:Program}{e:TypeId}{τ:Shape}(eτ:CD P e=some τ):∃i,P.info? e=some i:=by
 have:PQ P 12 e=some τ:=by
  unfold CD at eτ;split at eτ
  ·rename_i τ' e';cases hb:Nat.beq (P.cellsOf e) τ'.width with
   |false=>rw[hb]at eτ;cases eτ
   |true=>rw[hb]at eτ;cases eτ;exact e'
  ·cases eτ
 unfold PQ at this;cases hu:P.underlying e with
 |none=>rw[hu]at this;cases this
 |some d=>exact iC hu
theorem aOI{P:Program}{T e:TypeId}{n:Nat}{τ:Shape}(hT:P.underlying T=some (.array n e))(eτ:CD P e=some τ){r q:Nat}{k:IntKind}{i:Int}(h0:0<=i)(h1:i<(n:Int))(w:World):
  (Instr.indexAt T (.pointer (some ⟨r,q,none⟩)) (.int k i)).run P w=.ok (.pointer (some ⟨r,q+i.toNat*τ.width,none⟩)) w:=by
 unfold Instr.indexAt;simp[Cz hT,asIntOf,Instr.sureAddr,h0,h1,Fk (Ps eτ),JJ eτ,LA]
theorem aDY{P:Program}{T e:TypeId}{n c:Nat}{τ:Shape}(hT:P.underlying T=some (.slice e))(eτ:CD P e=some τ){r q:Nat}{k:IntKind}{i:Int}(h0:0<=i)(h1:i<(n:Int))(w:World):
  (Instr.indexAt T (.slice (some ⟨r,q,none⟩) n c) (.int k i)).run P w=.ok (.pointer (some ⟨r,q+i.toNat*τ.width,none⟩)) w:=by
 unfold Instr.indexAt;simp[Cz hT,asIntOf,h0,h1,Fk (Ps eτ),JJ eτ,LA]
theorem getD_some{α:Type}{xs:List α}{i:Nat}{d:α}(h:i<xs.length):xs[i]? = some (xs.getD i d):=by
 rw[aw,bw h];rfl
theorem aOR{τ:Shape}{xs:List (Ab τ)}{r q:Nat}{vs:Array Value}{T:TypeId}{fz:Nat×Nat}{i:Nat}(hS:σ.S r)(hh:σ.w.heap[r]? = some (.cells vs T fz))(hrow:Rows σ.w σ.S τ vs q xs)(hi:i<xs.length):
  Aw σ (.iptr τ (xs.getD i τ.dflt) 0) (.pointer (some ⟨r,q+i*τ.width,none⟩)):=by
 obtain⟨ds,d1,d2⟩:=hrow i _ (getD_some (d:=τ.dflt) hi);exact⟨r,q+i*τ.width,vs,T,fz,ds,rfl,hS,hh,d1,d2⟩
theorem aD6{P:Program}{T e:TypeId}{τ:Shape}{xs:List (Ab τ)}{y:Value}(hT:P.underlying T=some (.slice e))(eτ:CD P e=some τ)(hd:AJ σ.w σ.S (.slice τ) xs [y]){k:IntKind}{i:Int}(h0:0<=i)(h1:i<(xs.length:Int))(w:World):
  ∃v,(Instr.indexAt T y (.int k i)).run P w=.ok v w/\Aw σ (.iptr τ (xs.getD i.toNat τ.dflt) 0) v:=by
 obtain⟨A,c,hy,hc,hl,hne⟩:=hd;cases hy;have hlt:i.toNat<xs.length:=by omega
 obtain⟨r,q,vs,T',fz,rfl,g1,g2,g3⟩:=hne (fun e=>by subst e;simp at hlt);exact⟨_,aDY hT eτ h0 h1 w,aOR g1 g2 g3 hlt⟩
theorem bCc(ho:Ok base S0 σ)(hr:RelT σ s a)(hx:BH a ctx)(hG:aFk C σ.w σ.S){T:TypeId}{y z:Operand}(hop:o.op=.indexAddr T y z)(h:At C s ctx o=some (.ok true x mem')):BQ C base S0 id σ a o x mem':=by
 unfold At at h;rw[hop]at h;simp only at h;have hex:∀{v:Value},(Instr.indexAt T (a.eval y) (a.eval z)).run C.P σ.w=.ok v σ.w->(execOp a.eval o).run C.P σ.w=.ok (.value v) σ.w:=fun hv=>by
  simp only[execOp,hop];exact BO hv
 split at h
 ·rename_i n e g i hT ec ei;obtain⟨k,hi,_⟩:=PI hr hx ei;have hc:a.eval y=.pointer (some ⟨g,0,none⟩):=BJ hr hx ec;split at h
  ·rename_i τ xs τ' eg eτ;split at h
   ·rename_i hττ;subst hττ;cases hb:Nat.beq xs.length n with
    |false=>rw[hb]at h;cases h
    |true=>
     rw[hb]at h;simp only[aa,ap,Res.ok.injEq,bH9,ar,ai]at h;obtain⟨⟨g1,g2⟩,rfl,rfl⟩:=h;have hn:xs.length=n:=av hb;obtain⟨hS,vs,T',fz,hh,hrow⟩:=hG g _ _ eg;refine AY (σ':=σ) (hex (by rw[hc,hi];exact aOI hT eτ g1 g2 σ.w)) ho (Goes.refl σ).moves hr.mem ?_;exact aOR (q:=0) hS hh hrow (by omega)
   ·cases h
  ·cases h
 ·rename_i n e b i hT ec ei;obtain⟨k,hi,_⟩:=PI hr hx ei;have hc:=BJ hr hx ec;split at h
  ·rename_i τ xs τ' eb eτ;split at h
   ·rename_i hττ;subst hττ;simp only[ap,Res.ok.injEq,ar,ai]at h;obtain⟨⟨⟨g1,g2⟩,g3⟩,rfl,rfl⟩:=h;rw[←hr.mem]at eb;obtain⟨hlt,_,hm⟩:=hc;rw[eb]at hm;obtain⟨r,hβ,hy⟩:=hm;refine AY (σ':=σ) (hex (by rw[hy,hi];exact aOI hT eτ g1 g2 σ.w)) ho (Goes.refl σ).moves hr.mem ?_;refine⟨hlt,ak,?_⟩;rw[eb];exact⟨by omega,r,hβ,by simp⟩
   ·cases h
  ·cases h
 ·rename_i e c i hT ec ei;obtain⟨k,hi,_⟩:=PI hr hx ei;have hc:=BJ hr hx ec;split at h
  ·rename_i τ eτ;split at h
   ·rename_i b;split at h
    ·rename_i τ' xs eb;split at h
     ·rename_i hττ;subst hττ;simp only[ap,Res.ok.injEq,ar,ai]at h;obtain⟨⟨g1,g2⟩,rfl,rfl⟩:=h;rw[←hr.mem]at eb;obtain⟨hlt,_,hm⟩:=hc;rw[eb]at hm;obtain⟨r,hβ⟩:=aCL (ho.ent b) eb (by omega);simp only[hβ,kj]at hm;have hy:=hm;refine AY (σ':=σ) (hex (by rw[hy,hi];exact aDY hT eτ g1 g2 σ.w)) ho (Goes.refl σ).moves hr.mem ?_;refine⟨hlt,ak,?_⟩;rw[eb];exact⟨by omega,r,hβ,by simp⟩
     ·cases h
    ·rename_i τ' xs eb;split at h
     ·rename_i hττ;subst hττ;simp only[ap,Res.ok.injEq,ar,ai]at h;obtain⟨⟨g1,g2⟩,rfl,rfl⟩:=h;rw[←hr.mem]at eb;obtain⟨σ1,a1,a2,a3,a4,a5⟩:=uD ho (.inr eb);have hc1:=a5.repC hc;obtain⟨_,_,hm⟩:=hc1;rw[a1,B9 (DP (by rw[eb];simp)),ah rfl]at hm;obtain⟨v,h1,h2⟩:=aD6 hT eτ hm (k:=k) g1 g2 σ.w;refine AY (σ':=σ1) (v:=v) (by rw[a2];exact hex (by rw[hi];exact h1)) a4 a5.moves (by rw[a1,hr.mem]) h2
     ·cases h
    ·rename_i τ' xs eb;split at h
     ·rename_i hττ;subst hττ;simp only[ap,Res.ok.injEq,ar,ai]at h;obtain⟨⟨g1,g2⟩,rfl,rfl⟩:=h;rw[←hr.mem]at eb;obtain⟨_,_,hm⟩:=hc;rw[eb]at hm;obtain⟨v,h1,h2⟩:=aD6 hT eτ hm (k:=k) g1 g2 σ.w;exact AY (σ':=σ) (v:=v) (hex (by rw[hi];exact h1)) ho (Goes.refl σ).moves hr.mem h2
     ·cases h
    ·cases h
   ·rename_i τ' xs;split at h
    ·rename_i hττ;subst hττ;simp only[ap,Res.ok.injEq,ar,ai]at h;obtain⟨⟨g1,g2⟩,rfl,rfl⟩:=h;obtain⟨v,h1,h2⟩:=aD6 hT eτ hc (k:=k) g1 g2 σ.w;exact AY (σ':=σ) (v:=v) (hex (by rw[hi];exact h1)) ho (Goes.refl σ).moves hr.mem h2
    ·cases h
   ·rename_i b lo n;split at h
    ·rename_i τ' xs eb;split at h
     ·rename_i hττ;subst hττ;simp only[ap,Res.ok.injEq,ar,ai]at h;obtain⟨⟨g1,g2⟩,rfl,rfl⟩:=h;rw[←hr.mem]at eb;obtain⟨hlt,_,hm⟩:=hc;rw[eb]at hm;obtain⟨q1,A,cc,hy,q2,q3,q4⟩:=hm;obtain⟨r,hβ,rfl⟩:=q4 (by omega);refine AY (σ':=σ) (hex (by rw[hy,hi];exact aDY hT eτ g1 g2 σ.w)) ho (Goes.refl σ).moves hr.mem ?_;refine⟨hlt,ak,?_⟩;rw[eb];exact⟨by omega,r,hβ,by rw[cu];simp⟩
     ·cases h
    ·cases h
   ·cases h
  ·cases h
 ·cases h
theorem aPH{τ:Shape}{d:Ab τ}{z:Array Value}(hd:AJ σ.w σ.S τ d z.toList)(_hw:0<z.size)(n:Nat):Rows σ.w σ.S τ (madeCells z (n*z.size)) 0 (bd n d):=by
 have hl:=hd.len;simp at hl;intro i x hi;rw[me]at hi;split at hi
 ·rename_i hin;cases hi;refine⟨z.toList,hd,fun j v hj=>?_⟩;have hjl:j<z.size:=by simpa using(bp.1 hj).1
  rw[←hl,dj];refine aPG ?_ ?_
  ·have:=bh z.size (show i+1<=n by omega);rw[ks]at this;omega
  ·rw[Nat.add_comm,Nat.add_mul_mod_self_right,Nat.mod_eq_of_lt hjl];simpa using hj
 ·cases hi
theorem bH6{a:Act}{l c:Operand}(h:vS l c=true){n m:Int}{kn km:IntKind}(hn:a.eval l=.int kn n)(hm:a.eval c=.int km m):kn=km/\n=m:=by
 unfold vS at h;split at h
 ·rename_i t t';have:=av h;subst this;rw[hn]at hm;cases hm;exact⟨rfl,rfl⟩
 ·simp only[ar,ai]at h;obtain⟨rfl,rfl⟩:=h;have h1:=hn.symm.trans hm;cases h1;exact⟨rfl,rfl⟩
 ·cases h
theorem bCj(ho:Ok base S0 σ)(hr:RelT σ s a)(hx:BH a ctx){T:TypeId}{l c:Operand}(hop:o.op=.makeSlice T l c)(h:At C s ctx o=some (.ok true x mem')):BQ C base S0 id σ a o x mem':=by
 unfold At at h;rw[hop]at h;simp only at h;split at h
 ·rename_i e n m hT en em;obtain⟨kn,hn,_⟩:=PI hr hx en;obtain⟨km,hm,_⟩:=PI hr hx em;split at h
  ·rename_i τ z eτ hz;split at h
   ·rename_i d ep;obtain⟨ie,zv,hi,hzv,hzr⟩:=aAl hz;obtain⟨y1,y2,hyy,p1,p2⟩:=H2 (hzr σ).cells ep;cases p2;rw[du]at hyy;rw[←hyy]at p1;have hw:=JJ eτ;have hzl:=p1.len;have hsz:ie.size=C.P.cellsOf e:=by simp[Program.cellsOf,hi]
    have hby:(ie.bytes:Int)=(C.P.bytesOf e:Int):=by simp[qu,hi]
    cases hb0:(vS l c&&Nat.blt 0 (C.P.cellsOf e)&&Nat.blt 0 (C.P.bytesOf e))with
    |true=>
     rw[hb0]at h;simp only[ar]at hb0;simp only[aa,ap,Res.ok.injEq,ar,ai]at h;obtain⟨⟨g1,g2⟩,rfl,rfl⟩:=h;have hnm:kn=km/\n=m:=bH6 hb0.1.1 hn hm;obtain⟨rfl,rfl⟩:=hnm;have hpos:0<C.P.cellsOf e:=by simpa using hb0.1.2
     have hbpos:0<C.P.bytesOf e:=by simpa using hb0.2
     have hnle:n<=EA:=by
      refine mm ?_ g2;have:=mr (a:=1) (b:=(C.P.bytesOf e:Int)) (c:=n) (by omega) g1;omega
     have hrun:=run_make (P:=C.P) σ.w T e ie zv hT hi hzv kn kn n n g1 (lc _) (by rw[hby,om];unfold EA at g2;omega) (by unfold EA at hnle;omega);have hzs:zv.cells.size=C.P.cellsOf e:=by simpa[hw]using hzl
     obtain⟨k1,k2,k3,k4,k5⟩:=aCK ho (T:=e) (τ:=τ) (xs:=bd n.toNat d) (vs:=madeCells zv.cells (n.toNat*ie.size)) (k:=n.toNat) (by simp) (by unfold BU;unfold EA at hnle;omega) (by rw[size_madeCells,hsz,hw])
      (by rw[hsz,←hzs];exact aPH p1 (by omega) n.toNat)
     refine AY (σ':=σ.push (.arr τ (bd n.toNat d)) (.cells (madeCells zv.cells (n.toNat*ie.size)) e) n.toNat) ?_ k1 k2.moves (by simp[Sit.push,hr.mem]) ?_ (v:=.slice (some ⟨σ.w.heap.size,0,none⟩) n.toNat n.toNat)
     ·simp only[execOp,hop,hn,hm];exact BO hrun
     ·rw[←hr.mem];refine⟨by simp[Sit.push],ak,?_⟩;rw[k3];simp only[k4,k5,kj,List.length_replicate]
    |false=>
     rw[hb0]at h;simp only[ab]at h;cases hb:(Nat.blt 0 (C.P.cellsOf e)&&Nat.blt 0 (C.P.bytesOf e))with
     |false=>rw[hb]at h;cases h
     |true=>
      rw[hb]at h;simp only[ar]at hb;simp only[aa,ap,Res.ok.injEq,ar,ai]at h;obtain⟨⟨⟨g0,g1⟩,g2⟩,rfl,rfl⟩:=h;have hpos:0<C.P.cellsOf e:=by simpa using hb.1
      have hbpos:0<C.P.bytesOf e:=by simpa using hb.2
      have hnle:m<=EA:=by
       refine mm ?_ g2;have:=mr (a:=1) (b:=(C.P.bytesOf e:Int)) (c:=m) (by omega) (mm g0 g1);omega
      have hrun:=run_make (P:=C.P) σ.w T e ie zv hT hi hzv kn km n m g0 g1 (by rw[hby,om];unfold EA at g2;omega) (by unfold EA at hnle;omega);have hzs:zv.cells.size=C.P.cellsOf e:=by simpa[hw]using hzl
      have hg:=WS ho (.acc τ (bd n.toNat d)) (.cells (madeCells zv.cells (m.toNat*ie.size)) e) m.toNat;have hblk:Ac (σ.push (.acc τ (bd n.toNat d)) (.cells (madeCells zv.cells (m.toNat*ie.size)) e) m.toNat).mem σ.mem.length=.acc τ (bd n.toNat d):=Ex;have hrows:Rows σ.w σ.S τ (madeCells zv.cells (m.toNat*ie.size)) 0 (bd n.toNat d):=by
       have:=aPH p1 (by omega) m.toNat;rw[hsz,←hzs];intro i x hi;refine this i x ?_;rw[me]at hi⊢;split at hi
       ·rw[ah (by omega)];exact hi
       ·cases hi
      have hok:Ok base S0 (σ.push (.acc τ (bd n.toNat d)) (.cells (madeCells zv.cells (m.toNat*ie.size)) e) m.toNat):=by
       refine ZX ho _ _ _ ?_;unfold AE;rw[hblk];refine⟨by simp[Sit.push,AI];omega,by simp[Sit.push,AI];unfold BU;unfold EA at hnle;omega,.inr ⟨σ.w.heap.size,_,e,by simp[Sit.push,AI],PG,?_,hrows.mono hg.stab hg.heap⟩⟩;rw[size_madeCells,hsz,hw];simp[Sit.push,AI]
      refine AY (σ':=σ.push (.acc τ (bd n.toNat d)) (.cells (madeCells zv.cells (m.toNat*ie.size)) e) m.toNat) ?_ hok hg.moves (by simp[Sit.push,hr.mem]) ?_ (v:=.slice (some ⟨σ.w.heap.size,0,none⟩) n.toNat m.toNat)
      ·simp only[execOp,hop,hm,hn];exact BO hrun
      ·rw[←hr.mem];refine⟨by simp[Sit.push],ak,?_⟩;rw[hblk];simp[Sit.push,AI]
   ·cases h
  ·cases h
 ·cases h
theorem bB6(ho:Ok base S0 σ)(hr:RelT σ s a)(hx:BH a ctx){y:Operand}{i:Nat}(hop:o.op=.extract y i)(h:At C s ctx o=some (.ok true x mem')):BQ C base S0 id σ a o x mem':=by
 unfold At at h;rw[hop]at h;simp only at h;split at h
 ·rename_i l e;split at h
  ·rename_i v ev;simp only[ap,Res.ok.injEq,true_and]at h;obtain⟨rfl,rfl⟩:=h;obtain⟨_,ys,hy,ha⟩:=Wp hr hx e;obtain⟨u,hu,hR⟩:=ha.get ev;refine AY (σ':=σ) (v:=u) ?_ ho (Goes.refl σ).moves hr.mem hR;simp only[execOp,hop,hy];refine BO ?_;simp[Instr.extract,hu]
  ·cases h
 ·rename_i c j r e;have hR:=Wp hr hx e;split at h
  ·simp only[ap,Res.ok.injEq,true_and]at h;obtain⟨rfl,rfl⟩:=h;refine AY (σ':=σ) (v:=.bool c) ?_ ho (Goes.refl σ).moves hr.mem ⟨rfl,ak⟩;simp only[execOp,hop];refine BO ?_;cases c with
   |true=>rw[hR.1];rfl
   |false=>rw[show _=_ from hR];rfl
  ·simp only[ap,Res.ok.injEq]at h;obtain⟨rfl,rfl,rfl⟩:=h;refine AY (σ':=σ) (v:=.int .i64 j) ?_ ho (Goes.refl σ).moves hr.mem ⟨rfl,hR.2.1⟩;simp only[execOp,hop];refine BO ?_;rw[hR.1];rfl
  ·simp only[ap,Res.ok.injEq]at h;obtain⟨rfl,rfl,rfl⟩:=h;refine AY (σ':=σ) (v:=.int .i32 r) ?_ ho (Goes.refl σ).moves hr.mem ⟨rfl,hR.2.2⟩;simp only[execOp,hop];refine BO ?_;rw[hR.1];rfl
  ·cases h
 ·cases h
theorem bCb(ho:Ok base S0 σ)(hr:RelT σ s a)(hx:BH a ctx){T:TypeId}{y z:Operand}(hop:o.op=.index T y z)(h:At C s ctx o=some (.ok true x mem')):BQ C base S0 id σ a o x mem':=by
 unfold At at h;rw[hop]at h;simp only at h;split at h
 ·rename_i str i hT ec ei;obtain⟨k,hi,_⟩:=PI hr hx ei;obtain⟨hy,_⟩:=BJ hr hx ec;simp only[ap,Res.ok.injEq,ar,ai]at h;obtain⟨⟨g1,g2⟩,rfl,rfl⟩:=h;have hlt:i.toNat<str.size:=by omega
  have hb:str.data.toList.getD i.toNat 0=str[i.toNat]:=by
   rw[aw,bw (by simpa using hlt)];rfl
  refine AY (σ':=σ) (v:=.int .u8 ((str.data.toList.getD i.toNat 0).toNat:Int)) ?_ ho (Goes.refl σ).moves hr.mem ⟨rfl,?_⟩
  ·simp only[execOp,hop,hy,hi];refine BO ?_;unfold Instr.index;simp only[cz,asIntOf,ej,cd,Cz hT];rw[ah g1,getElem?_pos str i.toNat hlt];rw[hb];rfl
  ·generalize str.data.toList.getD i.toNat 0=u;have:=u.toNat_lt;simp only[J4,nd,mi,jr,ji];simp;omega
 ·rename_i n e i hT ei;obtain⟨k,hi,_⟩:=PI hr hx ei;split at h
  ·rename_i cs τ ec eτ hag;obtain⟨ys,hy,ha⟩:=G7 hr hx ec;split at h
   ·rename_i xs exs;obtain⟨hmany,_⟩:=aEg exs;obtain⟨g1,g2,g3⟩:=vC ha hmany;split at h
    ·rename_i c ecc;simp only[ap,Res.ok.injEq,ar,ai]at h;obtain⟨⟨l1,l2⟩,rfl,rfl⟩:=h;have hlt:i.toNat<xs.length:=by omega
     have hget:xs[i.toNat]? = some (xs.getD i.toNat τ.dflt):=by
      rw[aw,bw hlt];rfl
     obtain⟨ds,d1,d2⟩:=g3 _ _ hget;have hcr:=LG d1;rw[ecc]at hcr;cases hcr with
     |cons hv ht=>
     cases ht;rename_i v;have hv2:=d2 0 v rfl;have hw:=JJ eτ;have hsize:(Go.sizeOf e).run C.P σ.w=.ok τ.width σ.w:=by rw[Fk (Ps eτ),hw]
     refine AY (σ':=σ) (v:=v) ?_ ho (Goes.refl σ).moves hr.mem hv;simp only[execOp,hop,hy,hi];refine BO ?_;unfold Instr.index;simp only[cz,asIntOf,ej,cd,Cz hT];rw[ah ⟨l1,l2⟩];simp only[cz,hsize,cd];unfold part;have hv3:ys[i.toNat*τ.width]? = some v:=by simpa using hv2
     simp[fD hag,hv3]
    ·cases h
   ·cases h
  ·cases h
 ·cases h
theorem bB7(ho:Ok base S0 σ)(hr:RelT σ s a)(hx:BH a ctx){T:TypeId}{y:Operand}{i:Nat}(hop:o.op=.field T y i)(h:At C s ctx o=some (.ok true x mem')):BQ C base S0 id σ a o x mem':=by
 unfold At at h;rw[hop]at h;simp only at h;split at h
 ·rename_i cs d ft ec ef;obtain⟨ys,hy,ha⟩:=G7 hr hx ec;have hfd:∃fs f,C.P.underlying T=some (.struct fs)/\fs[i]? = some f/\f.offset=d/\f.type=ft:=by
   unfold gG at ef;split at ef
   ·rename_i fs e;split at ef
    ·rename_i f eff;cases hb:Nat.beq (C.P.cellsOf f.type) 0 with
     |true=>rw[hb]at ef;cases ef
     |false=>rw[hb]at ef;cases ef;exact⟨fs,f,e,by simpa using eff,rfl,rfl⟩
    ·cases ef
   ·cases ef
  obtain⟨fs,f,hu,hf,rfl,rfl⟩:=hfd;have hex:∀{v:Value},(part f.type ys.toArray f.offset).run C.P σ.w=.ok v σ.w->(execOp a.eval o).run C.P σ.w=.ok (.value v) σ.w:=fun hv=>by
   simp only[execOp,hop,hy];refine BO ?_;unfold Instr.field;simp[Cz hu,hf,asAgg,hv]
  split at h
  ·rename_i hT;split at h
   ·rename_i l et;simp only[ap,Res.ok.injEq,true_and]at h;obtain⟨rfl,rfl⟩:=h;obtain⟨v,h1,h2⟩:=aEw ha hT et σ.w;exact AY (σ':=σ) (v:=v) (hex h1) ho (Goes.refl σ).moves hr.mem h2
   ·cases h
  ·rename_i hT;split at h
   ·rename_i c l et;simp only[ap,Res.ok.injEq,true_and]at h;obtain⟨rfl,rfl⟩:=h;obtain⟨v,h1,h2⟩:=aEx ha hT et σ.w;exact AY (σ':=σ) (v:=v) (hex h1) ho (Goes.refl σ).moves hr.mem h2
   ·cases h
  ·cases h
 ·cases h
end Vx
namespace Vx
open Go Go.RowKit
variable {C:Cfg}{base:Base}{S0:Nat->Prop}{σ:Sit}{s:St}{a:Act}{ctx:List (Nat×Bool)}{o:Oper}{x:TV}{mem':Ae}
theorem aS0{c:Nat}(h:Utf8.valid (c:Int)=true):c<=1114111:=by
 unfold Utf8.valid at h;simp only[fh,ar,ai]at h;omega
theorem aZR(str:ByteArray)(i:Nat):(Utf8.decode str i).1<=1114111:=by
 unfold Utf8.decode;dsimp only;split
 ·simp only;omega
 ·split
  ·split
   ·simp only;omega
   ·simp[Utf8.runeError]
  ·split
   ·split
    ·rename_i h;simp only[ar]at h;exact aS0 h.2
    ·simp[Utf8.runeError]
   ·split
    ·split
     ·rename_i h;simp only[ar]at h;exact aS0 h.2
     ·simp[Utf8.runeError]
    ·simp[Utf8.runeError]
def Sit.iterAt(σ:Sit)(b r:Nat)(str:ByteArray)(p:Nat):Sit:={E:=σ.E,mem:=σ.mem.set b (.itr str p),w:=C7 σ.w r (.stringIter str p),S:=σ.S}
theorem bA1(ho:Ok base S0 σ){b r p q:Nat}{str:ByteArray}(e:Ac σ.mem b=.itr str p)(hb:σ.owned b r):
  Ok base S0 (σ.iterAt b r str q)/\Goes σ (σ.iterAt b r str q):=by
 have hlt:b<σ.mem.length:=DP (by rw[e];simp);have hrs:=ho.own b r hb;have hset:∀b',Ac (σ.iterAt b r str q).mem b'=if b'=b then .itr str q else Ac σ.mem b':=fun b'=>B9 hlt;have hg:Goes σ (σ.iterAt b r str q):=by
  refine⟨fun _ h=>h,fun r' hr'=>PH (fun e=>hrs.2.2 (e▸hr')),by simp[Sit.iterAt],fun b' hb'=>?_⟩;by_cases hbb:b'=b
  ·subst hbb;unfold BL;rw[e];exact .inl ⟨rfl,str,q,by rw[hset,ah rfl]⟩
  ·exact BL.refl (by rw[hset,ag hbb]) rfl rfl
 have hold:∀b' r',(σ.iterAt b r str q).owned b' r'->σ.owned b' r':=fun b' r' h=>by
  obtain⟨h1,h2⟩:=h;rw[hset]at h1;split at h1
  ·rename_i hbb;subst hbb;exact⟨hb.1,h2⟩
  ·exact⟨h1,h2⟩
 refine⟨⟨ho.below.step rfl rfl rfl (by simp[Sit.iterAt,C7]) (fun k _ hn=>PH (fun e=>hn (e▸hrs.1))),ho.stab0,fun r' h=>?_,fun b'=>?_,fun b' r' h=>?_,fun b1 b2 r' h1 h2=>ho.inj b1 b2 r' (hold _ _ h1) (hold _ _ h2)⟩,hg⟩
 ·have:=ho.stab r' h;exact⟨by simp only[Sit.iterAt,i4];exact this.1,this.2⟩
 ·by_cases hbb:b'=b
  ·subst hbb;have he:=ho.ent b';unfold AE at he⊢;rw[e]at he;rw[hset,ah rfl];exact⟨he.1,r,hb.2,Wy hrs.2.1⟩
  ·refine AE.keep hg (by rw[hset,ag hbb]) rfl rfl (fun r' hr'=>PH (fun e=>hbb (ho.inj b' b r (e▸hr') hb))) (ho.ent b')
 ·have:=ho.own b' r' (hold _ _ h);exact⟨this.1,by simp only[Sit.iterAt,i4];exact this.2.1,this.2.2⟩
theorem bCp(ho:Ok base S0 σ)(hr:RelT σ s a)(hx:BH a ctx){T:TypeId}{y:Operand}(hop:o.op=.range T y)(h:At C s ctx o=some (.ok true x mem')):BQ C base S0 id σ a o x mem':=by
 unfold At at h;rw[hop]at h;simp only at h;split at h
 ·rename_i str hT ec;simp only[ap,Res.ok.injEq,true_and]at h;obtain⟨rfl,rfl⟩:=h;obtain⟨hy,hw⟩:=BJ hr hx ec;have hg:=WS ho (.itr str 0) (.stringIter str 0) 0;have hblk:Ac (σ.push (.itr str 0) (.stringIter str 0) 0).mem σ.mem.length=.itr str 0:=Ex;have hheap:(σ.push (.itr str 0) (.stringIter str 0) 0).w.heap[σ.w.heap.size]? = some (.stringIter str 0):=PG;refine AY (σ':=σ.push (.itr str 0) (.stringIter str 0) 0) (v:=.pointer (some ⟨σ.w.heap.size,0,none⟩)) ?_ (ZX ho _ _ _ ?_) hg.moves (by simp[Sit.push,hr.mem]) ?_
  ·simp only[execOp,hop,hy];refine BO ?_;unfold Instr.range;simp only[cz,Cz hT,cd,ej];simp[newObj,Sem.run,Sit.push]
  ·unfold AE;rw[hblk];exact⟨hw,σ.w.heap.size,by simp[Sit.push,AI],hheap⟩
  ·rw[←hr.mem];refine⟨by simp[Sit.push],⟨_,rfl⟩,?_⟩;rw[hblk];exact⟨σ.w.heap.size,by simp[Sit.push,AI],rfl⟩
 ·cases h
theorem bCm(ho:Ok base S0 σ)(hr:RelT σ s a)(hx:BH a ctx){y:Operand}{st:Bool}(hop:o.op=.next y st)(h:At C s ctx o=some (.ok true x mem')):BQ C base S0 id σ a o x mem':=by
 unfold At at h;rw[hop]at h;simp only at h;split at h
 ·rename_i b ec;split at h
  ·rename_i str pos eb;simp only[ap,Res.ok.injEq,true_and]at h;obtain⟨rfl,rfl⟩:=h;obtain⟨_,_,hm⟩:=BJ hr hx ec;rw[←hr.mem]at eb⊢;rw[eb]at hm;obtain⟨r,hβ,hy⟩:=hm;have he:=ho.ent b;unfold AE at he;rw[eb]at he;obtain⟨hsz,r',hβ',hheap⟩:=he;rw[hβ]at hβ';cases hβ';have hown:σ.owned b r:=⟨by rw[eb];trivial,hβ⟩
   cases hp:Nat.blt pos str.size with
   |true=>
    have hlt:pos<str.size:=by simpa using hp
    obtain⟨k1,k2⟩:=bA1 ho (q:=pos+(Utf8.decode str pos).2) eb hown;refine AY (σ':=σ.iterAt b r str (pos+(Utf8.decode str pos).2)) (v:=.tuple #[.bool true,.int .i64 pos,.int .i32 (Utf8.decode str pos).1]) ?_ k1 k2.moves (by simp[Sit.iterAt]) ?_
    ·simp only[execOp,hop,hy];refine BO ?_;simp only[Instr.next,getObj,setObj,cz,Sem.run,hheap,pi];rw[ah hlt];simp only[cz,setObj,Sem.run,hheap,pi,ej];rfl
    ·have h1:=aZR str pos;refine⟨rfl,?_,?_⟩
     ·unfold BU at hsz;simp only[J4,nd,mi,jr,ji];simp;omega
     ·simp only[J4,nd,mi,jr,ji];simp;omega
   |false=>
    have hlt:¬pos<str.size:=fun h=>by rw[show Nat.blt pos str.size=true by simpa using h]at hp;cases hp
    have hmem:σ.mem.set b (.itr str pos)=σ.mem:=i2 eb (by simp);refine AY (σ':=σ) (v:=.tuple #[.bool false]) ?_ ho (Goes.refl σ).moves (by show σ.mem=σ.mem.set b (.itr str pos);exact hmem.symm) rfl;simp only[execOp,hop,hy];refine BO ?_;simp only[Instr.next,getObj,setObj,cz,Sem.run,hheap,pi];rw[ag hlt];rfl
  ·cases h
 ·cases h
end Vx
namespace Vx
open Go Go.RowKit
variable {C:Cfg}{base:Base}{S0:Nat->Prop}{σ:Sit}{s:St}{a:Act}{ctx:List (Nat×Bool)}{o:Oper}{x:TV}{mem':Ae}
theorem H6{P:Program}{c:Call}{b:Builtin}(hop:o.op=.call c)(hc:c.callee=.builtin b)(w:World):
  ∃cs:Array Bool,(execOp a.eval o).run P w=(builtin b c.argTypes o.type cs (c.args.map a.eval)).run P w:=by
 simp only[execOp,hop,resolve,hc];simp only[cz,ej,cd,invoke];exact⟨_,rfl⟩
theorem HS{c:Call}{l:List Operand}(h:c.args.toList=l):c.args.map a.eval=(l.map a.eval).toArray:=by
 apply gy.1;simp[h]
theorem W5{c:Call}{l:List TypeId}(h:c.argTypes.toList=l):c.argTypes=l.toArray:=by
 apply gy.1;simp[h]
theorem Vc{n:Nat}(h:n<BU):J4 (.int .i64 (n:Int)):=by
 simp only[J4,nd,mi,jr,ji];unfold BU at h;simp;omega
theorem bCe(ho:Ok base S0 σ)(hr:RelT σ s a)(hx:BH a ctx){c:Call}(hop:o.op=.call c)(hc:c.callee=.builtin .len)(h:At C s ctx o=some (.ok true x mem')):BQ C base S0 id σ a o x mem':=by
 unfold At at h;rw[hop]at h;simp only[hc]at h;have hex:∀{y:Operand} {T:TypeId} {v:Value},c.args.toList=[y]->c.argTypes.toList=[T]->(nl #[T] o.type #[a.eval y]).run C.P σ.w=.ok v σ.w->(execOp a.eval o).run C.P σ.w=.ok (.value v) σ.w:=
  fun h1 h2 hv=>by
   obtain⟨cs,hcs⟩:=H6 (a:=a) (P:=C.P) hop hc σ.w;rw[hcs,HS h1,W5 h2];simp only[builtin];exact BO hv
 split at h
 ·rename_i y T e1 e2;split at h
  ·rename_i n e hT;cases hb:Nat.blt n 9223372036854775808 with
   |false=>rw[hb]at h;cases h
   |true=>
    rw[hb]at h;simp only[aa,ap,Res.ok.injEq,true_and]at h;obtain⟨rfl,rfl⟩:=h;refine AY (σ':=σ) (v:=.int .i64 (n:Int)) (hex e1 e2 ?_) ho (Goes.refl σ).moves hr.mem ⟨rfl,Vc (by simpa[BU]using hb)⟩;unfold nl;simp[Cz hT,goInt]
  ·rename_i e hT;split at h
   ·rename_i q eq;split at h
    ·cases h
    ·rename_i b lo n;split at h
     ·rename_i τ' xs eb;simp only[ap,Res.ok.injEq,true_and]at h;obtain⟨rfl,rfl⟩:=h;have hq:=BJ hr hx eq;rw[←hr.mem]at eb;obtain⟨_,_,hm⟩:=hq;rw[eb]at hm;obtain⟨q1,A,cc,hy,q2,q3,q4⟩:=hm;refine AY (σ':=σ) (v:=.int .i64 (n:Int)) (hex e1 e2 ?_) ho (Goes.refl σ).moves hr.mem ⟨rfl,Vc (by omega)⟩;rw[hy];unfold nl;simp[Cz hT,goInt]
     ·cases h
    ·rename_i hns hns2;split at h
     ·rename_i n en;simp only[ap,Res.ok.injEq,true_and]at h;obtain⟨rfl,rfl⟩:=h;have hq:=BJ hr hx eq;rw[←hr.mem]at en;obtain⟨A,k,hy⟩:=bA9 hq (fun str e=>hns str e) en;refine AY (σ':=σ) (v:=.int .i64 (n:Int)) (hex e1 e2 ?_) ho (Goes.refl σ).moves hr.mem ⟨rfl,Vc (bA8 ho hq en)⟩;rw[hy];unfold nl;simp[Cz hT,goInt]
     ·cases h
   ·cases h
  ·rename_i hT;split at h
   ·rename_i str es;simp only[ap,Res.ok.injEq,true_and]at h;obtain⟨rfl,rfl⟩:=h;obtain⟨hy,hl⟩:=BJ hr hx es;refine AY (σ':=σ) (v:=.int .i64 (str.size:Int)) (hex e1 e2 ?_) ho (Goes.refl σ).moves hr.mem ⟨rfl,Vc hl⟩;rw[hy];unfold nl;simp[Cz hT,goInt]
   ·cases h
  ·cases h
 ·cases h
theorem bCl(ho:Ok base S0 σ)(hr:RelT σ s a)(hx:BH a ctx){c:Call}(hop:o.op=.call c)(hc:c.callee=.builtin .min)(h:At C s ctx o=some (.ok true x mem')):BQ C base S0 id σ a o x mem':=by
 unfold At at h;rw[hop]at h;simp only[hc]at h;split at h
 ·rename_i y z e1;split at h
  ·rename_i k p k' q ep eq;split at h
   ·rename_i hk;subst hk;simp only[ap,Res.ok.injEq,true_and]at h;obtain⟨rfl,rfl⟩:=h;obtain⟨hp,wp⟩:=BJ hr hx ep;obtain⟨hq,wq⟩:=BJ hr hx eq;refine AY (σ':=σ) (v:=.int k' (if q<p then q else p)) ?_ ho (Goes.refl σ).moves hr.mem ⟨rfl,?_⟩
    ·obtain⟨cs,hcs⟩:=H6 (a:=a) (P:=C.P) hop hc σ.w;rw[hcs,HS e1];simp only[builtin];refine BO ?_;simp only[Builtin.min_,gg,js,hp,hq];simp[Builtin.min2]
    ·split
     ·exact wq
     ·exact wp
   ·cases h
  ·cases h
 ·cases h
theorem bCk(ho:Ok base S0 σ)(hr:RelT σ s a)(hx:BH a ctx){c:Call}(hop:o.op=.call c)(hc:c.callee=.builtin .max)(h:At C s ctx o=some (.ok true x mem')):BQ C base S0 id σ a o x mem':=by
 unfold At at h;rw[hop]at h;simp only[hc]at h;split at h
 ·rename_i y z e1;split at h
  ·rename_i k p k' q ep eq;split at h
   ·rename_i hk;subst hk;simp only[ap,Res.ok.injEq,true_and]at h;obtain⟨rfl,rfl⟩:=h;obtain⟨hp,wp⟩:=BJ hr hx ep;obtain⟨hq,wq⟩:=BJ hr hx eq;refine AY (σ':=σ) (v:=.int k' (if q>p then q else p)) ?_ ho (Goes.refl σ).moves hr.mem ⟨rfl,?_⟩
    ·obtain⟨cs,hcs⟩:=H6 (a:=a) (P:=C.P) hop hc σ.w;rw[hcs,HS e1];simp only[builtin];refine BO ?_;simp only[Builtin.max_,gg,js,hp,hq];simp[Builtin.max2]
    ·split
     ·exact wq
     ·exact wp
   ·cases h
  ·cases h
 ·cases h
theorem bB3(ho:Ok base S0 σ)(hr:RelT σ s a)(hx:BH a ctx){c:Call}(hop:o.op=.call c)(hc:c.callee=.builtin .complex)(h:At C s ctx o=some (.ok true x mem')):BQ C base S0 id σ a o x mem':=by
 unfold At at h;rw[hop]at h;simp only[hc]at h;split at h
 ·rename_i y z e1;split at h
  ·rename_i k p k' q ep eq;split at h
   ·rename_i hk;subst hk;simp only [ap,Res.ok.injEq,true_and] at h;obtain ⟨rfl,rfl⟩:=h;obtain ⟨b1,hp,wp⟩:=BJ hr hx ep;obtain ⟨b2,hq,wq⟩:=BJ hr hx eq;refine AY (σ':=σ) (v:=.complex k' b1 b2) ?_ ho (Goes.refl σ).moves hr.mem ⟨b1,b2,rfl,⟨b1,rfl,wp⟩,⟨b2,rfl,wq⟩⟩;obtain ⟨cs,hcs⟩:=H6 (a:=a) (P:=C.P) hop hc σ.w;rw [hcs,HS e1];simp only [builtin];refine BO ?_;simp only [gg,js,hp,hq];show ((if k' = k' then pure (.complex k' b1 b2) else stuck "complex: parts of different kinds" : Sem Value)).run C.P σ.w = _;rw [ah rfl]; rfl
   ·cases h
  ·cases h
 ·cases h
theorem bCq(ho:Ok base S0 σ)(hr:RelT σ s a)(hx:BH a ctx){c:Call}(hop:o.op=.call c)(hc:c.callee=.builtin .real)(h:At C s ctx o=some (.ok true x mem')):BQ C base S0 id σ a o x mem':=by
 unfold At at h;rw[hop]at h;simp only[hc]at h;split at h
 ·rename_i y e1;split at h
  ·rename_i k p q ep;simp only[ap,Res.ok.injEq,true_and]at h;obtain⟨rfl,rfl⟩:=h;obtain⟨b1,b2,hp,wp,wq⟩:=BJ hr hx ep;refine AY (σ':=σ) (v:=.float k b1) ?_ ho (Goes.refl σ).moves hr.mem wp;obtain⟨cs,hcs⟩:=H6 (a:=a) (P:=C.P) hop hc σ.w;rw[hcs,HS e1];simp only[builtin];refine BO ?_;simp only[gg,js,hp];rfl
  ·cases h
 ·cases h
theorem bCa(ho:Ok base S0 σ)(hr:RelT σ s a)(hx:BH a ctx){c:Call}(hop:o.op=.call c)(hc:c.callee=.builtin .imag)(h:At C s ctx o=some (.ok true x mem')):BQ C base S0 id σ a o x mem':=by
 unfold At at h;rw[hop]at h;simp only[hc]at h;split at h
 ·rename_i y e1;split at h
  ·rename_i k p q ep;simp only[ap,Res.ok.injEq,true_and]at h;obtain⟨rfl,rfl⟩:=h;obtain⟨b1,b2,hp,wp,wq⟩:=BJ hr hx ep;refine AY (σ':=σ) (v:=.float k b2) ?_ ho (Goes.refl σ).moves hr.mem wq;obtain⟨cs,hcs⟩:=H6 (a:=a) (P:=C.P) hop hc σ.w;rw[hcs,HS e1];simp only[builtin];refine BO ?_;simp only[gg,js,hp];rfl
  ·cases h
 ·cases h
theorem aQq:∀{l:List SV} {ys:List Value} {cl:List (Nat×Nat)},All2 (Bv σ) l ys->Em σ.mem l=some cl ->
  (∀p∈cl,p.1<σ.mem.length)/\∃rs:List Nat,cl.map (fun p=>σ.E.β p.1)=rs.map some/\ys=(cl.zip rs).map fun q=>jp (some ⟨q.2,q.1.2,none⟩)
 | [],_,cl,.nil,h=>by simp[Em]at h;subst h;exact⟨by simp,[],rfl,rfl⟩
 |.one (.ptr b off)::r,_,cl,.cons hc ht,h=>by
  simp only[Em]at h
  split at h
  ·rename_i cs l e1 e2
   cases h
   obtain⟨g1,rs,g2,g3⟩:=aQq ht e2
   obtain⟨q,hq,hy⟩:=Aw.ptr_raw hc e1
   refine⟨?_,q::rs,?_,?_⟩
   ·intro p hp
    rcases dq.1 hp with rfl|hp
    ·exact hc.1
    ·exact g1 p hp
   ·simp[hq,g2]
   ·simp[hy,g3]
  ·cases h
 |.one .undef::_,_,_,_,h=>by simp[Em]at h
 |.one (.v _)::_,_,_,_,h=>by simp[Em]at h
 |.one (.fl _ _)::_,_,_,_,h=>by simp[Em]at h
 |.one (.sl _ _)::_,_,_,_,h=>by simp[Em]at h
 |.one (.own _)::_,_,_,_,h=>by simp[Em]at h
 |.one (.eptr _ _ _)::_,_,_,_,h=>by simp[Em]at h
 |.one (.iptr _ _ _)::_,_,_,_,h=>by simp[Em]at h
 |.one (.sub _ _ _)::_,_,_,_,h=>by simp[Em]at h
 |.one (.gptr _)::_,_,_,_,h=>by simp[Em]at h
 |.one (.fnv _)::_,_,_,_,h=>by simp[Em]at h
 |.one (.ifv _)::_,_,_,_,h=>by simp[Em]at h
 |.one (.cx _ _ _)::_,_,_,_,h=>by simp[Em]at h
 |.one (.fn _ _)::_,_,_,_,h=>by simp[Em]at h
 |.agg _::_,_,_,_,h=>by simp[Em]at h
theorem bCh(ho:Ok base S0 σ)(hr:RelT σ s a)(hx:BH a ctx){fn:Fn}{first captured:Array Operand}(hop:o.op=.makeFunc fn first captured)(h:At C s ctx o=some (.ok true x mem')):BQ C base S0 id σ a o x mem':=by
 unfold At at h;rw[hop]at h;simp only at h;split at h
 ·rename_i f hf;split at h
  ·rename_i vs ev;split at h
   ·rename_i cl ecl;simp only[ap,Res.ok.injEq,true_and]at h;obtain⟨rfl,rfl⟩:=h;rw[←hr.mem]at ecl;obtain⟨g1,rs,g2,g3⟩:=aQq (U5 hr hx ev) ecl;have e1:first.map a.eval=#[]:=by apply gy.1;simp[hf]
    have e2:captured.map a.eval=((cl.zip rs).map fun q=>jp (some ⟨q.2,q.1.2,none⟩)).toArray:=by
     apply gy.1;simpa using g3
    refine AY (σ':=σ) (v:=.func (.func f) #[] ((cl.zip rs).map fun q=>jp (some ⟨q.2,q.1.2,none⟩)).toArray) ?_ ho (Goes.refl σ).moves hr.mem ⟨g1,ak,.inr ⟨rs,g2,rfl⟩⟩;simp only[execOp,hop,e1,e2];exact BO rfl
   ·cases h
  ·cases h
 ·cases h
end Vx
namespace Vx
open Go Go.RowKit
variable {C:Cfg}{base:Base}{S0:Nat->Prop}{σ:Sit}{s:St}{a:Act}{ctx:List (Nat×Bool)}{o:Oper}{x:TV}{mem':Ae}
theorem aED:∀(L:List Value) (vs:Array Value) (p q:Nat),p+L.length<=vs.size->(CP vs p L)[q]? = if p<=q/\q<p+L.length then L[q-p]? else vs[q]?:=by
 intro L vs p q h;rw[←Array.getElem?_toList,ZY L vs p h,fy];split
 ·rename_i hq;rw[cm (by simp;omega)];have:(lb p vs.toList).length=p:=by simp;omega
  rw[this,cw (by omega)]
 ·rename_i hq;rcases bc q p with hlt|hge
  ·rw[cw (by simp;omega),di hlt];simp
  ·rw[cm (by simp;omega)];have:(lb p vs.toList).length=p:=by simp;omega
   rw[this,cm (by omega),fe];rw[show p+L.length+(q-p-L.length)=q by omega];simp
def RX(w:World)(S:Nat->Prop)(e:Shape)(L:List Value)(xs:List (Ab e)):Prop:=∀i x,xs[i]? = some x->∃ds,AJ w S e x ds/\∀j d,ds[j]? = some d->L[i*e.width+j]? = some d
theorem L4{i k w j:Nat}(h:i<k)(hj:j<w):i*w+j<k*w:=by
 have:=bh w (show i+1<=k by omega);rw[ks]at this;omega
theorem aN7{P:Program}{w:World}{S:Nat->Prop}{e:Shape}{ys:List (Ab e)}{A:Option Addr}{m c:Nat}(hne:ys≠[]->∃r q vs T fz,A=some ⟨r,q,none⟩/\w.heap[r]? = some (.cells vs T fz)/\Rows w S e vs q ys){n:Nat}(hn:n<=ys.length):
  ∃L:List Value,(jl e.width n (.slice A m c)).run P w=.ok L.toArray w/\L.length=n*e.width/\RX w S e L (ys.take n)/\(∀v∈L,scalar v):=by
 rcases cg n with h0|hpos
 ·subst h0;refine⟨[],?_,by simp,fun i x hi=>by simp at hi,by simp⟩;cases A with
  |none=>simp[jl]
  |some ad=>simp[jl,loadCells,loadCellsFrom]
 ·have hys:ys≠[]:=by intro e;subst e;simp at hn;omega
  obtain⟨r,q,vs,T,fz,rfl,hh,hrow⟩:=hne hys;have hsz:q+n*e.width<=vs.size∨e.width=0:=by
   rcases cg e.width with hw|hw
   ·exact .inr hw
   ·left;obtain⟨ds,d1,d2⟩:=hrow (n-1) (ys.getD (n-1) e.dflt) (getD_some (by omega));have hdl:=d1.len;obtain⟨v,hv⟩:∃v,ds[e.width-1]? = some v:=⟨ds[e.width-1]'(by omega),bw (by omega)⟩
    have:=(Array.getElem?_eq_some_iff.1 (d2 _ _ hv)).1;have h1:(n-1)*e.width+e.width=n*e.width:=by
     rw[←ks];congr 1;omega
    omega
  have hfirst:(ys.take n).length=n:=by simp;omega
  rcases hsz with hsz|hw0
  ·refine⟨(vs.toList.drop q).take (n*e.width),by simp[jl,bHb hh hsz],by simp;omega,fun i x hi=>?_,?_⟩
   ·have hin:=(bp.1 hi).1;rw[hfirst]at hin;rw[di hin]at hi;obtain⟨ds,d1,d2⟩:=hrow i x hi;refine⟨ds,d1,fun j d hj=>?_⟩;have hjl:=(bp.1 hj).1;rw[d1.len]at hjl;rw[di (L4 hin hjl),fe];have:=d2 j d hj;rw[←Nat.add_assoc];simpa using this
   ·intro v hv;obtain⟨k,hk⟩:=List.mem_iff_getElem?.1 hv;have hkl:=(bp.1 hk).1;have hkn:k<n*e.width:=by simp at hkl;omega
    rw[di hkn,fe]at hk;have hw:0<e.width:=by
     rcases cg e.width with h|h
     ·rw[h]at hkn;simp at hkn
     ·exact h
    have hi:k/e.width<ys.length:=az ((Nat.div_lt_iff_lt_mul hw).2 hkn) hn;obtain⟨ds,d1,d2⟩:=hrow (k/e.width) _ (getD_some (d:=e.dflt) hi);have hdl:=d1.len;have hjl:k%e.width<ds.length:=by rw[hdl];exact cn _ hw
    have h2:=d2 (k%e.width) _ (bw hjl);have h3:q+k/e.width*e.width+k%e.width=q+k:=by
     have:=Nat.div_add_mod k e.width;rw[Nat.mul_comm]at this;omega
    rw[h3]at h2;have h4:vs.toList[q+k]? = some ds[k%e.width]:=by simpa using h2
    rw[hk]at h4;cases h4;exact d1.scalar _ (jd _)
  ·refine⟨[],by rw[hw0];simp[jl,loadCells,loadCellsFrom],by rw[hw0];simp,fun i x hi=>?_,by simp⟩;have hin:=(bp.1 hi).1;rw[hfirst]at hin;rw[di hin]at hi;obtain⟨ds,d1,d2⟩:=hrow i x hi;refine⟨ds,d1,fun j d hj=>?_⟩;have hjl:=(bp.1 hj).1;rw[d1.len,hw0]at hjl;omega
theorem gI{P:Program}{e:Shape}{ys:List (Ab e)}{y:Value}(hd:AJ σ.w σ.S (.slice e) ys [y]){n:Nat}(hn:n<=ys.length):
  ∃L:List Value,(jl e.width n y).run P σ.w=.ok L.toArray σ.w/\L.length=n*e.width/\RX σ.w σ.S e L (ys.take n)/\(∀v∈L,scalar v):=by
 obtain⟨A,c,hy,hc,hl,hne⟩:=hd;cases hy;exact aN7 (fun h=>by obtain⟨r,q,vs,T,fz,h1,_,h2,h3⟩:=hne h;exact⟨r,q,vs,T,fz,h1,h2,h3⟩) hn
theorem aEQ{w:World}{S:Nat->Prop}{e:Shape}{vs:Array Value}{xs ys:List (Ab e)}{L:List Value}{k:Nat}(hx:Rows w S e vs 0 xs)(hy:RX w S e L ys)(hl:L.length=ys.length*e.width)(hk:k<=xs.length)
  (hfit:k*e.width+L.length<=vs.size):Rows w S e (CP vs (k*e.width) L) 0 (xs.take k++ys++xs.drop (k+ys.length)):=by
 intro i x hi;rw[fy]at hi;have hkl:(xs.take k).length=k:=by simp;omega
 rcases bc i k with h1|h1
 ·rw[cw (by omega),di h1]at hi;obtain⟨ds,d1,d2⟩:=hx i x hi;refine⟨ds,d1,fun j d hj=>?_⟩;have hjl:=(bp.1 hj).1;rw[d1.len]at hjl;have:=L4 h1 hjl;rw[aED _ _ _ _ hfit,ag (by omega)];exact d2 j d hj
 ·rw[cm (by omega),hkl]at hi;rcases bc (i-k) ys.length with h2|h2
  ·rw[cw h2]at hi;obtain⟨ds,d1,d2⟩:=hy (i-k) x hi;refine⟨ds,d1,fun j d hj=>?_⟩;have hjl:=(bp.1 hj).1;rw[d1.len]at hjl;have h3:=L4 h2 hjl;have h4:(i-k)*e.width+k*e.width=i*e.width:=by rw[←cu];congr 1;omega
   rw[aED _ _ _ _ hfit,ah (by omega)];rw[show 0+i*e.width+j-k*e.width=(i-k)*e.width+j by omega];exact d2 j d hj
  ·rw[cm h2,fe]at hi;rw[show k+ys.length+(i-k-ys.length)=i by omega]at hi;obtain⟨ds,d1,d2⟩:=hx i x hi;refine⟨ds,d1,fun j d hj=>?_⟩;have h3:=bh e.width (show k+ys.length<=i by omega);rw[cu]at h3;rw[aED _ _ _ _ hfit,ag (by omega)];exact d2 j d hj
theorem RX.mono{w w':World}{S S':Nat->Prop}(hS:∀r,S r->S' r)(hH:∀r,S r->w'.heap[r]? = w.heap[r]?){e:Shape}{L:List Value}{xs:List (Ab e)}
  (h:RX w S e L xs):RX w' S' e L xs:=fun i x hi=>by
 obtain⟨ds,h1,h2⟩:=h i x hi
 exact⟨ds,h1.mono hS hH,h2⟩
theorem WC{P:Program}{e:Shape}{ys:List (Ab e)}{y:Value}(hd:AJ σ.w σ.S (.slice e) ys [y])(w:World):(Builtin.lenOf y).run P w=.ok ys.length w:=by
 obtain⟨A,c,hy,_⟩:=hd;cases hy;rfl
theorem bB5(ho:Ok base S0 σ)(hr:RelT σ s a)(hx:BH a ctx){c:Call}(hop:o.op=.call c)(hc:c.callee=.builtin .copy)(h:At C s ctx o=some (.ok true x mem')):BQ C base S0 id σ a o x mem':=by
 unfold At at h;rw[hop]at h;simp only[hc]at h;split at h
 ·rename_i y z T Ts e1 e2;split at h
  ·rename_i e b yc hT eb ey;split at h
   ·rename_i τ eτ;cases hf:Do s.mem yc with
    |mk yc' m1=>
     rw[hf]at h;simp only at h;rw[←hr.mem]at hf;obtain⟨σ1,a1,a2,a3,a4,a5,a6⟩:=Va ho hf;split at h
     ·rename_i ys τ' xs0 eys exs;split at h
      ·rename_i xs ecast;obtain⟨hττ,hxs⟩:=G3 ecast;subst hττ;simp only at hxs;subst hxs;simp only[ap,Res.ok.injEq,true_and]at h;obtain⟨rfl,rfl⟩:=h;have hd:=Wc (a6 _ (BJ hr hx ey)) (gN hf) (by rw[a1];exact eys);have hb:=a5.repC (BJ hr hx eb);rw[←a1]at exs;obtain⟨hlt,_,hm⟩:=hb;rw[exs]at hm;simp only at hm;cases hβ:σ1.E.β b with
       |none=>
        have hnil:xs=[]/\σ1.E.κ b=0:=by
         have he:=a4.ent b;unfold AE at he;rw[exs]at he;obtain⟨q1,q2,q3⟩:=he;rcases q3 with⟨_,q4⟩|⟨r,_,_,q4,_⟩
         ·exact⟨co (by omega),q4⟩
         ·rw[hβ]at q4;cases q4
        obtain⟨rfl,hκ⟩:=hnil;rw[hβ,hκ]at hm;have hset:m1.set b (.arr τ' (ys.take ([]:List (Ab τ')).length++([]:List (Ab τ')).drop ys.length))=m1:=by
         have e0:(ys.take ([]:List (Ab τ')).length++([]:List (Ab τ')).drop ys.length)=[]:=by simp
         rw[e0,←a1];exact i2 exs (by simp)
        rw[hset];obtain⟨L,f1,f2,f3,f4⟩:=gI (P:=C.P) hd (n:=0) (dv _);refine AY (σ':=σ1) (v:=.int .i64 ((min ys.length 0:Nat):Int)) ?_ a4 a5.moves a1 ⟨rfl,Vc (n:=min ys.length 0) (bv (lr _ _) (by decide))⟩;obtain⟨cs,hcs⟩:=H6 (a:=a) (P:=C.P) hop hc σ.w;rw[hcs,HS e1,W5 e2];simp only[builtin];refine BO ?_;unfold oa;simp only[gg,js,gq,gv,ip,hm,md,List.length_nil];have hmz:Nat.min ys.length 0=0:=Nat.min_zero _;simp only[cz,Cz hT,cd,WC hd,Fk (Ps eτ),JJ eτ,hmz];rw[←a2,f1];simp[goInt]
       |some r=>
       rw[hβ]at hm;have hy:=hm;simp only[kj]at hy;obtain⟨hl0,hl1,vs,T',h2,h3,h4⟩:=sX (a4.ent b) exs hβ;have hown:σ1.owned b r:=⟨by rw[exs];trivial,hβ⟩
       have hrl:=(a4.own b r hown).2.1;obtain⟨L,f1,f2,f3,f4⟩:=gI (P:=C.P) hd (n:=Nat.min ys.length xs.length) (mf _ _);have hmin:(ys.take (Nat.min ys.length xs.length)).length=Nat.min ys.length xs.length:=by simp
       have hnle:Nat.min ys.length xs.length<=xs.length:=lr _ _;have hfit:0*τ'.width+L.length<=vs.size:=by
        rw[f2,h3];have:=bh τ'.width (gb hnle hl0);omega
       have hrows:=aEQ (k:=0) h4 f3 (by rw[hmin];exact f2) (dv _) hfit;have hres:xs.take 0++ys.take (Nat.min ys.length xs.length)++xs.drop (0+(ys.take (Nat.min ys.length xs.length)).length)=ys.take xs.length++xs.drop ys.length:=by
        rw[hmin];simp only[List.take_zero,List.nil_append,dj];rcases ql ys.length xs.length with hle|hle
        ·have:Nat.min ys.length xs.length=ys.length:=ij hle;rw[this,de (ci _),de hle]
        ·have:Nat.min ys.length xs.length=xs.length:=lu hle;rw[this,jz (ci _),jz hle]
       rw[hres]at hrows;have hlen:(ys.take xs.length++xs.drop ys.length).length=xs.length:=by simp;omega
       obtain⟨g1,g2⟩:=vY a4 hown (e:=.arr τ' (ys.take xs.length++xs.drop ys.length)) (vs:=CP vs (0*τ'.width) L) (T:=T') (by rw[exs];exact⟨_,rfl,hlen⟩) (fun hg=>by
        unfold AE;simp only[Sit.store];rw[B9 hlt,ah rfl];exact⟨by rw[hlen];exact hl0,hl1,.inr ⟨r,_,T',hβ,Wy hrl,by rw[iR,h3],hrows.mono hg.stab hg.heap⟩⟩)
       refine AY (σ':=σ1.store b r (.arr τ' (ys.take xs.length++xs.drop ys.length)) (CP vs (0*τ'.width) L) T') (v:=.int .i64 ((min ys.length xs.length:Nat):Int)) ?_ g1 (a5.trans g2).moves (by simp[Sit.store,a1]) ⟨rfl,Vc (by omega)⟩;obtain⟨cs,hcs⟩:=H6 (a:=a) (P:=C.P) hop hc σ.w;rw[hcs,HS e1,W5 e2];simp only[builtin];refine BO ?_;unfold oa;simp only[gg,js,gq,gv,ip,hy];simp only[cz,Cz hT,cd,WC hd,Fk (Ps eτ),JJ eτ];rw[←a2,f1];simp only[cd];have h0:=iZ (P:=C.P) (r:=r) (o:=0) (T:=T') L 0 σ1.w vs h2 (by simpa using hfit) f4;rw[h0];simp[goInt,Sit.store]
      ·cases h
     ·cases h
   ·cases h
  ·rename_i e b lo n yc hT eb ey;split at h
   ·rename_i τ eτ;cases hf:Do s.mem yc with
    |mk yc' m1=>
     rw[hf]at h;simp only at h;rw[←hr.mem]at hf;obtain⟨σ1,a1,a2,a3,a4,a5,a6⟩:=Va ho hf;split at h
     ·rename_i ys τ' xs0 eys exs;split at h
      ·rename_i xs ecast;obtain⟨hττ,hxs⟩:=G3 ecast;subst hττ;simp only at hxs;subst hxs;simp only[ap,Res.ok.injEq,true_and]at h;obtain⟨rfl,rfl⟩:=h;have hd:=Wc (a6 _ (BJ hr hx ey)) (gN hf) (by rw[a1];exact eys);have hb:=a5.repC (BJ hr hx eb);rw[←a1]at exs;obtain⟨hlt,_,hm⟩:=hb;rw[exs]at hm;obtain⟨p1,A,cc,hy,p2,p3,p4⟩:=hm;obtain⟨L,f1,f2,f3,f4⟩:=gI (P:=C.P) hd (n:=Nat.min ys.length n) (mf _ _);have hmin:(ys.take (Nat.min ys.length n)).length=Nat.min ys.length n:=by
        rw[gz];exact ij (mf _ _)
       have hmn:Nat.min ys.length n<=n:=lr _ _;have htake:ys.take (Nat.min ys.length n)=ys.take n:=by
        rcases ql ys.length n with hle|hle
        ·have:Nat.min ys.length n=ys.length:=ij hle;rw[this,de (ci _),de hle]
        ·have:Nat.min ys.length n=n:=lu hle;rw[this]
       have hlen:(xs.take lo++ys.take n++xs.drop (lo+min ys.length n)).length=xs.length:=by
        rw[←htake];simp only[fc,hmin,gz,List.length_drop];show min lo xs.length+Nat.min ys.length n+(xs.length-(lo+Nat.min ys.length n))=_;omega
       by_cases hz:Nat.min ys.length n=0
       ·have e0:xs.take lo++ys.take n++xs.drop (lo+min ys.length n)=xs:=by
         have e1:ys.take n=[]:=by rw[←htake,hz];simp
         have e2:min ys.length n=0:=hz;rw[e1,e2];simp
        have hL:L=[]:=co (by rw[f2,hz];simp);rw[e0];refine AY (σ':=σ1) (v:=.int .i64 ((min ys.length n:Nat):Int)) ?_ a4 a5.moves (by rw[←a1];exact(i2 exs (by simp)).symm) ⟨rfl,Vc (n:=min ys.length n) (bv (show Nat.min ys.length n<=0 by omega) (by decide))⟩;obtain⟨cs,hcs⟩:=H6 (a:=a) (P:=C.P) hop hc σ.w;rw[hcs,HS e1,W5 e2];simp only[builtin];refine BO ?_;unfold oa;simp only[gg,js,gq,gv,ip,hy];simp only[cz,Cz hT,cd,WC hd,Fk (Ps eτ),JJ eτ];rw[←a2,f1,hL];cases A<;>simp[goInt,storeCells]
       ·obtain⟨r,hβ,rfl⟩:=p4 (by omega);obtain⟨hl0,hl1,vs,T',h2,h3,h4⟩:=sX (a4.ent b) exs hβ;have hown:σ1.owned b r:=⟨by rw[exs];trivial,hβ⟩
        have hrl:=(a4.own b r hown).2.1;have hfit:lo*τ'.width+L.length<=vs.size:=by
         rw[f2,h3,←cu];exact bh τ'.width (by omega)
        have hrows:=aEQ (k:=lo) h4 f3 (by rw[hmin];exact f2) (by omega) hfit;rw[hmin,htake]at hrows;obtain⟨g1,g2⟩:=vY a4 hown (e:=.arr τ' (xs.take lo++ys.take n++xs.drop (lo+min ys.length n))) (vs:=CP vs (lo*τ'.width) L) (T:=T') (by rw[exs];exact⟨_,rfl,hlen⟩) (fun hg=>by
         unfold AE;simp only[Sit.store];rw[B9 hlt,ah rfl];exact⟨by rw[hlen];exact hl0,hl1,.inr ⟨r,_,T',hβ,Wy hrl,by rw[iR,h3],hrows.mono hg.stab hg.heap⟩⟩)
        refine AY (σ':=σ1.store b r (.arr τ' (xs.take lo++ys.take n++xs.drop (lo+min ys.length n))) (CP vs (lo*τ'.width) L) T') (v:=.int .i64 ((min ys.length n:Nat):Int)) ?_ g1 (a5.trans g2).moves (by simp[Sit.store,a1]) ⟨rfl,Vc (by show Nat.min ys.length n<BU;omega)⟩;obtain⟨cs,hcs⟩:=H6 (a:=a) (P:=C.P) hop hc σ.w;rw[hcs,HS e1,W5 e2];simp only[builtin];refine BO ?_;unfold oa;simp only[gg,js,gq,gv,ip,hy];simp only[cz,Cz hT,cd,WC hd,Fk (Ps eτ),JJ eτ];rw[←a2,f1];simp only[cd];have h0:=iZ (P:=C.P) (r:=r) (o:=lo*τ'.width) (T:=T') L 0 σ1.w vs h2 (by simpa using hfit) f4;rw[h0];simp[goInt,Sit.store]
      ·cases h
     ·cases h
   ·cases h
  ·cases h
 ·cases h
end Vx
namespace Vx
open Go Go.RowKit
variable {C:Cfg}{base:Base}{S0:Nat->Prop}{σ:Sit}{s:St}{a:Act}{ctx:List (Nat×Bool)}{o:Oper}{x:TV}{mem':Ae}
theorem aOC:∀(r newLen c:Nat),256<=c->c<=2*newLen->rb newLen r c<=2*newLen
 |0,newLen,c,_,h=>h
 |r+1,newLen,c,h1,h2=>by
  unfold rb
  split
  ·exact h2
  ·exact aOC r newLen _ (by omega) (by omega)
theorem bBR{need cap:Nat}(h:cap<need):lm need cap<=2*need:=by
 unfold lm;split
 ·omega
 ·split
  ·omega
  ·exact aOC 4 need cap (by omega) (by omega)
theorem Moves.of_acc{σ σ':Sit}{b:Nat}(stab:∀r,σ.S r->σ'.S r)(heap:∀r,σ.S r->σ'.w.heap[r]? = σ.w.heap[r]?)(len:σ.mem.length<=σ'.mem.length)
  (turns:∀b',b'<σ.mem.length->b'≠b->BL σ σ' b') (hb:∃τ xs τ' xs',Ac σ.mem b=.acc τ xs/\Ac σ'.mem b=.acc τ' xs'):Moves (DQ b) σ σ':=by
 refine⟨stab,heap,fun c y hc=>?_,len,fun b' hb' ha=>by
  by_cases h:b'=b
  ·subst h;obtain⟨_,_,_,_,e,_⟩:=hb;rw[e];trivial
  ·have ht:=turns b' hb' h;unfold BL at ht;cases e:Ac σ.mem b' with
   |gone=>rw[e]at ht;simp only at ht;rw[ht]at ha;exact ha
   |raw cs=>rw[e]at ht;rcases ht with⟨_,cs',h2⟩|h2<;>(rw[h2]at ha;exact ha)
   |arr τ xs=>
    rw[e]at ht;rcases ht with⟨_,_,xs',h2,_⟩|⟨xs',h2,_⟩|h2
    ·rw[h2]at ha;exact ha
    ·rw[h2]at ha;exact ha
    ·rw[h2]at ha;exact ha
   |acc τ xs=>trivial
   |froz τ xs=>rw[e]at ht;simp only at ht;rw[ht]at ha;exact ha
   |itr s p=>rw[e]at ht;rcases ht with⟨_,_,_,h2⟩|h2<;>(rw[h2]at ha;exact ha)⟩
 have key:(∀b',c=.own b'->¬b'=b)->Aw σ' c y:=fun hne=>aQD stab heap len (fun b'=>b'=b) (fun b' hb'=>by
  by_cases h:b'=b
  ·subst h;exact .inr ⟨rfl,hb⟩
  ·exact .inl (turns b' hb' h)) hc hne
 cases c with
 |own b' =>
  simp only[DQ];cases hbb:Nat.beq b b' with
  |true=>exact hc.2.1
  |false=>exact key fun b'' e=>by cases e;intro e;subst e;simp[fg]at hbb
 |undef=>exact key fun _ e=>by cases e
 |v _=>exact key fun _ e=>by cases e
 |fl _ _=>exact key fun _ e=>by cases e
 |sl _ _=>exact key fun _ e=>by cases e
 |ptr _ _=>exact key fun _ e=>by cases e
 |eptr _ _ _=>exact key fun _ e=>by cases e
 |iptr _ _ _=>exact key fun _ e=>by cases e
 |sub _ _ _=>exact key fun _ e=>by cases e
 |gptr _=>exact key fun _ e=>by cases e
 |fnv _=>exact key fun _ e=>by cases e
 |ifv _=>exact key fun _ e=>by cases e
 |cx _ _ _=>exact key fun _ e=>by cases e
 |fn _ _=>exact key fun _ e=>by cases e
def Sit.grow(σ:Sit)(b:Nat)(e:Blk)(r:Option Nat)(k:Nat)(w':World):Sit:={E:={β:=AI σ.E.β b r,κ:=AI σ.E.κ b k},mem:=(σ.mem.set b e).map (D6 b),w:=w',S:=σ.S}
theorem aCQ{mem:Ae}{f:Blk->Blk}(hf:f .gone=.gone){b:Nat}:Ac (mem.map f) b=f (Ac mem b):=by
 unfold Ac;rw[List.getElem?_map];cases mem[b]?<;>simp[hf]
theorem Yy{b:Nat}{τ:Shape}{zs:List (Ab τ)}{r:Option Nat}{k:Nat}{w':World}(hb:b<σ.mem.length)(b':Nat):
  Ac (σ.grow b (.acc τ zs) r k w').mem b'=if b'=b then .acc τ zs else D6 b (Ac σ.mem b'):=by
 simp only[Sit.grow];rw[aCQ rfl,B9 hb];split<;>rfl
theorem bCE{b:Nat}{e:Blk}:LW (D6 b e)↔LW e:=by
 cases e<;>exact Iff.rfl
theorem aDW(ho:Ok base S0 σ){b:Nat}{τ:Shape}{xs zs:List (Ab τ)}(hb:Ac σ.mem b=.acc τ xs){r:Option Nat}{k:Nat}{w':World}
  (hw:Low base w') (hsz:σ.w.heap.size<=w'.heap.size) (hheap:∀q,q<σ.w.heap.size->σ.E.β b≠some q->w'.heap[q]? = σ.w.heap[q]?)
  (hr:∀q,r=some q->base.new q/\q<w'.heap.size/\(σ.E.β b=some q∨σ.w.heap.size<=q))
  (hlen:zs.length<=k) (hk:k<BU)
  (hat:(r=none/\k=0)∨∃q vs T,r=some q/\w'.heap[q]? = some (.cells vs T (0,0))/\vs.size=k*τ.width/\Rows w' σ.S τ vs 0 zs) :
  Ok base S0 (σ.grow b (.acc τ zs) r k w')/\Moves (DQ b) σ (σ.grow b (.acc τ zs) r k w')/\Aw (σ.grow b (.acc τ zs) r k w') (.own b) (.slice (r.map fun q=>⟨q,0,none⟩) zs.length k):=by
 have hlt:b<σ.mem.length:=DP (by rw[hb];simp);have hS:∀q,σ.S q->w'.heap[q]? = σ.w.heap[q]?:=fun q hq=>hheap q (ho.stab q hq).1 (fun e=>(ho.own b q ⟨by rw[hb];trivial,e⟩).2.2 hq);have hturn:∀b',b'<σ.mem.length->b'≠b->BL σ (σ.grow b (.acc τ zs) r k w') b':=fun b' hb' hne=>by
  have e1:Ac (σ.grow b (.acc τ zs) r k w').mem b'=D6 b (Ac σ.mem b'):=by rw[Yy hlt,ag hne]
  have e2:(σ.grow b (.acc τ zs) r k w').E.β b'=σ.E.β b':=by simp[Sit.grow,AI,hne]
  have e3:(σ.grow b (.acc τ zs) r k w').E.κ b'=σ.E.κ b':=by simp[Sit.grow,AI,hne]
  unfold BL;cases e:Ac σ.mem b' with
  |gone=>simp only;rw[e1,e];rfl
  |raw cs=>exact .inl ⟨e2,_,by rw[e1,e];rfl⟩
  |arr τ' ys=>exact .inl ⟨e2,e3,ys,by rw[e1,e];rfl,rfl⟩
  |acc τ' ys=>exact .inl ⟨e2,e3,by rw[e1,e];rfl⟩
  |froz τ' ys=>simp only;rw[e1,e];rfl
  |itr s p=>exact .inl ⟨e2,s,p,by rw[e1,e];rfl⟩
 have hmv:Moves (DQ b) σ (σ.grow b (.acc τ zs) r k w'):=
  Moves.of_acc (fun _ h=>h) (fun q hq=>hS q hq) (by simp[Sit.grow]) hturn ⟨τ,xs,τ,zs,hb,by rw[Yy hlt,ah rfl]⟩
 have hold:∀b' q,b'≠b->(σ.grow b (.acc τ zs) r k w').owned b' q->σ.owned b' q:=fun b' q hne ⟨h1,h2⟩=>by
  rw[Yy hlt,ag hne]at h1;exact⟨bCE.1 h1,by simpa[Sit.grow,AI,hne]using h2⟩
 have hnew:∀q,(σ.grow b (.acc τ zs) r k w').owned b q->r=some q:=fun q h=>by simpa[Sit.grow,AI]using h.2
 have hbown:∀q,σ.E.β b=some q->σ.owned b q:=fun q e=>⟨by rw[hb];trivial,e⟩
 refine⟨⟨hw,ho.stab0,fun q hq=>⟨az (ho.stab q hq).1 hsz,(ho.stab q hq).2⟩,fun b'=>?_,fun b' q h=>?_,fun b1 b2 q h1 h2=>?_⟩,hmv,?_⟩
 ·by_cases hbb:b'=b
  ·subst hbb;unfold AE;rw[Yy hlt,ah rfl];refine⟨by simpa[Sit.grow,AI]using hlen,by simpa[Sit.grow,AI]using hk,?_⟩;rcases hat with⟨h1,h2⟩|⟨q,vs,T,h1,h2,h3,h4⟩
   ·exact .inl ⟨by simp[Sit.grow,AI,h1],by simp[Sit.grow,AI,h2]⟩
   ·exact .inr ⟨q,vs,T,by simp[Sit.grow,AI,h1],h2,by simpa[Sit.grow,AI]using h3,h4⟩
  ·have he:=ho.ent b';have howned:∀q,σ.owned b' q->w'.heap[q]? = σ.w.heap[q]?:=fun q hq=>hheap q (ho.own b' q hq).2.1 (fun e=>hbb (ho.inj b' b q hq (hbown q e)));unfold AE at he⊢;rw[Yy hlt,ag hbb];have e2:(σ.grow b (.acc τ zs) r k w').E.β b'=σ.E.β b':=by simp[Sit.grow,AI,hbb]
   have e3:(σ.grow b (.acc τ zs) r k w').E.κ b'=σ.E.κ b':=by simp[Sit.grow,AI,hbb]
   cases e:Ac σ.mem b' with
   |gone=>trivial
   |froz τ' ys=>trivial
   |itr s p=>
    rw[e]at he;obtain⟨h0,q,h1,h2⟩:=he;exact⟨h0,q,e2.trans h1,(howned q ⟨by rw[e];trivial,h1⟩).trans h2⟩
   |raw cs=>
    rw[e]at he;obtain⟨q,vs,T,h1,h2,h3⟩:=he;exact⟨q,vs,T,e2.trans h1,(howned q ⟨by rw[e];trivial,h1⟩).trans h2,h3.mapL (DQ b) hmv.rep⟩
   |arr τ' ys=>
    rw[e]at he;obtain⟨h0,h00,h⟩:=he;refine⟨by rw[e3];exact h0,by rw[e3];exact h00,?_⟩;rcases h with⟨h1,h2⟩|⟨q,vs,T,h1,h2,h3,h4⟩
    ·exact .inl ⟨e2.trans h1,e3.trans h2⟩
    ·exact .inr ⟨q,vs,T,e2.trans h1,(howned q ⟨by rw[e];trivial,h1⟩).trans h2,by rw[e3];exact h3,h4.mono (fun _ h=>h) hS⟩
   |acc τ' ys=>
    rw[e]at he;obtain⟨h0,h00,h⟩:=he;refine⟨by rw[e3];exact h0,by rw[e3];exact h00,?_⟩;rcases h with⟨h1,h2⟩|⟨q,vs,T,h1,h2,h3,h4⟩
    ·exact .inl ⟨e2.trans h1,e3.trans h2⟩
    ·exact .inr ⟨q,vs,T,e2.trans h1,(howned q ⟨by rw[e];trivial,h1⟩).trans h2,by rw[e3];exact h3,h4.mono (fun _ h=>h) hS⟩
 ·by_cases hbb:b'=b
  ·subst hbb;obtain⟨g1,g2,g3⟩:=hr q (hnew q h);refine⟨g1,g2,fun hs=>?_⟩;rcases g3 with g3|g3
   ·exact(ho.own b' q (hbown q g3)).2.2 hs
   ·exact absurd (ho.stab q hs).1 (by omega)
  ·have:=ho.own b' q (hold b' q hbb h);exact⟨this.1,az this.2.1 hsz,this.2.2⟩
 ·have key:∀b' q,b'≠b->(σ.grow b (.acc τ zs) r k w').owned b' q->r=some q->False:=fun b' q hne h e=>by
   have h':=hold b' q hne h;rcases(hr q e).2.2 with g|g
   ·exact hne (ho.inj b' b q h' (hbown q g))
   ·exact absurd (ho.own b' q h').2.1 (by omega)
  by_cases hb1:b1=b<;>by_cases hb2:b2=b
  ·rw[hb1,hb2]
  ·subst hb1;exact(key b2 q hb2 h2 (hnew q h1)).elim
  ·subst hb2;exact(key b1 q hb1 h1 (hnew q h2)).elim
  ·exact ho.inj b1 b2 q (hold b1 q hb1 h1) (hold b2 q hb2 h2)
 ·refine⟨by simp[Sit.grow];exact hlt,ak,?_⟩;rw[Yy hlt,ah rfl];simp[Sit.grow,AI]
theorem bJa{P:Program}{e:TypeId}(h:PZ P e=true):∃z:Value,z.cells.size=P.cellsOf e/\∀w,(zeroValue e).run P w=.ok z w:=by
 unfold PZ at h;split at h
 ·rename_i x ex;obtain⟨z,h1,h2⟩:=jG (P:=P) (σ:=⟨⟨fun _=>none,fun _=>0⟩,[],default,fun _=>False⟩) ex;refine⟨z,?_,h2⟩;have:=h1.cells.length;rw[ZL h]at this;simpa using this.symm
 ·cases h
theorem aOV{L1 L2:List Value}{rest:Array Value}{q:Nat}:((L1.toArray++L2.toArray)++rest)[q]? = if q<L1.length then L1[q]? else if q<L1.length+L2.length then L2[q-L1.length]? else rest[q-(L1.length+L2.length)]?:=by
 rw[oq,oq];simp only[qf,qg,gq];by_cases h1:q<L1.length
 ·rw[ah (by omega),ah h1,ah h1]
 ·by_cases h2:q<L1.length+L2.length
  ·rw[ah h2,ag h1,ag h1,ah h2]
  ·rw[ag h2,ag h1,ag h2]
theorem aQM{w:World}{S S':Nat->Prop}{τ:Shape}{L:List Value}{xs:List (Ab τ)}(hc:∀(x:Ab τ) (ds:List Value),AJ w S τ x ds->AJ w S' τ x ds)(h:RX w S τ L xs):RX w S' τ L xs:=fun i x hi=>by
 obtain⟨ds,d1,d2⟩:=h i x hi
 exact⟨ds,hc x ds d1,d2⟩
theorem aMc(ho:Ok base S0 σ){Sd:Nat->Prop}{b:Nat}{τ:Shape}{xs ys:List (Ab τ)}{yv:Value}{T T2 e:TypeId}{ty:TypeId}{e2:TypeId}{Ts:List TypeId}(hb:Ac σ.mem b=.acc τ xs)(hd:AJ σ.w Sd (.slice τ) ys [yv])(hconv:∀(w:World) (x:Ab τ) (ds:List Value),AJ w Sd τ x ds->AJ w σ.S τ x ds)
  (hT:C.P.underlying T=some (.slice e)) (hT2:C.P.underlying T2=some (.slice e2)) (eτ:CD C.P e=some τ) (hg:((xs.length:Int)+(ys.length:Int))*2*(C.P.bytesOf e:Int)<=EA) (hby:0<C.P.bytesOf e) (hz:PZ C.P e=true) :
  ∃r k w',(jx (T::T2::Ts).toArray ty #[.slice ((σ.E.β b).map fun r=>⟨r,0,none⟩) xs.length (σ.E.κ b),yv]).run C.P σ.w=.ok (.slice (r.map fun q=>⟨q,0,none⟩) (xs++ys).length k) w' /\
   Ok base S0 (σ.grow b (.acc τ (xs++ys)) r k w')/\Moves (DQ b) σ (σ.grow b (.acc τ (xs++ys)) r k w')/\Aw (σ.grow b (.acc τ (xs++ys)) r k w') (.own b) (.slice (r.map fun q=>⟨q,0,none⟩) (xs++ys).length k):=by
 have he:=ho.ent b
 unfold AE at he
 rw[hb]at he
 obtain⟨hle,hlim,hblk⟩:=he
 have hw:=JJ eτ
 have hsize:∀w,(Go.sizeOf e).run C.P w=.ok τ.width w:=fun w=>by rw[Fk (Ps eτ),hw]
 obtain⟨ie,hie⟩:=Ps eτ
 have hbytes:ie.bytes=C.P.bytesOf e:=by simp[qu,hie]
 have hneed:xs.length+ys.length<=70368744177664:=by
  have h1:(((xs.length+ys.length)*2*C.P.bytesOf e:Nat):Int)<=EA:=by push_cast;exact hg
  have h2:(xs.length+ys.length)*2*C.P.bytesOf e<=140737488355328:=by unfold EA at h1;omega
  have h3:=Nat.le_mul_of_pos_right ((xs.length+ys.length)*2) hby
  omega
 obtain⟨L,f1,f2,f3,f4⟩:=gI (P:=C.P) (σ:={σ with S:=Sd}) hd (ci ys.length)
 rw[dw]at f3
 have f3:=aQM (hconv σ.w) f3
 by_cases hroom:xs.length+ys.length<=σ.E.κ b
 ·rcases hblk with⟨h1,h2⟩|⟨r,vs,T',h1,h2,h3,h4⟩
  ·have hx0:xs=[]:=co (by omega)
   have hy0:ys=[]:=co (by omega)
   subst hx0;subst hy0
   obtain⟨k1,k2,k3⟩:=aDW ho hb (zs:=[]) (r:=none) (k:=0) (w':=σ.w) ho.below (ci _) (fun _ _ _=>rfl) (fun q hq=>by cases hq) (by simp) (by unfold BU;omega) (.inl ⟨rfl,rfl⟩)
   refine⟨none,0,σ.w,?_,k1,k2,k3⟩
   unfold jx
   simp[Cz hT,Cz hT2,hsize,WC (σ:={σ with S:=Sd}) hd,h1,h2]
   rw[show(0:Nat)=([]:List (Ab τ)).length from rfl,f1]
   simp
  ·have hfit:xs.length*τ.width+L.length<=vs.size:=by
    rw[f2,h3,←cu]
    exact bh _ hroom
   have hrows:=aEQ (k:=xs.length) h4 f3 f2 (ci _) hfit
   rw[dw,jz (by omega),du]at hrows
   have hrl:=(ho.own b r ⟨by rw[hb];trivial,h1⟩)
   have hS:∀q,σ.S q->(C7 σ.w r (.cells (CP vs (xs.length*τ.width) L) T' (0,0))).heap[q]? = σ.w.heap[q]?:=fun q hq=>PH (fun e=>hrl.2.2 (e▸hq))
   obtain⟨k1,k2,k3⟩:=aDW ho hb (zs:=xs++ys) (r:=some r) (k:=σ.E.κ b) (w':=C7 σ.w r (.cells (CP vs (xs.length*τ.width) L) T' (0,0)))
    (ho.below.step rfl rfl rfl (by simp[C7]) (fun k _ hn=>PH (fun e=>hn (e▸hrl.1)))) (by simp[C7]) (fun q _ hne=>PH (fun e=>hne (e▸h1))) (fun q hq=>by cases hq;exact⟨hrl.1,by rw[i4];exact hrl.2.1,.inl h1⟩)
    (by simpa using hroom) hlim (.inr ⟨r,_,T',rfl,Wy hrl.2.1,by rw[iR];exact h3,hrows.mono (fun _ h=>h) hS⟩)
   refine⟨some r,σ.E.κ b,_,?_,k1,k2,k3⟩
   have h0:=iZ (P:=C.P) (r:=r) (o:=xs.length*τ.width) (T:=T') L 0 σ.w vs h2 (by simpa using hfit) f4
   unfold jx
   simp[Cz hT,Cz hT2,hsize,WC (σ:={σ with S:=Sd}) hd,h1,hroom,f1,LA]
   rw[h0]
   simp
 ·obtain⟨z,z1,z2⟩:=bJa hz
  have hnext:lm (xs.length+ys.length) (σ.E.κ b)*C.P.bytesOf e<=281474976710656:=by
   have h1:=bBR (need:=xs.length+ys.length) (cap:=σ.E.κ b) (by omega)
   have h2:=bh (C.P.bytesOf e) h1
   have h3:((2*(xs.length+ys.length)*C.P.bytesOf e:Nat):Int)<=EA:=by
    push_cast
    have:(2:Int)*((xs.length:Int)+(ys.length:Int))=((xs.length:Int)+(ys.length:Int))*2:=om _ _
    rw[this]
    exact hg
   unfold EA at h3
   omega
  obtain⟨L0,g1,g2,g3,g4⟩:=aN7 (P:=C.P) (w:=σ.w.drew) (S:=σ.S) (e:=τ) (ys:=xs) (A:=(σ.E.β b).map fun r=>⟨r,0,none⟩) (m:=xs.length) (c:=σ.E.κ b) (fun hne=>by
   rcases hblk with⟨h1,h2⟩|⟨r,vs,T',h1,h2,h3,h4⟩
   ·exact absurd (co (by omega)) hne
   ·exact⟨r,0,vs,T',(0,0),by rw[h1];rfl,h2,Rows.mono (w:=σ.w) (w':=σ.w.drew) (fun _ h=>h) (fun _ _=>rfl) h4⟩) (ci xs.length)
  rw[dw]at g3
  obtain⟨L',f1',f2',f3',f4'⟩:=gI (P:=C.P) (σ:={σ with w:=σ.w.drew,S:=Sd}) (AJ.mono (w:=σ.w) (w':=σ.w.drew) (fun _ h=>h) (fun _ _=>rfl) hd) (ci ys.length)
  rw[dw]at f3'
  have f3':=aQM (hconv σ.w.drew) f3'
  let q:Question:=.appendCap (xs.length+ys.length) (σ.E.κ b) e
  let k:=xs.length+ys.length+σ.w.tape σ.w.drawn q%(2^63-(xs.length+ys.length))
  have hk:xs.length+ys.length<=k/\k<BU:=by
   have hpos:0<2^63-(xs.length+ys.length):=by omega
   have:=cn (σ.w.tape σ.w.drawn q) hpos
   unfold BU
   omega
  let vs':Array Value:=L0.toArray++L'.toArray++nu z.cells (k-(xs.length+ys.length))
  have hzs:(nu z.cells (k-(xs.length+ys.length))).size=(k-(xs.length+ys.length))*τ.width:=by
   simp[nu,z1,hw]
  have hvs:vs'.size=k*τ.width:=by
   simp only[vs',qf,qg,hzs,g2,f2']
   rw[←cu,←cu]
   congr 1
   omega
  have hrows:Rows (σ.w.drew.alloc (.cells vs' e)) σ.S τ vs' 0 (xs++ys):=by
   have hS:∀p,σ.S p->(σ.w.drew.alloc (.cells vs' e)).heap[p]? = σ.w.drew.heap[p]?:=fun p hp=>PF (ho.stab p hp).1
   intro i x hi
   rcases bc i xs.length with h1|h1
   ·rw[cw h1]at hi
    obtain⟨ds,d1,d2⟩:=g3 i x hi
    refine⟨ds,d1.mono (fun _ h=>h) hS,fun j d hj=>?_⟩
    have hjl:=(bp.1 hj).1
    rw[d1.len]at hjl
    have:=L4 h1 hjl
    simp only[vs']
    rw[aOV,ah (by omega),dj]
    exact d2 j d hj
   ·rw[cm h1]at hi
    have h2:=(bp.1 hi).1
    obtain⟨ds,d1,d2⟩:=f3' (i-xs.length) x hi
    refine⟨ds,d1.mono (fun _ h=>h) hS,fun j d hj=>?_⟩
    have hjl:=(bp.1 hj).1
    rw[d1.len]at hjl
    have h3:=L4 h2 hjl
    have h4:(i-xs.length)*τ.width+xs.length*τ.width=i*τ.width:=by rw[←cu];congr 1;omega
    simp only[vs']
    rw[aOV,ag (by omega),ah (by omega)]
    rw[show 0+i*τ.width+j-L0.length=(i-xs.length)*τ.width+j by omega]
    exact d2 j d hj
  obtain⟨k1,k2,k3⟩:=aDW ho hb (zs:=xs++ys) (r:=some σ.w.heap.size) (k:=k) (w':=σ.w.drew.alloc (.cells vs' e)) (ho.below.drew.alloc _) (by simp)
   (fun p hp _=>PF (w:=σ.w.drew) hp) (fun p hp=>by cases hp;exact⟨.inl ho.below.size,by simp,.inr (ci _)⟩) (by simpa using hk.1) hk.2
   (.inr ⟨σ.w.heap.size,vs',e,rfl,PG (w:=σ.w.drew),hvs,hrows⟩)
  refine⟨some σ.w.heap.size,k,_,?_,k1,k2,k3⟩
  have hti:∀w,(typeInfo e).run C.P w=.ok ie w:=fun w=>by simp[typeInfo,hie]
  have hn1:¬((xs.length+ys.length:Nat):Int)>IntKind.i64.max:=by
   simp[mi,jr,ji];omega
  have hn2:¬lm (xs.length+ys.length) (σ.E.κ b)*ie.bytes>2^48:=by rw[hbytes];omega
  have hcut:(choose (.appendCap (xs.length+ys.length) (σ.E.κ b) e)).run C.P σ.w=.ok k σ.w.drew:=by
   simp[q,k,Question.forced,Question.cut]
  unfold jx
  simp only[gq,gv,ip,cz,Cz hT,Cz hT2,cd,hsize,ej,px,if_false,WC (σ:={σ with S:=Sd}) hd,ag hroom,hti]
  rw[ag (fun h=>hn1 h.1)]
  simp only[cz,hti,cd]
  rw[ag hn2]
  have f1'':(jl τ.width ys.length yv).run C.P σ.w.drew=.ok L'.toArray σ.w.drew:=f1'
  simp only[cz,hcut,cd,hti,run_askRoom,g1,z2,ej]
  simp[newRow,vs',f1'']
theorem aMb(ho:Ok base S0 σ){b:Nat}{τ:Shape}{xs ys:List (Ab τ)}{yv:Value}{T T2 e:TypeId}{ty:TypeId}{e2:TypeId}{Ts:List TypeId}(hb:Ac σ.mem b=.acc τ xs)(hd:AJ σ.w σ.S (.slice τ) ys [yv])
  (hT:C.P.underlying T=some (.slice e)) (hT2:C.P.underlying T2=some (.slice e2)) (eτ:CD C.P e=some τ) (hg:((xs.length:Int)+(ys.length:Int))*2*(C.P.bytesOf e:Int)<=EA) (hby:0<C.P.bytesOf e) (hz:PZ C.P e=true) :
  ∃r k w',(jx (T::T2::Ts).toArray ty #[.slice ((σ.E.β b).map fun r=>⟨r,0,none⟩) xs.length (σ.E.κ b),yv]).run C.P σ.w=.ok (.slice (r.map fun q=>⟨q,0,none⟩) (xs++ys).length k) w' /\
   Ok base S0 (σ.grow b (.acc τ (xs++ys)) r k w')/\Moves (DQ b) σ (σ.grow b (.acc τ (xs++ys)) r k w')/\Aw (σ.grow b (.acc τ (xs++ys)) r k w') (.own b) (.slice (r.map fun q=>⟨q,0,none⟩) (xs++ys).length k):=
 aMc ho hb hd (fun _ _ _ h=>h) hT hT2 eτ hg hby hz
def aTd(C:Cfg)(base:Base)(S0:Nat->Prop)(b:Nat)(σ:Sit)(a:Act)(o:Oper)(mem':Ae):Prop:=BQ C base S0 (DQ b) σ a o (.val (.one (.own b))) (mem'.map (D6 b))
theorem Goes.dropMoves{σ σ1 σ2:Sit}{b:Nat}(h:Goes σ σ1)(h':Moves (DQ b) σ1 σ2):Moves (DQ b) σ σ2:=
 ⟨fun r hr=>h'.stab r (h.stab r hr),fun r hr=>(h'.heap r (h.stab r hr)).trans (h.heap r hr),fun c y hc=>h'.rep c y (h.repC hc),gb h.len h'.len,fun b hb ha=>h.noacc b hb (h'.noacc b (az hb h.len) ha)⟩
theorem vQ{n b:Nat}(h:CK n b=true):(n:Int)*2*(b:Int)<=EA:=by
 have h:=Nat.le_of_ble_eq_true h;have e:((n*2*b:Nat):Int)=(n:Int)*2*(b:Int):=by rw[kl,kl];rfl
 rw[←e];exact Int.ofNat_le.2 h
theorem bBY(ho:Ok base S0 σ)(hr:RelT σ s a)(hx:BH a ctx){c:Call}(hop:o.op=.call c)(hc:c.callee=.builtin .append)(h:Yf C s ctx c=some (.ok true x mem')):
  ∃b,x=.val (.one (.own b))/\(∃τ xs,Ac mem' b=.acc τ xs)/\HQ (Ac (mem'.map (D6 b)) b)/\aTd C base S0 b σ a o mem':=by
 unfold Yf at h;simp only at h;split at h
 ·rename_i y z T T2 Ts e1 e2;split at h
  ·rename_i e e3 ac yc hT hT2 ea ey;split at h
   ·rename_i τ eτ;cases hf:Do s.mem yc with
    |mk yc' m1=>
     rw[hf]at h;simp only at h;rw[←hr.mem]at hf;obtain⟨σ1,a1,a2,a3,a4,a5,a6⟩:=Va ho hf;have hya:=BJ hr hx ey;have hexec:∀{v w'},(jx (T::T2::Ts).toArray o.type #[a.eval y,a.eval z]).run C.P σ.w=.ok v w'->(execOp a.eval o).run C.P σ.w=.ok (.value v) w':=fun hv=>by
      obtain⟨cs,hcs⟩:=H6 (a:=a) (P:=C.P) hop hc σ.w;rw[hcs,HS e1,W5 e2];simp only[builtin];exact BO hv
     split at h
     ·rename_i ys eys;simp only[ap,Res.ok.injEq,ar]at h;obtain⟨⟨⟨g1,g2⟩,g3⟩,rfl,rfl⟩:=h;have hd:=Wc (a6 _ hya) (gN hf) (by rw[a1];exact eys);obtain⟨hay,_⟩:=BJ hr hx ea;have ho2:=aEk a4 τ;have hg2:=uT σ1 (.acc τ []);have hb2:Ac (σ1.name (.acc τ [])).mem σ1.mem.length=.acc τ []:=Ex;have hβ:(σ1.name (.acc τ [])).E.β σ1.mem.length=none:=by simp[Sit.name,AI]
      have hκ:(σ1.name (.acc τ [])).E.κ σ1.mem.length=0:=by simp[Sit.name,AI]
      obtain⟨r,k,w',k1,k2,k3,k4⟩:=aMb (C:=C) (T2:=T2) (ty:=o.type) (Ts:=Ts) ho2 hb2 (hd.mono hg2.stab hg2.heap) hT hT2 eτ (by simpa using vQ g1) (by simpa using g2) g3;rw[hβ,hκ]at k1;refine⟨σ1.mem.length,by rw[a1],⟨τ,_,by rw[←a1];exact Ex⟩,by rw[←a1,aCQ rfl,Ex];trivial,AY (σ':=_) (v:=.slice (r.map fun q=>⟨q,0,none⟩) (([]:List (Ab τ))++ys).length k) ?_ k2 ((a5.trans hg2).dropMoves k3) ?_ k4⟩
      ·refine hexec ?_;rw[hay];have:(σ1.name (.acc τ [])).w=σ.w:=by simp[Sit.name,a2]
       rw[this]at k1;exact k1
      ·simp[Sit.grow,Sit.name,a1]
     ·rename_i ys b eys;split at h
      ·rename_i τ' xs0 eb;split at h
       ·rename_i xs ecast;obtain⟨hττ,hxs⟩:=G3 ecast;subst hττ;simp only at hxs;subst hxs;simp only[ap,Res.ok.injEq,ar,ai]at h;obtain⟨⟨⟨g1,g2⟩,g3⟩,rfl,rfl⟩:=h;have hd:=Wc (a6 _ hya) (gN hf) (by rw[a1];exact eys);have hb:=a5.repC (BJ hr hx ea);rw[←a1]at eb;obtain⟨hlt,_,hm⟩:=hb;rw[eb]at hm;obtain⟨r,k,w',k1,k2,k3,k4⟩:=aMb (C:=C) (T2:=T2) (ty:=o.type) (Ts:=Ts) a4 eb hd hT hT2 eτ (by have:=vQ g1;rw[ng]at this;exact this) (by simpa using g2) g3;refine⟨b,rfl,⟨_,_,by rw[←a1,B9 hlt,ah rfl]⟩,by rw[←a1,aCQ rfl,B9 hlt,ah rfl];trivial,AY (σ':=_) (v:=.slice (r.map fun q=>⟨q,0,none⟩) (xs++ys).length k) ?_ k2 (a5.dropMoves k3) ?_ k4⟩
        ·refine hexec ?_;rw[hm,←a2];exact k1
        ·simp[Sit.grow,a1]
       ·cases h
      ·cases h
     ·cases h
   ·cases h
  ·cases h
 ·cases h
end Vx
namespace Vx
open Go Go.RowKit
def Di(w:World)(S:Nat->Prop)(a:Bool)(τ:Shape)(x:Ab τ)(y:Value):Prop:=
 match a with
 |true=>∃cs:List Value,y=.agg cs.toArray/\AJ w S τ x cs
 |false=>AJ w S τ x [y]
def Ft(w:World)(S:Nat->Prop)(τ:Shape)(xs:List (Ab τ))(y:Value)(rs:List Nat):Prop:=∃k,xs.length<=k/\k<BU/\((y=.slice none xs.length k/\k=0/\rs=[]) ∨ ∃r vs T,y=.slice (some ⟨r,0,none⟩) xs.length k/\rs=[r]/\w.heap[r]? = some (.cells vs T (0,0))/\vs.size=k*τ.width/\Rows w S τ vs 0 xs)
def EO(w:World)(S:Nat->Prop)(a:Bool):(τ:Shape)->Ab τ->Value->List Nat->Prop
 |.slice e,x,y,rs=>(match a with
  |true=>Ft w S e x y rs
  |false=>rs=[]/\Di w S false (.slice e) x y)
 |.int k,x,y,rs=>rs=[]/\Di w S a (.int k) x y
 |.flt k,x,y,rs=>rs=[]/\Di w S a (.flt k) x y
 |.bool,x,y,rs=>rs=[]/\Di w S a .bool x y
 |.str,x,y,rs=>rs=[]/\Di w S a .str x y
 |.fn,x,y,rs=>rs=[]/\Di w S a .fn x y
 |.unit,x,y,rs=>rs=[]/\Di w S a .unit x y
 |.pair σ τ,x,y,rs=>rs=[]/\Di w S a (.pair σ τ) x y
 |.box σ,x,y,rs=>rs=[]/\Di w S a (.box σ) x y
 |.ifc,x,y,rs=>rs=[]/\Di w S a .ifc x y
 |.pfn,x,y,rs=>rs=[]/\Di w S a .pfn x y
 |.cx k,x,y,rs=>rs=[]/\Di w S a (.cx k) x y
def B4(w:World)(S:Nat->Prop):(sg:Aa)->DenS sg->List Value->List Nat->Prop
 | [],_,ys,rs=>ys=[]/\rs=[]
 |(a,τ)::sg,x,ys,rs=>∃y ys' r1 r2,ys=y::ys'/\rs=r1++r2/\EO w S a τ x.1 y r1/\B4 w S sg x.2 ys' r2
theorem Di.mono{w w':World}{S S':Nat->Prop}(hS:∀r,S r->S' r)(hH:∀r,S r->w'.heap[r]? = w.heap[r]?){a:Bool}{τ:Shape}{x:Ab τ}{y:Value}(h:Di w S a τ x y):Di w' S' a τ x y:=by
 cases a with
 |true=>obtain⟨cs,h1,h2⟩:=h;exact⟨cs,h1,h2.mono hS hH⟩
 |false=>exact AJ.mono hS hH h
theorem EO.mono{w w':World}{S S':Nat->Prop}(hS:∀r,S r->S' r)(hH:∀r,S r->w'.heap[r]? = w.heap[r]?){a:Bool}{τ:Shape}{x:Ab τ}{y:Value}{rs:List Nat}(hR:∀r∈rs,w'.heap[r]? = w.heap[r]?)(h:EO w S a τ x y rs):EO w' S' a τ x y rs:=by
 cases τ with
 |slice e=>
  cases a with
  |true=>
   obtain⟨k,h1,h2,h3⟩:=h;refine⟨k,h1,h2,?_⟩;rcases h3 with h3|⟨r,vs,T,h4,rfl,h5,h6,h7⟩
   ·exact .inl h3
   ·exact .inr ⟨r,vs,T,h4,rfl,(hR r (by simp)).trans h5,h6,h7.mono hS hH⟩
  |false=>exact⟨h.1,h.2.mono hS hH⟩
 |_=>exact⟨h.1,Di.mono hS hH h.2⟩
theorem B4.mono{w w':World}{S S':Nat->Prop}(hS:∀r,S r->S' r)(hH:∀r,S r->w'.heap[r]? = w.heap[r]?):∀{sg:Aa} {x:DenS sg} {ys:List Value} {rs:List Nat},(∀r∈rs,w'.heap[r]? = w.heap[r]?)->B4 w S sg x ys rs->B4 w' S' sg x ys rs
 | [],_,_,_,_,h=>h
 |(a,τ)::sg,_,_,_,hR,⟨y,ys',r1,r2,h1,h2,h3,h4⟩=>by
  subst h2
  exact⟨y,ys',r1,r2,h1,rfl,h3.mono hS hH (fun r hr=>hR r (dt.2 (.inl hr))),h4.mono hS hH (fun r hr=>hR r (dt.2 (.inr hr)))⟩
variable {base:Base}{S0:Nat->Prop}{σ:Sit}
theorem WE(ho:Ok base S0 σ){b:Nat}{τ:Shape}{xs:List (Ab τ)}(he:Ac σ.mem b=.arr τ xs∨Ac σ.mem b=.acc τ xs){y:Value}(hy:Aw σ (.own b) y):
  ∃(σ':Sit) (rs:List Nat),σ'.mem=σ.mem.set b .gone/\σ'.w=σ.w/\σ'.E=σ.E/\σ'.S=σ.S/\Ok base S0 σ'/\Goes σ σ'/\Ft σ.w σ.S τ xs y rs/\rs.Nodup/\(∀r∈rs,(∃b,σ.owned b r)/\∀b,¬σ'.owned b r)/\∀b r,σ'.owned b r->σ.owned b r:=by
 have hlt:b<σ.mem.length:=DP (by rcases he with h|h<;>rw[h]<;>simp);have hset:∀b',Ac (σ.mem.set b .gone) b'=if b'=b then .gone else Ac σ.mem b':=fun b'=>B9 hlt;have hold:∀b' r,Sit.owned ⟨σ.E,σ.mem.set b .gone,σ.w,σ.S⟩ b' r->σ.owned b' r/\b'≠b:=fun b' r ⟨h1,h2⟩=>by
  simp only at h1;rw[hset]at h1;split at h1
  ·exact h1.elim
  ·rename_i hne;exact⟨⟨h1,h2⟩,hne⟩
 have hg:Goes σ ⟨σ.E,σ.mem.set b .gone,σ.w,σ.S⟩:=by
  refine⟨fun _ h=>h,fun _ _=>rfl,by simp,fun b' hb'=>?_⟩;by_cases hbb:b'=b
  ·subst hbb;have hgone:Ac (σ.mem.set b' .gone) b'=.gone:=by rw[hset,ah rfl]
   unfold BL;rcases he with h|h
   ·rw[h];exact .inr (.inr hgone)
   ·rw[h];exact .inr (.inr hgone)
  ·exact BL.refl (by simp only;rw[hset,ag hbb]) rfl rfl
 have hok:Ok base S0 ⟨σ.E,σ.mem.set b .gone,σ.w,σ.S⟩:=by
  refine⟨ho.below,ho.stab0,ho.stab,fun b'=>?_,fun b' r h=>ho.own b' r (hold b' r h).1,fun b1 b2 r h1 h2=>ho.inj b1 b2 r (hold b1 r h1).1 (hold b2 r h2).1⟩;by_cases hbb:b'=b
  ·subst hbb;unfold AE;simp only;rw[hset,ah rfl];trivial
  ·exact AE.keep hg (by simp only;rw[hset,ag hbb]) rfl rfl (fun _ _=>rfl) (ho.ent b')
 have hent:xs.length<=σ.E.κ b/\σ.E.κ b<BU/\((σ.E.β b=none/\σ.E.κ b=0) ∨
   ∃r vs T,σ.E.β b=some r/\σ.w.heap[r]? = some (.cells vs T (0,0))/\vs.size=σ.E.κ b*τ.width/\Rows σ.w σ.S τ vs 0 xs):=by
  have:=ho.ent b;unfold AE at this;rcases he with h|h
  ·rw[h]at this;exact this
  ·rw[h]at this;exact this
 have hyv:y=.slice ((σ.E.β b).map fun r=>⟨r,0,none⟩) xs.length (σ.E.κ b):=by
  obtain⟨_,_,hm⟩:=hy;rcases he with h|h
  ·rw[h]at hm;exact hm
  ·rw[h]at hm;exact hm
 obtain⟨h1,h2,h3⟩:=hent;rcases h3 with⟨h4,h5⟩|⟨r,vs,T,h4,h5,h6,h7⟩
 ·rw[h4]at hyv;exact⟨⟨σ.E,σ.mem.set b .gone,σ.w,σ.S⟩,[],rfl,rfl,rfl,rfl,hok,hg,⟨_,h1,h2,.inl ⟨hyv,h5,rfl⟩⟩,jt,fun r hr=>by simp at hr,fun b' r h=>(hold b' r h).1⟩
 ·rw[h4]at hyv;have hown:σ.owned b r:=⟨by rcases he with h|h<;>rw[h]<;>trivial,h4⟩
  refine⟨⟨σ.E,σ.mem.set b .gone,σ.w,σ.S⟩,[r],rfl,rfl,rfl,rfl,hok,hg,⟨_,h1,h2,.inr ⟨r,vs,T,hyv,rfl,h5,h6,h7⟩⟩,by simp,fun r' hr'=>?_,fun b' r h=>(hold b' r h).1⟩;simp at hr';subst hr';exact⟨⟨b,hown⟩,fun b' h=>(hold b' r' h).2 (ho.inj b' b r' (hold b' r' h).1 hown)⟩
theorem bIK(ho:Ok base S0 σ){a:Bool}{τ:Shape}{z:SV}{y:Value}(hz:Bv σ z y){x:Ab τ}{mem':Ae}(h:J1 σ.mem a τ z=some (x,mem')):
  ∃(σ':Sit) (rs:List Nat),σ'.mem=mem'/\σ'.w=σ.w/\σ'.E=σ.E/\σ'.S=σ.S/\Ok base S0 σ'/\Goes σ σ'/\EO σ.w σ.S a τ x y rs/\rs.Nodup/\(∀r∈rs,(∃b,σ.owned b r)/\∀b,¬σ'.owned b r)/\∀b r,σ'.owned b r->σ.owned b r:=by
 have plain:∀{a:Bool} {τ:Shape} {x:Ab τ},C6 σ.mem a τ z=some (x,mem')->mem'=σ.mem/\Di σ.w σ.S a τ x y:=fun {a τ x} h=>by
  unfold C6 at h;split at h
  ·rename_i c;cases a with
   |true=>cases h
   |false=>
    simp only[ab]at h;split at h
    ·rename_i u eu;cases h;obtain⟨y1,y2,e,d,r⟩:=H2 (All2.cons hz All2.nil) eu;cases r;rw[du]at e;exact⟨rfl,by show AJ _ _ _ _ _;rw[e];exact d⟩
    ·cases h
  ·rename_i cs;cases a with
   |false=>cases h
   |true=>
    simp only[aa]at h;split at h
    ·rename_i u eu;cases h;obtain⟨zs,e0,ha⟩:=hz;obtain⟨y1,y2,e,d,r⟩:=H2 ha eu;cases r;rw[du]at e;exact⟨rfl,zs,e0,by rw[e];exact d⟩
    ·cases h
 have CR:∀{rs:List Nat},mem'=σ.mem->rs=[]->EO σ.w σ.S a τ x y rs->∃(σ':Sit) (rs:List Nat),σ'.mem=mem'/\σ'.w=σ.w/\σ'.E=σ.E/\σ'.S=σ.S/\Ok base S0 σ'/\Goes σ σ'/\EO σ.w σ.S a τ x y rs/\rs.Nodup/\(∀r∈rs,(∃b,σ.owned b r)/\∀b,¬σ'.owned b r)/\∀b r,σ'.owned b r->σ.owned b r:=
  fun hm hr he=>⟨σ,_,hm.symm,rfl,rfl,rfl,ho,Goes.refl σ,he,by subst hr;exact jt,fun r h=>by subst hr;simp at h,fun _ _ h=>h⟩
 cases τ with
 |slice e=>
  cases a with
  |false=>obtain⟨h1,h2⟩:=plain h;exact CR h1 rfl ⟨rfl,h2⟩
  |true=>
   simp only[J1,aa]at h;split at h
   ·rename_i b;split at h
    ·rename_i τ' xs eb;split at h
     ·rename_i xs' ec;cases h;obtain⟨hττ,hxs⟩:=G3 ec;subst hττ;simp only at hxs;subst hxs;exact WE ho (.inl eb) hz
     ·cases h
    ·rename_i τ' xs eb;split at h
     ·rename_i xs' ec;cases h;obtain⟨hττ,hxs⟩:=G3 ec;subst hττ;simp only at hxs;subst hxs;exact WE ho (.inr eb) hz
     ·cases h
    ·cases h
   ·cases h;exact CR rfl rfl ⟨0,ci _,by decide,.inl ⟨hz.1,rfl,rfl⟩⟩
   ·cases h
 |_=>obtain⟨h1,h2⟩:=plain h;exact CR h1 rfl ⟨rfl,h2⟩
theorem jA:∀{sg:Aa} {σ:Sit} (_:Ok base S0 σ) {args:List SV} {ys:List Value} (_:All2 (Bv σ) args ys) {x:DenS sg} {mem':Ae},CQ σ.mem sg args=some (x,mem') ->
  ∃(σ':Sit) (rs:List Nat),σ'.mem=mem'/\σ'.w=σ.w/\σ'.E=σ.E/\σ'.S=σ.S/\Ok base S0 σ'/\Goes σ σ'/\B4 σ.w σ.S sg x ys rs/\rs.Nodup/\(∀r∈rs,(∃b,σ.owned b r)/\∀b,¬σ'.owned b r)/\∀b r,σ'.owned b r->σ.owned b r
 | [],σ,ho,[],_,.nil,x,mem',h=>by
  simp only[CQ]at h;cases h
  exact⟨σ,[],rfl,rfl,rfl,rfl,ho,Goes.refl σ,⟨rfl,rfl⟩,jt,fun r h=>by simp at h,fun _ _ h=>h⟩
 | [],σ,ho,_::_,_,_,x,mem',h=>by simp[CQ]at h
 |_::_,σ,ho,[],_,_,x,mem',h=>by simp[CQ]at h
 |(a,τ)::sg,σ,ho,z::args,_,.cons (b:=y) (bs:=ys) hz ht,x,mem',h=>by
  simp only[CQ]at h
  split at h
  ·rename_i u m1 e1
   split at h
   ·rename_i v m2 e2
    cases h
    obtain⟨σ1,r1,a1,a2,a3,a4,a5,a6,a7,a8,a9,a10⟩:=bIK ho hz e1
    rw[←a1]at e2
    obtain⟨σ2,r2,b1,b2,b3,b4,b5,b6,b7,b8,b9,b10⟩:=jA a5 (ht.mono fun _ _=>a6.repV) e2
    rw[a2,a4]at b7
    refine⟨σ2,r1++r2,b1,b2.trans a2,b3.trans a3,b4.trans a4,b5,a6.trans b6,⟨y,ys,r1,r2,rfl,rfl,a7,b7⟩,?_,fun r hr=>?_,fun b r h=>a10 b r (b10 b r h)⟩
    ·refine ko.2 ⟨a8,b8,fun r h1 r' h2 e=>?_⟩
     subst e
     obtain⟨b,hb⟩:=(b9 r h2).1
     exact(a9 r h1).2 b hb
    ·rcases dt.1 hr with hr|hr
     ·exact⟨(a9 r hr).1,fun b h=>(a9 r hr).2 b (b10 b r h)⟩
     ·obtain⟨⟨b,hb⟩,h2⟩:=b9 r hr
      exact⟨⟨b,a10 b r hb⟩,h2⟩
   ·cases h
  ·cases h
theorem Ww:∀{sg:Aa} {σ:Sit} (_:Ok base S0 σ) {args args':List SV} {mem':Ae},BK σ.mem sg args=(args',mem') ->
  ∃σ':Sit,σ'.mem=mem'/\σ'.w=σ.w/\σ'.E=σ.E/\Ok base S0 σ'/\Goes σ σ'/\∀ys,All2 (Bv σ) args ys->All2 (Bv σ') args' ys
 | [],σ,ho,args,args',mem',h=>by
  simp only[BK]at h;cases h
  exact⟨σ,rfl,rfl,rfl,ho,Goes.refl σ,fun _ h=>h⟩
 |_::_,σ,ho,[],args',mem',h=>by
  simp only[BK]at h;cases h
  exact⟨σ,rfl,rfl,rfl,ho,Goes.refl σ,fun _ h=>h⟩
 |(a,τ)::sg,σ,ho,z::args,args',mem',h=>by
  simp only[BK]at h
  cases hb:FD a τ with
  |true=>
   rw[hb]at h
   simp only[aa]at h
   cases e:BK σ.mem sg args with
   |mk r' m' =>
    rw[e]at h;simp only at h;cases h
    obtain⟨σ1,a1,a2,a3,a4,a5,a6⟩:=Ww ho e
    exact⟨σ1,a1,a2,a3,a4,a5,fun ys hy=>by
     cases hy with
     |cons h1 h2=>exact .cons (a5.repV h1) (a6 _ h2)⟩
  |false=>
   rw[hb]at h
   simp only[ab]at h
   cases e1:F9 σ.mem z with
   |mk z' m1=>
    rw[e1]at h;simp only at h
    obtain⟨σ1,a1,a2,a3,a4,a5,a6⟩:=aOk ho e1
    cases e2:BK m1 sg args with
    |mk r' m' =>
     rw[e2]at h;simp only at h;cases h
     rw[←a1]at e2
     obtain⟨σ2,b1,b2,b3,b4,b5,b6⟩:=Ww a4 e2
     refine⟨σ2,b1,b2.trans a2,b3.trans a3,b4,a5.trans b5,fun ys hy=>?_⟩
     cases hy with
     |cons h1 h2=>exact .cons (b5.repV (a6 _ h1)) (b6 _ (h2.mono fun _ _=>a5.repV))
def Eo(base:Base)(σ:Sit)(r:Nat):Prop:=base.new r/\r<σ.w.heap.size/\¬σ.S r/\∀b,¬σ.owned b r
theorem aOx(ho:Ok base S0 σ){τ:Shape}{xs:List (Ab τ)}{g:Blk}(hgb:g=.arr τ xs∨g=.acc τ xs){y:Value}{rs:List Nat}(h:Ft σ.w σ.S τ xs y rs)(hl:∀r∈rs,Eo base σ r):
  ∃σ':Sit,σ'.mem=σ.mem++[g]/\σ'.w=σ.w/\σ'.S=σ.S/\Ok base S0 σ'/\Goes σ σ'/\Aw σ' (.own σ.mem.length) y/\∀b r,σ'.owned b r->σ.owned b r∨r∈rs:=by
 obtain⟨k,h1,h2,h3⟩:=h;have main:∀(A:Option Nat),y=.slice (A.map fun r=>⟨r,0,none⟩) xs.length k->(∀r,A=some r->r∈rs)->((A=none/\k=0)∨∃r vs T,A=some r/\σ.w.heap[r]? = some (.cells vs T (0,0))/\vs.size=k*τ.width/\Rows σ.w σ.S τ vs 0 xs) ->
   ∃σ':Sit,σ'.mem=σ.mem++[g]/\σ'.w=σ.w/\σ'.S=σ.S/\Ok base S0 σ'/\Goes σ σ'/\Aw σ' (.own σ.mem.length) y/\∀b r,σ'.owned b r->σ.owned b r∨r∈rs:=fun A hy hA hc=>by
  let σ':Sit:={E:=⟨AI σ.E.β σ.mem.length A,AI σ.E.κ σ.mem.length k⟩,mem:=σ.mem++[g],w:=σ.w,S:=σ.S}
  have hblk:Ac σ'.mem σ.mem.length=g:=Ex;have hold:∀b r,b≠σ.mem.length->σ'.owned b r->σ.owned b r:=fun b r hne ⟨g1,g2⟩=>by
   rcases bc b σ.mem.length with hb|hb
   ·simp only[σ']at g1 g2;rw[HV hb]at g1;exact⟨g1,by simpa[AI,hne]using g2⟩
   ·simp only[σ']at g1;rw[U0 (by omega)]at g1;exact g1.elim
  have hnew:∀r,σ'.owned σ.mem.length r->A=some r:=fun r ⟨_,g2⟩=>by simpa[σ',AI]using g2
  have hg:Goes σ σ':=⟨fun _ h=>h,fun _ _=>rfl,by simp[σ'],fun b hb=>BL.refl (HV hb) (by simp[σ',AI];omega) (by simp[σ',AI];omega)⟩
  refine⟨σ',rfl,rfl,rfl,⟨ho.below,ho.stab0,ho.stab,fun b=>?_,fun b r h=>?_,fun b b' r h h'=>?_⟩,hg,⟨by simp[σ'],by rw[hy];trivial,?_⟩,fun b r h=>?_⟩
  ·by_cases hb:b=σ.mem.length
   ·subst hb;unfold AE;rw[hblk];rcases hgb with rfl|rfl;all_goals
    refine⟨by simpa[σ',AI]using h1,by simpa[σ',AI]using h2,?_⟩;rcases hc with⟨g1,g2⟩|⟨r,vs,T,g1,g2,g3,g4⟩
    ·exact .inl ⟨by simp[σ',AI,g1],by simp[σ',AI,g2]⟩
    ·exact .inr ⟨r,vs,T,by simp[σ',AI,g1],g2,by simpa[σ',AI]using g3,g4⟩
   ·rcases bc b σ.mem.length with h' | h'
    ·exact AE.keep hg (HV h') (by simp[σ',AI,hb]) (by simp[σ',AI,hb]) (fun _ _=>rfl) (ho.ent b)
    ·unfold AE;simp only[σ'];rw[U0 (by omega)];trivial
  ·by_cases hb:b=σ.mem.length
   ·subst hb;have:=hl r (hA r (hnew r h));exact⟨this.1,this.2.1,this.2.2.1⟩
   ·exact ho.own b r (hold b r hb h)
  ·by_cases hb:b=σ.mem.length<;>by_cases hb':b'=σ.mem.length
   ·rw[hb,hb']
   ·subst hb;exact((hl r (hA r (hnew r h))).2.2.2 b' (hold b' r hb' h')).elim
   ·subst hb';exact((hl r (hA r (hnew r h'))).2.2.2 b (hold b r hb h)).elim
   ·exact ho.inj b b' r (hold b r hb h) (hold b' r hb' h')
  ·rw[hblk];rcases hgb with rfl|rfl<;>simp only[σ',AI,if_true]<;>exact hy
  ·by_cases hb:b=σ.mem.length
   ·subst hb;exact .inr (hA r (hnew r h))
   ·exact .inl (hold b r hb h)
 rcases h3 with⟨g1,g2,g3⟩|⟨r,vs,T,g1,g2,g3,g4,g5⟩
 ·exact main none g1 (fun r h=>by cases h) (.inl ⟨rfl,g2⟩)
 ·subst g2;exact main (some r) g1 (fun r' h=>by cases h;simp) (.inr ⟨r,vs,T,rfl,g3,g4,g5⟩)
theorem aOw(ho:Ok base S0 σ){τ:Shape}{xs:List (Ab τ)}{y:Value}{rs:List Nat}(h:Ft σ.w σ.S τ xs y rs)(hl:∀r∈rs,Eo base σ r):
  ∃σ':Sit,σ'.mem=σ.mem++[.arr τ xs]/\σ'.w=σ.w/\σ'.S=σ.S/\Ok base S0 σ'/\Goes σ σ'/\Aw σ' (.own σ.mem.length) y/\∀b r,σ'.owned b r->σ.owned b r∨r∈rs:=aOx ho (.inl rfl) h hl
theorem bAS(ho:Ok base S0 σ){a:Bool}{τ:Shape}{x:Ab τ}{y:Value}{rs:List Nat}(h:EO σ.w σ.S a τ x y rs)(hl:∀r∈rs,Eo base σ r){v:SV}{mem':Ae}(hg:DE σ.mem a τ x=some (v,mem')):
  ∃σ':Sit,σ'.mem=mem'/\σ'.w=σ.w/\σ'.S=σ.S/\Ok base S0 σ'/\Goes σ σ'/\Bv σ' v y/\∀b r,σ'.owned b r->σ.owned b r∨r∈rs:=by
 have plain:∀{a:Bool} {τ:Shape} {x:Ab τ},Di σ.w σ.S a τ x y->DE.giveP σ.mem a τ x=some (v,mem')->∃σ':Sit,σ'.mem=mem'/\σ'.w=σ.w/\σ'.S=σ.S/\Ok base S0 σ'/\Goes σ σ'/\Bv σ' v y/\∀b r,σ'.owned b r->σ.owned b r∨r∈rs:=fun {a τ x} hp e=>by
  unfold DE.giveP at e;cases a with
  |true=>
   simp only[aa,ap]at e;cases e;obtain⟨cs,h4,h5⟩:=hp;exact⟨σ,rfl,rfl,rfl,ho,Goes.refl σ,⟨cs,h4,LG h5⟩,fun _ _ h=>.inl h⟩
  |false=>
   simp only[ab]at e;split at e
   ·rename_i c ec;cases e;have:=LG (σ:=σ) hp;rw[ec]at this;cases this with
    |cons h _=>exact⟨σ,rfl,rfl,rfl,ho,Goes.refl σ,h,fun _ _ h=>.inl h⟩
   ·cases e
 cases τ with
 |slice e=>
  cases a with
  |true=>
   simp only[DE,aa,ap]at hg;cases hg;exact aOw ho h hl
  |false=>exact plain h.2 hg
 |_=>exact plain h.2 hg
theorem Yx:∀{sg:Aa} {σ:Sit} (_:Ok base S0 σ) {x:DenS sg} {ys:List Value} {rs:List Nat} (_:B4 σ.w σ.S sg x ys rs) (_:rs.Nodup) (_:∀r∈rs,Eo base σ r) {vs:List SV} {mem':Ae},Cg σ.mem sg x=some (vs,mem') ->
  ∃σ':Sit,σ'.mem=mem'/\σ'.w=σ.w/\σ'.S=σ.S/\Ok base S0 σ'/\Goes σ σ'/\All2 (Bv σ') vs ys
 | [],σ,ho,x,ys,rs,h,_,_,vs,mem',e=>by
  simp only[Cg]at e;cases e
  obtain⟨rfl,_⟩:=h
  exact⟨σ,rfl,rfl,rfl,ho,Goes.refl σ,.nil⟩
 |(a,τ)::sg,σ,ho,x,ys,rs,h,hn,hl,vs,mem',e=>by
  simp only[Cg]at e
  obtain⟨y,ys',r1,r2,rfl,rfl,h1,h2⟩:=h
  split at e
  ·rename_i v m1 e1
   split at e
   ·rename_i r m2 e2
    cases e
    obtain⟨n1,n2,n3⟩:=ko.1 hn
    obtain⟨σ1,a1,a2,a3,a4,a5,a6,a7⟩:=bAS ho h1 (fun r hr=>hl r (dt.2 (.inl hr))) e1
    rw[←a1]at e2
    rw[←a2,←a3]at h2
    obtain⟨σ2,b1,b2,b3,b4,b5,b6⟩:=Yx a4 h2 n2 (fun r hr=>by
     obtain⟨l1,l2,l3,l4⟩:=hl r (dt.2 (.inr hr))
     refine⟨l1,by rw[a2];exact l2,by rw[a3];exact l3,fun b hb=>?_⟩
     rcases a7 b r hb with g|g
     ·exact l4 b g
     ·exact n3 r g r hr rfl) e2
    exact⟨σ2,b1,b2.trans a2,b3.trans a3,b4,a5.trans b5,.cons (b5.repV a6) b6⟩
   ·cases e
  ·cases e
theorem bII(ho:Ok base S0 σ){a:Bool}{τ:Shape}{z:SV}{x:Ab τ}{mem':Ae}(h:J1 σ.mem a τ z=some (x,mem')):
  ∃σ':Sit,σ'.mem=mem'/\σ'.w=σ.w/\Ok base S0 σ'/\Goes σ σ'/\mem'.length=σ.mem.length:=by
 have plain:∀{a:Bool} {τ:Shape} {x:Ab τ},C6 σ.mem a τ z=some (x,mem')->mem'=σ.mem:=fun {a τ x} h=>by
  unfold C6 at h;cases z<;>cases a<;>simp only[aa,ab]at h<;>first|(cases h;done)|skip
  ·split at h
   ·cases h;rfl
   ·cases h
  ·split at h
   ·cases h;rfl
   ·cases h
 have same:mem'=σ.mem->∃σ':Sit,σ'.mem=mem'/\σ'.w=σ.w/\Ok base S0 σ'/\Goes σ σ'/\mem'.length=σ.mem.length:=fun e=>⟨σ,e.symm,rfl,ho,Goes.refl σ,by rw[e]⟩
 have gone:∀{b:Nat} {τ:Shape} {xs:List (Ab τ)},Ac σ.mem b=.arr τ xs∨Ac σ.mem b=.acc τ xs->mem'=σ.mem.set b .gone->∃σ':Sit,σ'.mem=mem'/\σ'.w=σ.w/\Ok base S0 σ'/\Goes σ σ'/\mem'.length=σ.mem.length:=fun {b τ xs} he e=>by
  have hy:Aw σ (.own b) (.slice ((σ.E.β b).map fun r=>⟨r,0,none⟩) xs.length (σ.E.κ b)):=by
   refine⟨DP (by rcases he with h|h<;>rw[h]<;>simp),ak,?_⟩;rcases he with h|h
   ·rw[h]
   ·rw[h]
  obtain⟨σ',rs,a1,a2,a3,a4,a5,a6,_⟩:=WE ho he hy;exact⟨σ',a1.trans e.symm,a2,a5,a6,by rw[e];simp⟩
 cases τ with
 |slice e=>
  cases a with
  |false=>exact same (plain h)
  |true=>
   simp only[J1,aa]at h;split at h
   ·split at h
    ·rename_i eb;split at h
     ·cases h;exact gone (.inl eb) rfl
     ·cases h
    ·rename_i eb;split at h
     ·cases h;exact gone (.inr eb) rfl
     ·cases h
    ·cases h
   ·cases h;exact same rfl
   ·cases h
 |_=>exact same (plain h)
theorem aSN:∀{sg:Aa} {σ:Sit} (_:Ok base S0 σ) {args:List SV} {x:DenS sg} {mem':Ae},CQ σ.mem sg args=some (x,mem')->∃σ':Sit,σ'.mem=mem'/\σ'.w=σ.w/\Ok base S0 σ'/\Goes σ σ'/\mem'.length=σ.mem.length
 | [],σ,ho,[],x,mem',h=>by simp only[CQ]at h;cases h;exact⟨σ,rfl,rfl,ho,Goes.refl σ,rfl⟩
 | [],σ,ho,_::_,x,mem',h=>by simp[CQ]at h
 |_::_,σ,ho,[],x,mem',h=>by simp[CQ]at h
 |(a,τ)::sg,σ,ho,z::args,x,mem',h=>by
  simp only[CQ]at h
  split at h
  ·rename_i u m1 e1
   split at h
   ·rename_i v m2 e2
    cases h
    obtain⟨σ1,a1,a2,a3,a4,a5⟩:=bII ho e1
    rw[←a1]at e2
    obtain⟨σ2,b1,b2,b3,b4,b5⟩:=aSN a3 e2
    exact⟨σ2,b1,b2.trans a2,b3,a4.trans b4,by rw[b5,a1,a5]⟩
   ·cases h
  ·cases h
theorem aNd:∀{l:List (Nat×Nat)} {mem m:Ae} {ns:List Nat},JH mem l=some (ns,m)->m.length=mem.length
 | [],mem,m,ns,h=>by simp only[JH]at h;cases h;rfl
 |(b,off+1)::l,mem,m,ns,h=>by simp[JH]at h
 |(b,0)::l,mem,m,ns,h=>by
  simp only[JH]at h
  split at h
  ·split at h
   ·rename_i e2
    cases h
    rw[aNd e2]
    simp
   ·cases h
  ·cases h
theorem bAz:∀{sg:Aa} {mem:Ae} {args args':List SV} {mem':Ae},BK mem sg args=(args',mem')->mem'.length=mem.length:=by
 have h1:∀(mem:Ae) (c:SC),(Do mem c).2.length=mem.length:=fun mem c=>by
  unfold Do;split
  ·split
   ·rename_i e;exact aNd e
   ·rfl
  ·split<;>simp
  ·rfl
 have h2:∀(l:List SC) (mem:Ae),(Fg mem l).2.length=mem.length:=fun l=>by
  induction l with
  |nil=>intro mem;rfl
  |cons c r ih=>intro mem;simp only[Fg];rw[ih,h1]
 have h3:∀(mem:Ae) (z:SV),(F9 mem z).2.length=mem.length:=fun mem z=>by
  cases z with
  |one c=>simp only[F9];exact h1 mem c
  |agg cs=>simp only[F9];exact h2 cs mem
 intro sg;induction sg with
 |nil=>intro mem args args' mem' h;simp only[BK]at h;cases h;rfl
 |cons p sg ih=>
  intro mem args args' mem' h;obtain⟨a,τ⟩:=p;cases args with
  |nil=>simp only[BK]at h;cases h;rfl
  |cons z r=>
   simp only[BK]at h;cases hb:FD a τ with
   |true=>
    rw[hb]at h;simp only[aa]at h;cases e:BK mem sg r with
    |mk r' m'=>rw[e]at h;simp only at h;cases h;exact ih e
   |false=>
    rw[hb]at h;simp only[ab]at h;cases e:BK (F9 mem z).2 sg r with
    |mk r' m'=>rw[e]at h;simp only at h;cases h;rw[ih e,h3]
theorem aDU:∀{sg:Aa} {mem:Ae} {x:DenS sg} {vs:List SV} {mem':Ae},Cg mem sg x=some (vs,mem')->∃l,mem'=mem++l
 | [],mem,x,vs,mem',h=>by simp only[Cg]at h;cases h;exact⟨[],by simp⟩
 |(a,τ)::sg,mem,x,vs,mem',h=>by
  simp only[Cg]at h
  split at h
  ·rename_i v m1 e1
   split at h
   ·rename_i r m2 e2
    cases h
    obtain⟨l2,h2⟩:=aDU e2
    have plain:∀{τ:Shape} {y:Ab τ},DE.giveP mem a τ y=some (v,m1)->m1=mem:=fun {τ y} h=>by
     unfold DE.giveP at h
     cases a with
     |true=>simp only[aa]at h;cases h;rfl
     |false=>
      simp only[ab]at h
      split at h
      ·cases h;rfl
      ·cases h
    have h1:∃l,m1=mem++l:=by
     cases τ with
     |slice e=>
      simp only[DE]at e1
      cases a with
      |true=>simp only[aa]at e1;cases e1;exact⟨_,rfl⟩
      |false=>
       simp only[ab]at e1
       split at e1
       ·cases e1;exact⟨[],by simp⟩
       ·cases e1
     |_=>exact⟨[],by rw[du];exact plain e1⟩
    obtain⟨l1,h1⟩:=h1
    exact⟨l1++l2,by rw[h2,h1,fy]⟩
   ·cases h
  ·cases h
theorem aDV{sg:Aa}{mem:Ae}{x:DenS sg}{vs:List SV}{mem':Ae}(h:Cg mem sg x=some (vs,mem'))(hl:mem'.length=mem.length):mem'=mem:=by
 obtain⟨l,rfl⟩:=aDU h;have:l=[]:=co (by rw[fc]at hl;omega);rw[this,du]
end Vx
namespace Vx
open Go Go.RowKit
def Vt(w:World)(S:Nat->Prop):(k:LK)->k.D->Value->Value->List Nat->Prop
 |.win e,x,y,y0,rs=>Ft w S e x.1 y0 rs/\x.2.1+x.2.2<=x.1.length/\∃A c,y=.slice A x.2.2 c/\x.2.2<=c/\c<BU /\
   (0<x.2.2->∃r k,y0=.slice (some ⟨r,0,none⟩) x.1.length k/\A=some ⟨r,x.2.1*e.width,none⟩)
 |.ref τ,x,y,y0,rs=>y0=y/\∃r vs T,y=.pointer (some ⟨r,0,none⟩)/\rs=[r]/\w.heap[r]? = some (.cells vs T (0,0))/\AJ w S τ x vs.toList
def L8(w:World)(S:Nat->Prop):(k:LK)->k.B->Value->List Nat->Prop
 |.win e,xs,y0,rs=>Ft w S e xs y0 rs
 |.ref τ,x,y0,rs=>∃r vs T,y0=.pointer (some ⟨r,0,none⟩)/\rs=[r]/\w.heap[r]? = some (.cells vs T (0,0))/\AJ w S τ x vs.toList
theorem Ft.mono{w w':World}{S S':Nat->Prop}(hS:∀r,S r->S' r)(hH:∀r,S r->w'.heap[r]? = w.heap[r]?){e:Shape}{xs:List (Ab e)}{y:Value}{rs:List Nat}(hR:∀r∈rs,w'.heap[r]? = w.heap[r]?)(h:Ft w S e xs y rs):Ft w' S' e xs y rs:=by
 obtain⟨k,h1,h2,h3⟩:=h;refine⟨k,h1,h2,?_⟩;rcases h3 with h3|⟨r,vs,T,h4,rfl,h5,h6,h7⟩
 ·exact .inl h3
 ·exact .inr ⟨r,vs,T,h4,rfl,(hR r (by simp)).trans h5,h6,h7.mono hS hH⟩
theorem Vt.mono{w w':World}{S S':Nat->Prop}(hS:∀r,S r->S' r)(hH:∀r,S r->w'.heap[r]? = w.heap[r]?){k:LK}{x:k.D}{y y0:Value}{rs:List Nat}(hR:∀r∈rs,w'.heap[r]? = w.heap[r]?)(h:Vt w S k x y y0 rs):Vt w' S' k x y y0 rs:=by
 cases k with
 |win e=>exact⟨h.1.mono hS hH hR,h.2⟩
 |ref τ=>
  obtain⟨h1,r,vs,T,h2,rfl,h3,h4⟩:=h;exact⟨h1,r,vs,T,h2,rfl,(hR r (by simp)).trans h3,h4.mono hS hH⟩
theorem L8.mono{w:World}{S S':Nat->Prop}(hS:∀r,S r->S' r){k:LK}{x:k.B}{y0:Value}{rs:List Nat}(h:L8 w S k x y0 rs):L8 w S' k x y0 rs:=by
 cases k with
 |win e=>exact Ft.mono hS (fun _ _=>rfl) (fun _ _=>rfl) h
 |ref τ=>
  obtain⟨r,vs,T,h2,h2',h3,h4⟩:=h;exact⟨r,vs,T,h2,h2',h3,h4.mono hS (fun _ _=>rfl)⟩
def Was(σ:Sit)(k:LK)(b:Nat)(y0:Value):Prop:=
 b<σ.mem.length/\match k with
  |.win e=>∃xs:List (Ab e),Ac σ.mem b=.arr e xs/\y0=.slice ((σ.E.β b).map fun r=>⟨r,0,none⟩) xs.length (σ.E.κ b)
  |.ref _=>∃cs r,Ac σ.mem b=.raw cs/\σ.E.β b=some r/\y0=.pointer (some ⟨r,0,none⟩)
variable {base:Base}{S0:Nat->Prop}{σ:Sit}
theorem aL6{α β:Type}{R R':α->β->Prop}:∀{as:List α} {bs:List β},All2 R as bs->(∀a b,a∈as->R a b->R' a b)->All2 R' as bs
 |_,_,.nil,_=>.nil
 |_,_,.cons h t,hR=>.cons (hR _ _ (by simp) h) (aL6 t fun a b ha=>hR a b (by simp[ha]))
theorem BL.same{σ σ' σ'':Sit}{b:Nat}(h:BL σ σ' b)(hm:Ac σ''.mem b=Ac σ'.mem b)(hβ:σ''.E.β b=σ'.E.β b)(hκ:σ''.E.κ b=σ'.E.κ b)(hw:σ''.w=σ'.w)(hS:σ''.S=σ'.S):BL σ σ'' b:=by
 unfold BL at h⊢;cases e:Ac σ.mem b with
 |gone=>rw[e]at h;simp only at h⊢;rw[hm];exact h
 |raw cs=>rw[e]at h;simp only at h⊢;rw[hm,hβ];exact h
 |arr τ xs=>rw[e]at h;simp only at h⊢;rw[hm,hβ,hκ,hw,hS];exact h
 |acc τ xs=>rw[e]at h;simp only at h⊢;rw[hm,hβ,hκ,hw,hS];exact h
 |froz τ xs=>rw[e]at h;simp only at h⊢;rw[hm];exact h
 |itr s p=>rw[e]at h;simp only at h⊢;rw[hm,hβ];exact h
theorem bBd(ho:Ok base S0 σ){b:Nat}{cs:List SC}(he:Ac σ.mem b=.raw cs):
  ∃σ':Sit,σ'.mem=σ.mem.set b .gone/\σ'.w=σ.w/\σ'.E=σ.E/\σ'.S=σ.S/\Ok base S0 σ'/\Goes σ σ'/\(∀r,σ.E.β b=some r->∀b,¬σ'.owned b r)/\∀b r,σ'.owned b r->σ.owned b r:=by
 have hlt:b<σ.mem.length:=DP (by rw[he];simp);have hset:∀b',Ac (σ.mem.set b .gone) b'=if b'=b then .gone else Ac σ.mem b':=fun b'=>B9 hlt;have hold:∀b' r,Sit.owned ⟨σ.E,σ.mem.set b .gone,σ.w,σ.S⟩ b' r->σ.owned b' r/\b'≠b:=fun b' r ⟨h1,h2⟩=>by
  simp only at h1;rw[hset]at h1;split at h1
  ·exact h1.elim
  ·rename_i hne;exact⟨⟨h1,h2⟩,hne⟩
 have hg:Goes σ ⟨σ.E,σ.mem.set b .gone,σ.w,σ.S⟩:=by
  refine⟨fun _ h=>h,fun _ _=>rfl,by simp,fun b' hb'=>?_⟩;by_cases hbb:b'=b
  ·subst hbb;unfold BL;rw[he];exact .inr (by rw[hset,ah rfl])
  ·exact BL.refl (by simp only;rw[hset,ag hbb]) rfl rfl
 refine⟨⟨σ.E,σ.mem.set b .gone,σ.w,σ.S⟩,rfl,rfl,rfl,rfl,?_,hg,fun r hr b' h=>?_,fun b' r h=>(hold b' r h).1⟩
 ·refine⟨ho.below,ho.stab0,ho.stab,fun b'=>?_,fun b' r h=>ho.own b' r (hold b' r h).1,fun b1 b2 r h1 h2=>ho.inj b1 b2 r (hold b1 r h1).1 (hold b2 r h2).1⟩;by_cases hbb:b'=b
  ·subst hbb;unfold AE;simp only;rw[hset,ah rfl];trivial
  ·exact AE.keep hg (by simp only;rw[hset,ag hbb]) rfl rfl (fun _ _=>rfl) (ho.ent b')
 ·exact(hold b' r h).2 (ho.inj b' b r (hold b' r h).1 ⟨by rw[he];trivial,hr⟩)
theorem aQo(ho:Ok base S0 σ)(k:LK)(z:SV):∃σ':Sit,σ'.mem=LY σ.mem k z/\σ'.w=σ.w/\σ'.E=σ.E/\Ok base S0 σ'/\Goes σ σ':=by
 have same:∃σ':Sit,σ'.mem=σ.mem/\σ'.w=σ.w/\σ'.E=σ.E/\Ok base S0 σ'/\Goes σ σ':=⟨σ,rfl,rfl,rfl,ho,Goes.refl σ⟩
 cases k with
 |win e=>exact same
 |ref τ=>
  simp only[LY];split
  ·rename_i b;split
   ·rename_i cs eb;cases hf:Fg σ.mem cs with
    |mk cs' m1=>
     simp only;obtain⟨σ1,a1,a2,a3,a4,a5,a6⟩:=gO ho hf;have hlt:b<σ.mem.length:=DP (by rw[eb];simp);split;case h_2=>exact same
     rename_i cs1 hraw;rw[←a1]at hraw;have hlt1:b<σ1.mem.length:=DP (by rw[hraw];simp);have he:=ho.ent b;unfold AE at he;rw[eb]at he;obtain⟨r,vs,T,h1,h2,h3⟩:=he;have hset:∀b',Ac (σ1.mem.set b (.raw cs')) b'=if b'=b then .raw cs' else Ac σ1.mem b':=fun b'=>B9 hlt1;have hg:Goes σ1 ⟨σ1.E,σ1.mem.set b (.raw cs'),σ1.w,σ1.S⟩:=by
      refine⟨fun _ h=>h,fun _ _=>rfl,by simp,fun b' hb'=>?_⟩;by_cases hbb:b'=b
      ·subst hbb;unfold BL;rw[hraw];exact .inl ⟨rfl,cs',by rw[hset,ah rfl]⟩
      ·exact BL.refl (by simp only;rw[hset,ag hbb]) rfl rfl
     have hold:∀b' r,Sit.owned ⟨σ1.E,σ1.mem.set b (.raw cs'),σ1.w,σ1.S⟩ b' r->σ1.owned b' r:=fun b' r ⟨g1,g2⟩=>by
      simp only at g1;rw[hset]at g1;split at g1
      ·rename_i hbb;exact⟨by rw[hbb,hraw];trivial,g2⟩
      ·exact⟨g1,g2⟩
     refine⟨⟨σ1.E,σ1.mem.set b (.raw cs'),σ1.w,σ1.S⟩,by rw[a1],a2,a3,⟨a4.below,a4.stab0,a4.stab,fun b'=>?_,fun b' r h=>a4.own b' r (hold b' r h),fun b1 b2 r h1 h2=>a4.inj b1 b2 r (hold b1 r h1) (hold b2 r h2)⟩,a5.trans hg⟩;by_cases hbb:b'=b
     ·subst hbb;unfold AE;simp only;rw[hset,ah rfl];exact⟨r,vs,T,by rw[a3];exact h1,by rw[a2];exact h2,(a6 _ h3).mono fun _ _=>hg.repC⟩
     ·exact AE.keep hg (by simp only;rw[hset,ag hbb]) rfl rfl (fun _ _=>rfl) (a4.ent b')
   ·exact same
  ·exact same
theorem bBb(ho:Ok base S0 σ){k:LK}{z:SV}{y:Value}(hz:Bv σ z y){b:Nat}{x:k.D}{mem':Ae}(h:WD σ.mem k z=some (b,x,mem')):
  ∃(σ':Sit) (rs:List Nat) (y0:Value),σ'.mem=mem'/\σ'.w=σ.w/\σ'.S=σ.S/\Ok base S0 σ'/\Goes σ σ'/\Vt σ'.w σ'.S k x y y0 rs/\rs.Nodup/\(∀r∈rs,Eo base σ' r)/\Was σ k b y0/\Ac σ'.mem b=.gone/\(∀r∈rs,∃b,σ.owned b r)/\(∀b r,σ'.owned b r->σ.owned b r)/\σ'.E=σ.E/\mem'=σ.mem.set b .gone:=by
 have row:∀{τ:Shape} {xs:List (Ab τ)} {b:Nat},Ac σ.mem b=.arr τ xs ->
   ∃(σ':Sit) (rs:List Nat),σ'.mem=σ.mem.set b .gone/\σ'.w=σ.w/\σ'.S=σ.S/\Ok base S0 σ'/\Goes σ σ'/\Ft σ'.w σ'.S τ xs (.slice ((σ.E.β b).map fun r=>⟨r,0,none⟩) xs.length (σ.E.κ b)) rs/\rs.Nodup/\(∀r∈rs,Eo base σ' r)/\Ac σ'.mem b=.gone/\(∀r∈rs,∃b,σ.owned b r)/\(∀b r,σ'.owned b r->σ.owned b r)/\σ'.E=σ.E:=fun {τ xs b} eb=>by
  have hlt:b<σ.mem.length:=DP (by rw[eb];simp);obtain⟨σ',rs,a1,a2,a3,a4,a5,a6,a7,a8,a9,a10⟩:=WE ho (.inl eb) (y:=.slice ((σ.E.β b).map fun r=>⟨r,0,none⟩) xs.length (σ.E.κ b)) ⟨hlt,ak,by rw[eb]⟩;refine⟨σ',rs,a1,a2,a4,a5,a6,by rw[a2,a4];exact a7,a8,fun r hr=>?_,by rw[a1,B9 hlt,ah rfl],fun r hr=>(a9 r hr).1,a10,a3⟩;obtain⟨⟨b',hb'⟩,hn⟩:=a9 r hr;have:=ho.own b' r hb';exact⟨this.1,by rw[a2];exact this.2.1,by rw[a4];exact this.2.2,hn⟩
 cases k with
 |win e=>
  simp only[WD]at h;split at h
  ·rename_i b' lo len;split at h
   ·rename_i τ xs eb;split at h
    ·rename_i xs' ec;simp only[ap,cr]at h;obtain⟨rfl,rfl,rfl⟩:=h;obtain⟨hττ,hxs⟩:=G3 ec;subst hττ;simp only at hxs;subst hxs;obtain⟨σ',rs,a1,a2,a2',a3,a4,a5,a6,a7,a8,a9,a10,a11⟩:=row eb;obtain⟨hlt,_,hm⟩:=hz;rw[eb]at hm;obtain⟨q1,A,c,hy,q2,q3,q4⟩:=hm;refine⟨σ',rs,_,a1,a2,a2',a3,a4,⟨a5,q1,A,c,hy,q2,q3,fun hn=>?_⟩,a6,a7,⟨hlt,_,eb,rfl⟩,a8,a9,a10,a11,rfl⟩;obtain⟨r,hr,hA⟩:=q4 hn;exact⟨r,_,by rw[hr];rfl,hA⟩
    ·cases h
   ·cases h
  ·rename_i b';split at h
   ·rename_i τ xs eb;split at h
    ·rename_i xs' ec;simp only[ap,cr]at h;obtain⟨rfl,rfl,rfl⟩:=h;obtain⟨hττ,hxs⟩:=G3 ec;subst hττ;simp only at hxs;subst hxs;obtain⟨σ',rs,a1,a2,a2',a3,a4,a5,a6,a7,a8,a9,a10,a11⟩:=row eb;obtain⟨hlt,_,hm⟩:=hz;rw[eb]at hm;have he:=ho.ent b';unfold AE at he;rw[eb]at he;obtain⟨q1,q2,_⟩:=he;refine⟨σ',rs,_,a1,a2,a2',a3,a4,⟨a5,by simp,_,_,hm,q1,q2,fun hn=>?_⟩,a6,a7,⟨hlt,_,eb,rfl⟩,a8,a9,a10,a11,rfl⟩;obtain⟨r,hβ⟩:=aCL (ho.ent b') eb hn;exact⟨r,_,by rw[hβ];rfl,by rw[hβ];simp⟩
    ·cases h
   ·cases h
  ·cases h
 |ref τ=>
  simp only[WD]at h;split at h
  ·rename_i b';split at h
   ·rename_i cs eb;split at h
    ·rename_i x' ep;simp only[ap,cr]at h;obtain⟨rfl,rfl,rfl⟩:=h;obtain⟨hlt,_,hm⟩:=hz;rw[eb]at hm;obtain⟨r,hβ,hy⟩:=hm;have he:=ho.ent b';unfold AE at he;rw[eb]at he;obtain⟨r',vs,T,h1,h2,h3⟩:=he;rw[hβ]at h1;cases h1;obtain⟨y1,y2,hyy,p1,p2⟩:=H2 h3 ep;cases p2;rw[du]at hyy;obtain⟨σ2,b1,b2,b3,b4,b5,b6,b7,b8⟩:=bBd ho eb;have hown:=ho.own b' r ⟨by rw[eb];trivial,hβ⟩;refine⟨σ2,[r],_,b1,b2,b4,b5,b6,⟨rfl,r,vs,T,hy,rfl,by rw[b2];exact h2,?_⟩,by simp,fun q hq=>?_,⟨hlt,cs,r,eb,hβ,hy⟩,?_,fun q hq=>?_,b8,b3,rfl⟩
     ·rw[b2,b4,hyy];exact p1
     ·simp at hq;subst hq;exact⟨hown.1,by rw[b2];exact hown.2.1,by rw[b4];exact hown.2.2,b7 q hβ⟩
     ·rw[b1,B9 hlt,ah rfl]
     ·simp at hq;subst hq;exact⟨b',by rw[eb];trivial,hβ⟩
    ·cases h
   ·cases h
  ·cases h
theorem bGV{σ σ':Sit}{b:Nat}(hw:σ'.w=σ.w)(hS:σ'.S=σ.S)(hlen:σ'.mem.length=σ.mem.length)(hoth:∀b',b'≠b->Ac σ'.mem b'=Ac σ.mem b'/\σ'.E.β b'=σ.E.β b'/\σ'.E.κ b'=σ.E.κ b'){c:SC}{y:Value}(hc:Aw σ c y)(hn:ZN b c=false):Aw σ' c y:=by
 have ne:∀{b':Nat},Nat.beq b' b=false->b'≠b:=fun h e=>by subst e;rw[fg]at h;cases h
 cases c with
 |undef=>exact hc
 |v x=>exact hc
 |fl k o=>exact hc
 |sl τ xs=>simp only[Aw];rw[hw,hS];exact hc
 |own b' =>
  obtain⟨g1,g2,g3⟩:=hoth b' (ne hn);obtain⟨h1,h2,h3⟩:=hc;refine⟨by rw[hlen];exact h1,h2,?_⟩;rw[g1,g2,g3,hw,hS];exact h3
 |ptr b' off=>
  obtain⟨g1,g2,g3⟩:=hoth b' (ne hn);obtain⟨h1,h2,h3⟩:=hc;refine⟨by rw[hlen];exact h1,h2,?_⟩;rw[g1,g2];exact h3
 |eptr b' i off=>
  obtain⟨g1,g2,g3⟩:=hoth b' (ne hn);obtain⟨h1,h2,h3⟩:=hc;refine⟨by rw[hlen];exact h1,h2,?_⟩;rw[g1,g2];exact h3
 |sub b' lo n=>
  obtain⟨g1,g2,g3⟩:=hoth b' (ne hn);obtain⟨h1,h2,h3⟩:=hc;refine⟨by rw[hlen];exact h1,h2,?_⟩;rw[g1,g2];exact h3
 |iptr τ x off=>simp only[Aw];rw[hw,hS];exact hc
 |gptr g=>exact hc
 |fnv o=>simp only[Aw];rw[hw,hS];exact hc
 |ifv o=>simp only[Aw];rw[hw,hS];exact hc
 |cx k x y=>exact hc
 |fn f caps=>
  have hne:∀p∈caps,p.1≠b:=fun p hp e=>by
   simp only[ZN,List.any_eq_false]at hn;have:=hn p hp;rw[e,fg]at this;exact this rfl
  obtain⟨h1,h2,h3⟩:=hc;refine⟨fun p hp=>by rw[hlen];exact h1 p hp,h2,?_⟩;rcases h3 with⟨p,hp,hq⟩|⟨rs,g1,g2⟩
  ·exact .inl ⟨p,hp,by rw[(hoth p.1 (hne p hp)).1];exact hq⟩
  ·refine .inr ⟨rs,?_,g2⟩;rw[←g1];exact List.map_congr_left fun p hp=>(hoth p.1 (hne p hp)).2.1
theorem bAs{b:Nat}{mem:Ae}(h:aDP b mem=true){b':Nat}{cs:List SC}(e:Ac mem b'=.raw cs):∀c∈cs,ZN b c=false:=fun c hc=>by
 unfold aDP at h
 rw[ku]at h
 have hlt:b'<mem.length:=DP (by rw[e];simp)
 have hmem:(.raw cs:Blk)∈mem:=by
  unfold Ac at e
  rw[bw hlt]at e
  simp only[Option.getD_some]at e
  rw[←e];exact jd hlt
 have:=h _ hmem
 simp only[aOj,ku,ff]at this
 exact this c hc
theorem aEE(ho:Ok base S0 σ){b:Nat}(hlt:b<σ.mem.length)(hgone:Ac σ.mem b=.gone)(e:Blk)(A:Option Nat)(k:Nat)(hl:∀r,A=some r->Eo base σ r)
  (hm:∀σ':Sit,σ'.mem=σ.mem.set b e->σ'.w=σ.w->σ'.S=σ.S->Ac σ'.mem b=e->σ'.E.β b=A->σ'.E.κ b=k->AE σ' b)
  (hraw:∀σ':Sit,σ'.mem=σ.mem.set b e->σ'.w=σ.w->σ'.S=σ.S->Ac σ'.mem b=e->σ'.E.β b=A->σ'.E.κ b=k->(∀b',b'≠b->Ac σ'.mem b'=Ac σ.mem b'/\σ'.E.β b'=σ.E.β b'/\σ'.E.κ b'=σ.E.κ b') ->
   ∀b' cs,b'≠b->Ac σ.mem b'=.raw cs->AE σ' b') :
  ∃σ':Sit,σ'.mem=σ.mem.set b e/\σ'.w=σ.w/\σ'.S=σ.S/\Ok base S0 σ'/\Ac σ'.mem b=e/\σ'.E.β b=A/\σ'.E.κ b=k/\(∀b',b'≠b->Ac σ'.mem b'=Ac σ.mem b'/\σ'.E.β b'=σ.E.β b'/\σ'.E.κ b'=σ.E.κ b') /\
   ∀b' r,σ'.owned b' r->σ.owned b' r∨A=some r:=by
 let σ':Sit:={E:=⟨AI σ.E.β b A,AI σ.E.κ b k⟩,mem:=σ.mem.set b e,w:=σ.w,S:=σ.S}
 have hset:∀b',Ac σ'.mem b'=if b'=b then e else Ac σ.mem b':=fun b'=>B9 hlt;have hself:Ac σ'.mem b=e:=by rw[hset,ah rfl]
 have hβ:σ'.E.β b=A:=by simp[σ',AI]
 have hκ:σ'.E.κ b=k:=by simp[σ',AI]
 have hoth:∀b',b'≠b->Ac σ'.mem b'=Ac σ.mem b'/\σ'.E.β b'=σ.E.β b'/\σ'.E.κ b'=σ.E.κ b':=fun b' hne=>⟨by rw[hset,ag hne],by simp[σ',AI,hne],by simp[σ',AI,hne]⟩
 have hold:∀b' r,b'≠b->σ'.owned b' r->σ.owned b' r:=fun b' r hne ⟨h1,h2⟩=>by
  obtain⟨g1,g2,_⟩:=hoth b' hne;rw[g1]at h1;exact⟨h1,g2.symm.trans h2⟩
 have hnew:∀r,σ'.owned b r->A=some r:=fun r ⟨_,h2⟩=>hβ.symm.trans h2;refine⟨σ',rfl,rfl,rfl,⟨ho.below,ho.stab0,ho.stab,fun b'=>?_,fun b' r h=>?_,fun b1 b2 r h1 h2=>?_⟩,hself,hβ,hκ,hoth,fun b' r h=>?_⟩
 ·by_cases hbb:b'=b
  ·subst hbb;exact hm σ' rfl rfl rfl hself hβ hκ
  ·obtain⟨g1,g2,g3⟩:=hoth b' hbb;have he:=ho.ent b';cases eb:Ac σ.mem b' with
   |gone=>unfold AE;rw[g1,eb];trivial
   |froz τ xs=>unfold AE;rw[g1,eb];trivial
   |itr s p=>unfold AE at he⊢;rw[g1,g2];rw[eb]at he⊢;exact he
   |arr τ xs=>unfold AE at he⊢;rw[g1,g2,g3];rw[eb]at he⊢;exact he
   |acc τ xs=>unfold AE at he⊢;rw[g1,g2,g3];rw[eb]at he⊢;exact he
   |raw cs=>exact hraw σ' rfl rfl rfl hself hβ hκ hoth b' cs hbb eb
 ·by_cases hbb:b'=b
  ·subst hbb;have:=hl r (hnew r h);exact⟨this.1,this.2.1,this.2.2.1⟩
  ·exact ho.own b' r (hold b' r hbb h)
 ·by_cases hb1:b1=b<;>by_cases hb2:b2=b
  ·rw[hb1,hb2]
  ·subst hb1;exact((hl r (hnew r h1)).2.2.2 b2 (hold b2 r hb2 h2)).elim
  ·subst hb2;exact((hl r (hnew r h2)).2.2.2 b1 (hold b1 r hb1 h1)).elim
  ·exact ho.inj b1 b2 r (hold b1 r hb1 h1) (hold b2 r hb2 h2)
 ·by_cases hbb:b'=b
  ·subst hbb;exact .inr (hnew r h)
  ·exact .inl (hold b' r hbb h)
theorem aQr(ho:Ok base S0 σ){b:Nat}(hlt:b<σ.mem.length)(hgone:Ac σ.mem b=.gone)(hfree:aDP b σ.mem=true)(e:Blk)(A:Option Nat)(k:Nat)(hl:∀r,A=some r->Eo base σ r)
  (hm:∀σ':Sit,σ'.mem=σ.mem.set b e->σ'.w=σ.w->σ'.S=σ.S->Ac σ'.mem b=e->σ'.E.β b=A->σ'.E.κ b=k->AE σ' b) :
  ∃σ':Sit,σ'.mem=σ.mem.set b e/\σ'.w=σ.w/\σ'.S=σ.S/\Ok base S0 σ'/\Ac σ'.mem b=e/\σ'.E.β b=A/\σ'.E.κ b=k/\(∀b',b'≠b->Ac σ'.mem b'=Ac σ.mem b'/\σ'.E.β b'=σ.E.β b'/\σ'.E.κ b'=σ.E.κ b') /\
   ∀b' r,σ'.owned b' r->σ.owned b' r∨A=some r:=
 aEE ho hlt hgone e A k hl hm (fun σ' h1 h2 h3 h4 h5 h6 hoth b' cs hne eb=>by
  have he:=ho.ent b'
  obtain⟨g1,g2,_⟩:=hoth b' hne
  unfold AE at he⊢
  rw[eb]at he
  rw[g1,eb]
  obtain⟨r,vs,T,q1,q2,q3⟩:=he
  refine⟨r,vs,T,g2.trans q1,by rw[h2];exact q2,?_⟩
  have hcs:=bAs hfree eb
  exact aL6 q3 fun c y hc hy=>bGV (σ:=σ) (σ':=σ') h2 h3 (by rw[h1];simp) hoth hy (hcs c hc))
theorem aYy{σ3:Sit}(ho:Ok base S0 σ3)(hg:Goes σ σ3){k:LK}{b:Nat}{y0:Value}(hw:Was σ k b y0)(hgone:Ac σ3.mem b=.gone)(hoσ:Ok base S0 σ)(hsame:∀b',b'≠b->Ac σ3.mem b'=Ac σ.mem b'/\σ3.E.β b'=σ.E.β b'/\σ3.E.κ b'=σ.E.κ b')(hheap:∀b' r,b'≠b->σ.owned b' r->σ3.w.heap[r]? = σ.w.heap[r]?){x:k.B}{rs:List Nat}(hb:L8 σ3.w σ3.S k x y0 rs)(hl:∀r∈rs,Eo base σ3 r):
  ∃σ4:Sit,σ4.mem=We σ3.mem b k x/\σ4.w=σ3.w/\σ4.S=σ3.S/\Ok base S0 σ4/\Goes σ σ4/\∀b' r,σ4.owned b' r->σ3.owned b' r∨r∈rs:=by
 have hlt:b<σ3.mem.length:=az hw.1 hg.len;cases k with
 |win e=>
  obtain⟨k0,h1,h2,h3⟩:=hb;obtain⟨hltb,xs0,eb,hy0⟩:=hw;have main:∀A:Option Nat,y0=.slice (A.map fun r=>⟨r,0,none⟩) x.length k0->(∀r,A=some r->r∈rs)->((A=none/\k0=0)∨∃r vs T,A=some r/\σ3.w.heap[r]? = some (.cells vs T (0,0))/\vs.size=k0*e.width/\Rows σ3.w σ3.S e vs 0 x) ->
    ∃σ4:Sit,σ4.mem=We σ3.mem b (.win e) x/\σ4.w=σ3.w/\σ4.S=σ3.S/\Ok base S0 σ4/\Goes σ σ4/\∀b' r,σ4.owned b' r->σ3.owned b' r∨r∈rs:=fun A hy hA hc=>by
   have heq:A=σ.E.β b/\x.length=xs0.length/\k0=σ.E.κ b:=by
    rw[hy]at hy0;simp only[nw]at hy0;refine⟨?_,hy0.2⟩;have:=hy0.1;cases A<;>cases hbb:σ.E.β b<;>rw[hbb]at this<;>simp at this⊢;exact this
   have hgo:∀σ4:Sit,σ4.mem=σ3.mem.set b (.arr e x)->σ4.w=σ3.w->σ4.S=σ3.S->Ac σ4.mem b=.arr e x->σ4.E.β b=A->σ4.E.κ b=k0->(∀b',b'≠b->Ac σ4.mem b'=Ac σ3.mem b'/\σ4.E.β b'=σ3.E.β b'/\σ4.E.κ b'=σ3.E.κ b')->Goes σ σ4:=fun σ4 c1 c2 c3 c5 c6 c7 c8=>
    ⟨fun r hr=>by rw[c3];exact hg.stab r hr,fun r hr=>by rw[c2];exact hg.heap r hr,by rw[c1];simp;exact hg.len,fun b' hb'=>by
     by_cases hbb:b'=b
     ·subst hbb;unfold BL;rw[eb];exact .inl ⟨c6.trans heq.1,c7.trans heq.2.2,x,c5,heq.2.1⟩
     ·obtain⟨g1,g2,g3⟩:=c8 b' hbb;exact(hg.turns b' hb').same g1 g2 g3 c2 c3⟩
   obtain⟨σ4,c1,c2,c3,c4,c5,c6,c7,c8,c9⟩:=aEE ho hlt hgone (.arr e x) A k0 (fun r hr=>hl r (hA r hr)) (fun σ' m1 m2 m3 m4 m5 m6=>by
    unfold AE;rw[m4,m5,m6,m2,m3];exact⟨h1,h2,hc⟩) (fun σ' m1 m2 m3 m4 m5 m6 m7 b' cs hne _=>by
     obtain⟨q1,q2,q3⟩:=m7 b' hne;obtain⟨p1,p2,p3⟩:=hsame b' hne;exact AE.keep (hgo σ' m1 m2 m3 m4 m5 m6 m7) (q1.trans p1) (q2.trans p2) (q3.trans p3) (fun r hr=>by rw[m2];exact hheap b' r hne hr) (hoσ.ent b'))
   refine⟨σ4,c1,c2,c3,c4,hgo σ4 c1 c2 c3 c5 c6 c7 c8,fun b' r h=>?_⟩
   ·rcases c9 b' r h with g|g
    ·exact .inl g
    ·exact .inr (hA r g)
  rcases h3 with⟨g1,g2,g3⟩|⟨r,vs,T,g1,g2,g3,g4,g5⟩
  ·exact main none g1 (fun r h=>by cases h) (.inl ⟨rfl,g2⟩)
  ·subst g2;exact main (some r) g1 (fun r' h=>by cases h;simp) (.inr ⟨r,vs,T,rfl,g3,g4,g5⟩)
 |ref τ=>
  obtain⟨r,vs,T,h1,rfl,h2,h3⟩:=hb;obtain⟨hltb,cs,r0,eb,hβ,hy0⟩:=hw;have hrr:r=r0:=by rw[h1]at hy0;simpa using hy0
  subst hrr;have hgo:∀σ4:Sit,σ4.mem=σ3.mem.set b (.raw (cellsOf τ x))->σ4.w=σ3.w->σ4.S=σ3.S->Ac σ4.mem b=.raw (cellsOf τ x)->σ4.E.β b=some r->(∀b',b'≠b->Ac σ4.mem b'=Ac σ3.mem b'/\σ4.E.β b'=σ3.E.β b'/\σ4.E.κ b'=σ3.E.κ b')->Goes σ σ4:=fun σ4 c1 c2 c3 c5 c6 c8=>
   ⟨fun r hr=>by rw[c3];exact hg.stab r hr,fun r hr=>by rw[c2];exact hg.heap r hr,by rw[c1];simp;exact hg.len,fun b' hb'=>by
    by_cases hbb:b'=b
    ·subst hbb;unfold BL;rw[eb];exact .inl ⟨c6.trans hβ.symm,_,c5⟩
    ·obtain⟨g1,g2,g3⟩:=c8 b' hbb;exact(hg.turns b' hb').same g1 g2 g3 c2 c3⟩
  obtain⟨σ4,c1,c2,c3,c4,c5,c6,c7,c8,c9⟩:=aEE ho hlt hgone (.raw (cellsOf τ x)) (some r) 0 (fun r' hr=>by cases hr;exact hl r (by simp)) (fun σ' m1 m2 m3 m4 m5 m6=>by
   unfold AE;rw[m4];exact⟨r,vs,T,m5,by rw[m2];exact h2,LG (by rw[m2,m3];exact h3)⟩) (fun σ' m1 m2 m3 m4 m5 m6 m7 b' cs hne _=>by
    obtain⟨q1,q2,q3⟩:=m7 b' hne;obtain⟨p1,p2,p3⟩:=hsame b' hne;exact AE.keep (hgo σ' m1 m2 m3 m4 m5 m7) (q1.trans p1) (q2.trans p2) (q3.trans p3) (fun r hr=>by rw[m2];exact hheap b' r hne hr) (hoσ.ent b'))
  refine⟨σ4,c1,c2,c3,c4,hgo σ4 c1 c2 c3 c5 c6 c8,fun b' r' h=>?_⟩
  ·rcases c9 b' r' h with g|g
   ·exact .inl g
   ·cases g;exact .inr (by simp)
end Vx
namespace Vx
open Go Go.RowKit
def GlobsOk(G:List (Nat×Sigma fun τ=>List (Ab τ)))(w:World)(S:Nat->Prop):Prop:=
 ∀g τ xs,Pv G g=some ⟨τ,xs⟩->S g/\∃vs T fz,w.heap[g]? = some (.cells vs T fz)/\Rows w S τ vs 0 xs
theorem bAU{C:Cfg}{w:World}{S:Nat->Prop}(h:GlobsOk C.globs w S):aFk C w S:=h
theorem GlobsOk.mono{G:List (Nat×Sigma fun τ=>List (Ab τ))}{w w':World}{S S':Nat->Prop}(hS:∀r,S r->S' r)(hH:∀r,S r->w'.heap[r]? = w.heap[r]?)(h:GlobsOk G w S):GlobsOk G w' S':=fun g τ xs e=>by
 obtain⟨h1,vs,T,fz,h2,h3⟩:=h g τ xs e
 exact⟨hS g h1,vs,T,fz,(hH g h1).trans h2,h3.mono hS hH⟩
def DH:List Value->Value
 | [y]=>y
 |ys=>.tuple ys.toArray
def Xl (P:Program) (f:FuncId) (args:Array Value) (w:World) (post:Ending->World->Prop):Prop :=((∃ fn, P.funcs[f]? = some fn /\ fn.body.isNone = false /\ (fn.name == "runtime.NumGoroutine") = false) /\ Calls P f args w post) ∨ ∃ v,(callFunc f args).run P w=.ok (.value v) w/\post (.returned v) w
structure Sound (P:Program) (G:List (Nat×Sigma fun τ=>List (Ab τ))) (f:FuncId) (S:Sum):Prop where
 calls:∀x,S.pre x=true->∀(w:World) (St:Nat->Prop) (ys:List Value) (rs:List Nat),(∀q,St q->q<w.heap.size)->GlobsOk G w St->B4 w St S.ins x ys rs->rs.Nodup->(∀r∈rs,¬St r/\r<w.heap.size) ->
  Xl P f ys.toArray w fun e w'=>∃zs rs',e=.returned (DH zs)/\Low ⟨w,fun r=>r∈rs⟩ w'/\(∀r∈rs',Base.new ⟨w,fun r=>r∈rs⟩ r/\r<w'.heap.size)/\rs'.Nodup /\
   B4 w' (fun q=>(St q∨(Base.new ⟨w,fun r=>r∈rs⟩ q/\q<w'.heap.size))/\q∉rs') S.outs (S.F x) zs rs'
def Sit.later(σ:Sit)(rs rs':List Nat)(w':World):Sit:={E:=σ.E,mem:=σ.mem,w:=w',S:=fun q=>(σ.S q∨(Base.new ⟨σ.w,fun r=>r∈rs⟩ q/\q<w'.heap.size))/\q∉rs' }
theorem aEc{base:Base}{S0:Nat->Prop}{σ:Sit}(ho:Ok base S0 σ){rs rs':List Nat}{w':World}(hl:∀r∈rs,Eo base σ r)(hb:Low ⟨σ.w,fun r=>r∈rs⟩ w')(hr':∀r∈rs',Base.new ⟨σ.w,fun r=>r∈rs⟩ r/\r<w'.heap.size):
  Ok base S0 (σ.later rs rs' w')/\Goes σ (σ.later rs rs' w')/\∀r∈rs',Eo base (σ.later rs rs' w') r:=by
 have hold:∀q,σ.S q->q<σ.w.heap.size/\q∉rs/\q∉rs':=fun q hq=>by
  refine⟨(ho.stab q hq).1,fun h=>(hl q h).2.2.1 hq,fun h=>?_⟩
  rcases(hr' q h).1 with g|g
  ·have:=(ho.stab q hq).1
   have g:σ.w.heap.size<=q:=g
   omega
  ·exact(hl q g).2.2.1 hq
 have hown:∀b r,σ.owned b r->r<σ.w.heap.size/\r∉rs:=fun b r h=>⟨(ho.own b r h).2.1,fun h'=>(hl r h').2.2.2 b h⟩
 have hnew:∀q,Base.new ⟨σ.w,fun r=>r∈rs⟩ q->base.new q:=fun q h=>by
  rcases h with h|h
  ·exact .inl (gb ho.below.size h)
  ·exact(hl q h).1
 have hg:Goes σ (σ.later rs rs' w'):=⟨fun q h=>⟨.inl h,(hold q h).2.2⟩,fun r hr=>hb.block r (hold r hr).1 (hold r hr).2.1,ci _,fun _ _=>BL.refl rfl rfl rfl⟩
 refine⟨⟨ho.below.step hb.os hb.tape hb.output hb.size (fun k hk hn=>hb.block k hk (fun h=>hn ((hl k h).1))),fun r h=>⟨.inl (ho.stab0 r h),(hold r (ho.stab0 r h)).2.2⟩,fun r h=>?_,fun b=>?_,fun b r h=>?_,fun b b' r h h'=>ho.inj b b' r h h'⟩,hg,fun r hr=>?_⟩
 ·rcases h.1 with g|g
  ·exact⟨az (ho.stab r g).1 hb.size,(ho.stab r g).2⟩
  ·exact⟨g.2,.inr (hnew r g.1)⟩
 ·exact AE.keep hg rfl rfl rfl (fun r hr=>hb.block r (hown b r hr).1 (hown b r hr).2) (ho.ent b)
 ·have:=ho.own b r h
  refine⟨this.1,az this.2.1 hb.size,fun hs=>?_⟩
  rcases hs.1 with hs|hs
  ·exact this.2.2 hs
  ·rcases hs.1 with g|g
   ·have g:σ.w.heap.size<=r:=g
    omega
   ·exact(hown b r h).2 g
 ·refine⟨hnew r (hr' r hr).1,(hr' r hr).2,fun h=>h.2 hr,fun b h=>?_⟩
  have h:σ.owned b r:=h
  rcases(hr' r hr).1 with g|g
  ·have:=(hown b r h).1
   have g:σ.w.heap.size<=r:=g
   omega
  ·exact(hown b r h).2 g
structure SoundL (P:Program) (G:List (Nat×Sigma fun τ=>List (Ab τ))) (f:FuncId) (L:SumL):Prop where
 calls:∀x,L.pre x=true->∀(w:World) (St:Nat->Prop) (y y0:Value) (ys:List Value) (rl rs:List Nat),(∀q,St q->q<w.heap.size)->GlobsOk G w St->Vt w St L.lend x.1 y y0 rl->B4 w St L.ins x.2 ys rs->(rl++rs).Nodup->(∀r∈rl++rs,¬St r/\r<w.heap.size) ->
  Xl P f (y::ys).toArray w fun e w'=>∃zs rs',e=.returned (DH zs)/\Low ⟨w,fun r=>r∈rl++rs⟩ w'/\(∀r∈rs',Base.new ⟨w,fun r=>r∈rl++rs⟩ r/\r<w'.heap.size)/\(rl++rs').Nodup /\
   B4 w' (fun q=>(St q∨(Base.new ⟨w,fun r=>r∈rl++rs⟩ q/\q<w'.heap.size))/\q∉rl++rs') L.outs (L.F x).2 zs rs' /\
   L8 w' (fun q=>(St q∨(Base.new ⟨w,fun r=>r∈rl++rs⟩ q/\q<w'.heap.size))/\q∉rl++rs') L.lend (L.F x).1 y0 rl
def Xh(w:World)(S:Nat->Prop)(ns:List Nat)(ps:List Value):Prop:=ps.length=ns.length/\∀(i n:Nat),ns[i]? = some n->∃(r:Nat) (vs:Array Value) (T:TypeId) (fz:Nat×Nat),ps[i]? = some (jp (some ⟨r,0,none⟩))/\S r/\w.heap[r]? = some (Obj.cells vs T fz)/\vs[0]? = some (Pk n)
theorem Xh.mono{w w':World}{S S':Nat->Prop}(hS:∀r,S r->S' r)(hH:∀r,S r->w'.heap[r]? = w.heap[r]?){ns:List Nat}{ps:List Value}(h:Xh w S ns ps):Xh w' S' ns ps:=
 ⟨h.1,fun i n hi=>by
  obtain⟨r,vs,T,fz,e1,e2,e3,e4⟩:=h.2 i n hi
  exact⟨r,vs,T,fz,e1,hS r e2,(hH r e2).trans e3,e4⟩⟩
structure FnSound (P:Program) (G:List (Nat×Sigma fun τ=>List (Ab τ))) (f:FuncId) (cs:List Nat) (S:Sum):Prop where
 calls:∀x,S.pre x=true->∀(w:World) (St:Nat->Prop) (ys:List Value) (rs:List Nat) (ps:List Value),(∀q,St q->q<w.heap.size)->GlobsOk G w St->B4 w St S.ins x ys rs->rs.Nodup->(∀r∈rs,¬St r/\r<w.heap.size)->Xh w St cs ps ->
  Xl P f (ys++ps).toArray w fun e w'=>∃zs rs',e=.returned (DH zs)/\Low ⟨w,fun r=>r∈rs⟩ w'/\(∀r∈rs',Base.new ⟨w,fun r=>r∈rs⟩ r/\r<w'.heap.size)/\rs'.Nodup /\
   B4 w' (fun q=>(St q∨(Base.new ⟨w,fun r=>r∈rs⟩ q/\q<w'.heap.size))/\q∉rs') S.outs (S.F x) zs rs'
def aEh(P:Program)(m:String)(T:TypeId)(f:FuncId):Bool:=
 match P.info? T,P.underlying T with
 |some i,some (.struct _)=>(match i.methods.find? (·.name==m)with
  |some row=>(match row.path.toList,row.func with
   | [],some (g,false)=>Nat.beq g f
   |_,_=>false)
  |none=>false)
 |_,_=>false
structure MSound (P:Program) (G:List (Nat×Sigma fun τ=>List (Ab τ))) (f:FuncId) (v:Value) (S:Sum):Prop where
 calls:∀x,S.pre x=true->∀(w:World) (St:Nat->Prop) (ys:List Value) (rs:List Nat),(∀q,St q->q<w.heap.size)->GlobsOk G w St->B4 w St S.ins x ys rs->rs.Nodup->(∀r∈rs,¬St r/\r<w.heap.size) ->
  Xl P f (v::ys).toArray w fun e w'=>∃zs rs',e=.returned (DH zs)/\Low ⟨w,fun r=>r∈rs⟩ w'/\(∀r∈rs',Base.new ⟨w,fun r=>r∈rs⟩ r/\r<w'.heap.size)/\rs'.Nodup /\
   B4 w' (fun q=>(St q∨(Base.new ⟨w,fun r=>r∈rs⟩ q/\q<w'.heap.size))/\q∉rs') S.outs (S.F x) zs rs'
def Ma(P:Program)(G:List (Nat×Sigma fun τ=>List (Ab τ)))(S:SumF):Prop:=
 ∀v x,S.pre v x=true->∃f cs S1,v=some (f,cs)/\FnSound P G f cs S1/\∃(h1:S1.ins=S.ins) (h2:S1.outs=S.outs),S1.pre (h1▸x)=true/\S.F v x=h2▸S1.F (h1▸x)
def aAu(P:Program)(G:List (Nat×Sigma fun τ=>List (Ab τ)))(m:String)(S:SumM):Prop:=
 ∀d x,S.pre d x=true->∃T ns f S1,d=some (T,ns)/\aEh P m T f=true/\((∀n∈ns,IntKind.i64.min<=n/\n<=IntKind.i64.max)->MSound P G f (.agg (ns.map (mz .i64)).toArray) S1)/\∃(h1:S1.ins=S.ins) (h2:S1.outs=S.outs),S1.pre (h1▸x)=true/\S.F d x=h2▸S1.F (h1▸x)
structure SumsOk (C:Cfg):Prop where
 sums:∀f mem args S,C.sum f mem args=some S->Sound C.P C.globs f S
 lsums:∀f mem args L,C.lsum f mem args=some L->SoundL C.P C.globs f L
 fns:∀T S,(T,S)∈C.fns->Ma C.P C.globs S
 meths:∀m S,(m,S)∈C.meths->aAu C.P C.globs m S
theorem jB{σ:Sit}{vs:List SV}{ys:List Value}(h:All2 (Bv σ) vs ys):BB σ (L6 vs) (DH ys):=by
 cases h with
 |nil=>exact⟨by simp,[],rfl,.nil⟩
 |cons h1 t=>
  cases t with
  |nil=>exact h1
  |cons h2 t=>exact⟨by simp,_,rfl,.cons h1 (.cons h2 t)⟩
theorem iX {P : Program} {f : FuncId} (h : ∃ fn, P.funcs[f]? = some fn /\ fn.body.isNone = false /\ (fn.name == "runtime.NumGoroutine") = false) (args : Array Value) (w : World) : (callFunc f args).run P w = .ok (.enter f args) w := by
 obtain⟨fn,h1,h2,h3⟩:=h;unfold callFunc;have h2':¬fn.body=none:=fun e=>by rw[e]at h2;cases h2
 simp[h1];rw[ag (by simpa using h3),ag h2']
variable {C:Cfg}{base:Base}{S0:Nat->Prop}{σ:Sit}{s:St}{a:Act}{ctx:List (Nat×Bool)}{o:Oper}{x:TV}{mem':Ae}
theorem bCf(hC:SumsOk C)(ho:Ok base S0 σ)(hr:RelT σ s a)(hx:BH a ctx)(hG:GlobsOk C.globs σ.w σ.S){c:Call}{fo:Operand}(hop:o.op=.call c)(hc:c.callee=.value fo){f:FuncId}{args:List SV}(ef:Bj s ctx fo=some (.fn f []))(eargs:Ei s ctx c.args.toList=some args)
  {L:SumL} (hL:C.lsum f s.mem args=some L)
  (h:(match(generalizing:=false) args with
      |z::rest=>(match CQ (BK (LY s.mem L.lend z) L.ins rest).2 L.ins (BK (LY s.mem L.lend z) L.ins rest).1 with
        |some (x,m2)=>(match WD m2 L.lend z with
         |some (b,xl,m3)=>(match Cg (We m3 b L.lend (L.F (xl,x)).1) L.outs (L.F (xl,x)).2 with
          |some (vs,m4)=>some (Res.ok (L.pre (xl,x)) (L6 vs) m4)
          |none=>none)
         |none=>none)
        |none=>none)
      | []=>none)=some (Res.ok true x mem')):BQ C base S0 id σ a o x mem':=by
 have hargs:=U5 hr hx eargs
 cases args with
 |cons z rest=>
  simp only at h
  generalize hya:c.args.toList.map a.eval=yall at hargs
  cases hargs with
  |cons hz hrest=>
  rename_i y ys
  obtain⟨σ0,l1,l2,l3,l4,l5⟩:=aQo ho L.lend z
  cases hf:BK (LY s.mem L.lend z) L.ins rest with
  |mk rest' m1=>
   rw[hf]at h
   simp only at h
   rw[←hr.mem,←l1]at hf
   obtain⟨σ1,a1,a2,a3,a4,a5,a6⟩:=Ww l4 hf
   split at h
   ·rename_i v m2 ez
    split at h
    ·rename_i b xl m3 el
     split at h
     ·rename_i vs m4 ev
      simp only[ap,Res.ok.injEq]at h
      obtain⟨hpre,rfl,rfl⟩:=h
      rw[←a1]at ez
      obtain⟨σ2,rs,b1,b2,b3,b4,b5,b6,hsr,b8,b9,b10⟩:=jA a4 (a6 _ (hrest.mono fun _ _=>l5.repV)) ez
      have hg2:Goes σ σ2:=l5.trans (a5.trans b6)
      rw[←b1]at el
      obtain⟨σ3,rl,y0,d1,d2,d3,d4,d5,d6,d7,d8,d9,d10,d11,d12,d13,d14⟩:=bBb b5 (hg2.repV hz) el
      have hcalls:=(hC.lsums f _ _ L hL).calls
      have hfv:a.eval fo=.func (.func f) #[] #[]:=by
       obtain⟨_,_,h1⟩:=BJ hr hx ef
       rcases h1 with⟨p,hp,_⟩|⟨rs,h1,h2⟩
       ·simp at hp
       ·simpa using h2
      intro K Q hK
      have hexec:(execOp a.eval o).run C.P σ.w=(callFunc f (y::ys).toArray).run C.P σ.w:=by
       simp only[execOp,hop,resolve,hc,hfv]
       simp only[Deferred.ofValue,cz,ej,cd,invoke]
       rw[←hya]
       congr 2
       apply gy.1
       simp
      have hw1:σ1.w=σ.w:=a2.trans l2
      have hw2:σ2.w=σ.w:=b2.trans hw1
      have hw3:σ3.w=σ.w:=d2.trans hw2
      have hS3:σ3.S=σ1.S:=d3.trans b4
      have hloose:∀r∈rs,Eo base σ3 r:=fun r hr'=>by
       obtain⟨⟨b',hb'⟩,hn⟩:=b9 r hr'
       have:=a4.own b' r hb'
       exact⟨this.1,by rw[d2,b2];exact this.2.1,by rw[hS3];exact this.2.2,fun b'' h=>hn b'' (d12 b'' r h)⟩
      have hdis:∀r∈rl,∀r'∈rs,r≠r':=fun r h1 r' h2 e=>by
       subst e
       obtain⟨b',hb'⟩:=d11 r h1
       exact(b9 r h2).2 b' hb'
      have hall:∀r∈rl++rs,Eo base σ3 r:=fun r hr'=>by
       rcases dt.1 hr' with h|h
       ·exact d8 r h
       ·exact hloose r h
      have hnd:(rl++rs).Nodup:=ko.2 ⟨d7,b8,hdis⟩
      have hsr3:B4 σ3.w σ3.S L.ins v ys rs:=by
       rw[hw3,hS3,←hw1];exact hsr
      have hcl:=hcalls (xl,v) hpre σ3.w σ3.S y y0 ys rl rs (fun q hq=>(d4.stab q hq).1) (by rw[hw3];exact GlobsOk.mono (hg2.trans d5).stab (fun _ _=>rfl) hG) d6 hsr3 hnd (fun r hr'=>⟨(hall r hr').2.2.1,(hall r hr').2.1⟩)
      rw[hw3]at hcl
      have hend:∀(e:Ending) (w':World),(∃zs rs',e=.returned (DH zs)/\Low ⟨σ.w,fun r=>r∈rl++rs⟩ w'/\(∀r∈rs',Base.new ⟨σ.w,fun r=>r∈rl++rs⟩ r/\r<w'.heap.size)/\(rl++rs').Nodup /\
        B4 w' (fun q=>(σ3.S q∨(Base.new ⟨σ.w,fun r=>r∈rl++rs⟩ q/\q<w'.heap.size))/\q∉rl++rs') L.outs (L.F (xl,v)).2 zs rs' /\
        L8 w' (fun q=>(σ3.S q∨(Base.new ⟨σ.w,fun r=>r∈rl++rs⟩ q/\q<w'.heap.size))/\q∉rl++rs') L.lend (L.F (xl,v)).1 y0 rl)->∃v,e=.returned v/\K (a.put o.dst v) w':=fun e w' he=>by
       obtain⟨zs,rs',rfl,hb,hr',hn',hz',hbk⟩:=he
       rw[←hw3]at hb hr' hz' hbk
       have hr'':∀r∈rl++rs',Base.new ⟨σ3.w,fun r=>r∈rl++rs⟩ r/\r<w'.heap.size:=fun r h=>by
        rcases dt.1 h with h|h
        ·exact⟨.inr (dt.2 (.inl h)),az (d8 r h).2.1 hb.size⟩
        ·exact hr' r h
       obtain⟨k1,k2,k3⟩:=aEc d4 hall hb hr''
       obtain⟨n1,n2,n3⟩:=ko.1 hn'
       have hsm:∀b',b'≠b->Ac σ3.mem b'=Ac σ2.mem b'/\σ3.E.β b'=σ2.E.β b'/\σ3.E.κ b'=σ2.E.κ b':=fun b' hne=>by
        rw[d1,d14,d13,B9 d9.1,ag hne];exact⟨rfl,rfl,rfl⟩
       have hhp:∀b' r,b'≠b->σ2.owned b' r->w'.heap[r]? = σ2.w.heap[r]?:=fun b' r hne ho2=>by
        have ho3:σ3.owned b' r:=by
         obtain⟨e1,e2,_⟩:=hsm b' hne
         exact⟨by rw[e1];exact ho2.1,e2.trans ho2.2⟩
        rw[←d2]
        refine hb.block r (by show r<σ3.w.heap.size;rw[d2];exact(b5.own b' r ho2).2.1) (fun hin=>(hall r hin).2.2.2 b' ho3)
       obtain⟨σ4,g1,g2,g3,g4,g5,g6⟩:=aYy k1 (d5.trans k2) d9 (by show Ac σ3.mem b=.gone;exact d10) b5 hsm hhp hbk (fun r h=>k3 r (dt.2 (.inl h)))
       have ev':Cg σ4.mem L.outs (L.F (xl,v)).2=some (vs,m4):=by
        rw[g1]
        show Cg (We σ3.mem b L.lend (L.F (xl,v)).1) L.outs _=_
        rw[d1];exact ev
       have hz4:B4 σ4.w σ4.S L.outs (L.F (xl,v)).2 zs rs':=by rw[g2,g3];exact hz'
       obtain⟨σ5,c1,c2,c3,c4,c5,c6⟩:=Yx g4 hz4 n2 (fun r h=>by
        obtain⟨q1,q2,q3,q4⟩:=k3 r (dt.2 (.inr h))
        refine⟨q1,by rw[g2];exact q2,by rw[g3];exact q3,fun b' hb'=>?_⟩
        rcases g6 b' r hb' with g|g
        ·exact q4 b' g
        ·exact n3 r g r h rfl) ev'
       have:=hK (DH zs) σ5 c4 ((hg2.trans g5).trans c5).moves c1 (jB c6)
       rw[c2,g2]at this
       exact⟨_,rfl,this⟩
      rcases hcl with⟨hcall,hcl⟩|⟨v',hv,hpost⟩
      ·unfold Oper.wp
       rw[hexec,iX hcall,Oper.upon_enter]
       refine hcl.mono fun e w' he=>?_
       obtain⟨v,rfl,hk⟩:=hend e w' he
       exact hk
      ·obtain⟨v',hv',hk⟩:=hend _ _ hpost
       cases hv'
       unfold Oper.wp
       rw[hexec,hv]
       exact hk
     ·cases h
    ·cases h
   ·cases h
 |nil=>cases h
theorem bCv(ho:Ok base S0 σ)(hr:RelT σ s a)(hx:BH a ctx){T:TypeId}{y:Operand}{lo hi mx:Option Operand}{b:Nat}(hop:o.op=.slice T y lo hi mx)(hns:PU C s ctx T y lo hi mx=none)(ht:Vq C s ctx y lo mx=some b)(h:At C s ctx o=some (.ok true x mem')):BQ C base S0 id σ a o x mem':=by
 have hlo:lo=none/\mx=none/\Bj s ctx y=some (.own b):=by
  unfold Vq at ht;cases lo with
  |some _=>simp at ht
  |none=>
   cases mx with
   |some _=>simp at ht
   |none=>
    have ht:=(AK ht).2;split at ht
    ·rename_i b' e;split at ht<;>first|(cases ht;done)|(cases ht;exact⟨rfl,rfl,e⟩)
    ·cases ht
 obtain⟨rfl,rfl,ey⟩:=hlo;unfold At at h;rw[hop]at h;simp only[hns,ht]at h;split at h
 ·rename_i e hT;split at h
  ·rename_i τ eτ;split at h
   ·rename_i xs exs;split at h
    ·rename_i hh eh;simp only[ap,Res.ok.injEq,ar,ai]at h;obtain⟨⟨g1,g2⟩,rfl,rfl⟩:=h;rw[←hr.mem]at exs;have hb:Ac σ.mem b=.arr τ xs∨Ac σ.mem b=.acc τ xs:=by
      unfold iW at exs;split at exs
      ·rename_i eb;obtain⟨hττ,hxs⟩:=G3 exs;subst hττ;simp only at hxs;subst hxs;exact .inl eb
      ·rename_i eb;obtain⟨hττ,hxs⟩:=G3 exs;subst hττ;simp only at hxs;subst hxs;exact .inr eb
      ·cases exs
     obtain⟨σ1,rs,a1,a2,a3,a4,a5,a6,⟨k,h1,h2,h3⟩,a8,a9,a10⟩:=WE ho hb (BJ hr hx ey);have hA:∃A,a.eval y=.slice A xs.length k/\(∀r,A=some r->r.add 0=r):=by
      rcases h3 with⟨h3,_⟩|⟨r,_,_,h3,_⟩
      ·exact⟨none,h3,fun r h=>by cases h⟩
      ·exact⟨_,h3,fun r h=>by simp[Addr.add]⟩
     obtain⟨A,hy,hadd⟩:=hA;have hrun:=aEW (C:=C) (lo:=none) hr hx hT eτ hy h1 (l:=0) rfl eh hop (lc _) g1 g2 σ.w;have hv:(Value.slice (if k=(0:Int).toNat then A else A.map (·.add ((0:Int).toNat*τ.width))) (hh.toNat-(0:Int).toNat) (k-(0:Int).toNat))=.slice A (xs.take hh.toNat).length k:=by
      have e1:(xs.take hh.toNat).length=hh.toNat:=by simp;omega
      have e2:(if k=(0:Int).toNat then A else A.map (·.add ((0:Int).toNat*τ.width)))=A:=by
       split
       ·rfl
       ·cases A with
        |none=>rfl
        |some r=>simp only[Int.toNat_zero,Nat.zero_mul,kj,hadd r rfl]
      rw[e1,e2];simp
     rw[hv]at hrun;have hown:Ft σ1.w σ1.S τ (xs.take hh.toNat) (.slice A (xs.take hh.toNat).length k) rs:=by
      rw[a2,a4];refine⟨k,by simp;omega,h2,?_⟩;rcases h3 with⟨e1,e2,e3⟩|⟨r,vs,T',e1,e2,e3,e4,e5⟩
      ·rw[hy]at e1;cases e1;exact .inl ⟨rfl,e2,e3⟩
      ·rw[hy]at e1;cases e1;exact .inr ⟨r,vs,T',rfl,e2,e3,e4,fun i x hi=>e5 i x (by
        rw[mc]at hi;split at hi
        ·exact hi
        ·cases hi)⟩
     obtain⟨σ2,b1,b2,b3,b4,b5,b6,_⟩:=aOw a5 hown (fun r hr'=>by
      obtain⟨⟨b',hb'⟩,hn⟩:=a9 r hr';have:=ho.own b' r hb';exact⟨this.1,by rw[a2];exact this.2.1,by rw[a4];exact this.2.2,hn⟩)
     refine AY (σ':=σ2) (v:=.slice A (xs.take hh.toNat).length k) ?_ b4 (a6.trans b5).moves (by rw[b1,a1,hr.mem]) ?_
     ·rw[b2,a2];exact hrun
     ·rw[a1]at b6;have e:(σ.mem.set b .gone).length=s.mem.length:=by rw[hr.mem];simp
      rw[e]at b6;exact b6
    ·cases h
   ·cases h
  ·cases h
 ·cases h
end Vx
namespace Vx
open Go Go.RowKit
variable {C:Cfg}{base:Base}{S0:Nat->Prop}{σ:Sit}{s:St}{a:Act}{ctx:List (Nat×Bool)}{o:Oper}{x:TV}{mem':Ae}
def Sit.all(σ:Sit):Sit:={σ with S:=fun q=>q<σ.w.heap.size}
theorem aYk(ho:Ok base S0 σ):Goes σ σ.all:=⟨fun r h=>(ho.stab r h).1,fun _ _=>rfl,ci _,fun _ _=>BL.refl rfl rfl rfl⟩
theorem aEO(ho:Ok base S0 σ){b:Nat}{τ:Shape}{xs:List (Ab τ)}(e:Ac σ.mem b=.arr τ xs∨Ac σ.mem b=.acc τ xs):
  AJ σ.w σ.all.S (.slice τ) xs [.slice ((σ.E.β b).map fun r=>⟨r,0,none⟩) xs.length (σ.E.κ b)]:=by
 have hent:xs.length<=σ.E.κ b/\σ.E.κ b<BU/\((σ.E.β b=none/\σ.E.κ b=0) ∨
   ∃r vs T,σ.E.β b=some r/\σ.w.heap[r]? = some (.cells vs T (0,0))/\vs.size=σ.E.κ b*τ.width/\Rows σ.w σ.S τ vs 0 xs):=by
  have h:=ho.ent b;unfold AE at h;rcases e with e|e<;>rw[e]at h<;>exact h
 obtain⟨h1,h2,h3⟩:=hent;refine⟨_,_,rfl,h1,h2,fun hx=>?_⟩;rcases h3 with⟨h4,h5⟩|⟨r,vs,T,h4,h5,h6,h7⟩
 ·exfalso;have:xs.length=0:=by omega
  exact hx (List.length_eq_zero_iff.1 this)
 ·have hown:σ.owned b r:=⟨by rcases e with h|h<;>rw[h]<;>trivial,h4⟩
  refine⟨r,0,vs,T,(0,0),by rw[h4];rfl,(ho.own b r hown).2.1,h5,fun i x hi=>?_⟩;obtain⟨ds,d1,d2⟩:=h7 i x hi;exact⟨ds,d1.mono (fun r h=>(ho.stab r h).1) (fun _ _=>rfl),d2⟩
theorem bCJ(ho:Ok base S0 σ){b:Nat}{τ:Shape}{xs:List (Ab τ)}(e:Ac σ.mem b=.arr τ xs){lo n:Nat}{A:Option Addr}{c:Nat}(hle:lo+n<=xs.length)(h1:n<=c)(h2:c<BU)(h3:0<n->∃r,σ.E.β b=some r/\A=some ⟨r,lo*τ.width,none⟩):
  AJ σ.w σ.all.S (.slice τ) ((xs.drop lo).take n) [.slice A n c]:=by
 have hlen:((xs.drop lo).take n).length=n:=by simp;omega
 refine⟨A,c,by rw[hlen],by omega,h2,fun hx=>?_⟩;have hn:0<n:=by
  rcases cg n with h|h
  ·exact absurd (co (by omega)) hx
  ·exact h
 obtain⟨r0,hβ,hA⟩:=h3 hn;obtain⟨_,_,e1,_,_,e4⟩:=aEO ho (.inl e);cases e1;obtain⟨r,o,vs,T,fz,f1,f2,f3,f4⟩:=e4 (by intro h;subst h;simp at hle;omega);rw[hβ]at f1;cases f1;refine⟨r0,lo*τ.width,vs,T,fz,hA,f2,f3,fun i x hi=>?_⟩;rw[mc]at hi;split at hi
 ·rw[fe]at hi;obtain⟨ds,d1,d2⟩:=f4 _ _ hi;refine⟨ds,d1,fun j d hj=>?_⟩;have:=d2 j d hj;rw[cu]at this;rw[show lo*τ.width+i*τ.width+j=0+(lo*τ.width+i*τ.width)+j by omega];exact this
 ·cases hi
theorem tB(ho:Ok base S0 σ){c:SC}{y:Value}(h:Aw σ c y):Aw σ.all (F6 σ.mem c) y:=by
 have hg:=aYk ho;unfold F6;split
 ·rename_i b;obtain⟨hb,hs,hm⟩:=h;split
  ·rename_i τ xs e;rw[e]at hm;simp only at hm;subst hm;exact aEO ho (.inl e)
  ·rename_i τ xs e;rw[e]at hm;simp only at hm;subst hm;exact aEO ho (.inr e)
  ·rename_i τ xs e;rw[e]at hm;exact AJ.mono hg.stab hg.heap hm
  ·exact hs
 ·rename_i b lo n;obtain⟨hb,hs,hm⟩:=h;split
  ·rename_i τ xs e;rw[e]at hm;simp only at hm;obtain⟨hle,A,c,rfl,h1,h2,h3⟩:=hm;exact bCJ ho e hle h1 h2 h3
  ·exact hs
 ·exact hg.repC h
theorem aMr(mem:Ae)(c:SC)(b:Nat):F6 mem c≠.own b:=by
 unfold F6;split
 ·split<;>(intro h;cases h)
 ·split<;>(intro h;cases h)
 ·rename_i h _;exact h b
theorem aMs(ho:Ok base S0 σ){cs:List SC}{ys:List Value}(h:All2 (Aw σ) cs ys):All2 (Aw σ.all) (cs.map (F6 σ.mem)) ys:=
 h.mapL (F6 σ.mem) fun _ _ h=>tB ho h
theorem aNN{R:SC->Value->Prop}:∀{cs:List SC} {ys:List Value} (n:Nat),All2 R cs ys->∃ys',All2 R (DD n cs) ys'/\∀j d,ys'[j]? = some d->ys[n+j]? = some d
 |cs,ys,0,h=>⟨ys,by simpa[DD]using h,fun j d e=>by rw[dj];exact e⟩
 | [],_,n+1,.nil=>⟨[],.nil,fun j d e=>by simp at e⟩
 |_::cs,_,n+1,.cons _ t=>by
  obtain⟨ys',h1,h2⟩:=aNN n t
  exact⟨ys',h1,fun j d e=>by rw[show n+1+j=(n+j)+1 by omega];simpa using h2 j d e⟩
theorem aYI(ho:Ok base S0 σ){a:Shape}{b off:Nat}{y:Value}(h:Aw σ (.ptr b off) y){c:SC}(e:aCS σ.mem a b off=some c):Aw σ.all c y:=by
 unfold aCS at e;split at e
 ·rename_i cs eb;split at e
  ·rename_i x r ep;cases e;obtain⟨hb,hn,hm⟩:=h;rw[eb]at hm;simp only at hm;obtain⟨q,hq,rfl⟩:=hm;have hent:=ho.ent b;unfold AE at hent;rw[eb]at hent;obtain⟨q',vs,T,h1,h2,h3⟩:=hent;rw[hq]at h1;cases h1;have hown:σ.owned b q:=⟨by rw[eb];trivial,hq⟩
   obtain⟨ys',k1,k2⟩:=aNN off h3;obtain⟨y1,y2,e1,d,_⟩:=H2 (aMs ho k1) ep;refine⟨q,off,vs,T,(0,0),y1,rfl,(ho.own b q hown).2.1,h2,d,fun j dd hj=>?_⟩;have:ys'[j]? = some dd:=by rw[e1];exact cw (by have:=(bp.1 hj).1;exact this)▸hj
   have:=k2 j dd this;simpa using this
  ·cases e
 ·cases e
theorem aYK(ho:Ok base S0 σ){τ:Shape}{z:SV}{y:Value}(h:Bv σ z y):Bv σ.all (fN σ.mem τ z) y:=by
 unfold fN;split
 ·split
  ·split
   ·rename_i c' e;exact aYI ho h e
   ·exact tB (c:=.ptr _ _) ho h
  ·exact tB ho (show Aw σ _ y from h)
 ·obtain⟨ys,e,h⟩:=h;exact⟨ys,e,aMs ho h⟩
theorem bCG{σ:Sit}{mem mem':Ae}{a:Bool}{τ:Shape}{z:SV}{y:Value}{x:Ab τ}(hz:Bv σ z y)(h:C6 mem a τ z=some (x,mem')):Di σ.w σ.S a τ x y:=by
 unfold C6 at h;split at h
 ·rename_i c;cases a with
  |true=>cases h
  |false=>
   simp only[ab]at h;split at h
   ·rename_i u eu;cases h;obtain⟨y1,y2,e,d,r⟩:=H2 (All2.cons hz All2.nil) eu;cases r;rw[du]at e;show AJ _ _ _ _ _;rw[e];exact d
   ·cases h
 ·rename_i cs;cases a with
  |false=>cases h
  |true=>
   simp only[aa]at h;split at h
   ·rename_i u eu;cases h;obtain⟨zs,e0,ha⟩:=hz;obtain⟨y1,y2,e,d,r⟩:=H2 ha eu;cases r;rw[du]at e;exact⟨zs,e0,by rw[e];exact d⟩
   ·cases h
theorem bAa{w:World}{S:Nat->Prop}{a:Bool}{τ:Shape}{x:Ab τ}{y:Value}(hn:FD a τ=false)(h:Di w S a τ x y):EO w S a τ x y []:=by
 cases τ with
 |slice e=>
  cases a with
  |true=>cases hn
  |false=>exact⟨rfl,h⟩
 |_=>exact⟨rfl,h⟩
theorem aSM(ho:Ok base S0 σ):∀{sg:Aa} {args:List SV} {ys:List Value} {x:DenS sg},All2 (Bv σ) args ys->J0 σ.mem sg args=some x->B4 σ.w σ.all.S sg x ys []
 | [],[],_,x,.nil,h=>⟨rfl,rfl⟩
 | [],_::_,_,x,_,h=>by simp[J0]at h
 |_::_,[],_,x,_,h=>by simp[J0]at h
 |(a,τ)::sg,z::args,_,x,.cons (b:=y) (bs:=ys) hz ht,h=>by
  simp only[J0]at h
  cases hn:FD a τ with
  |true=>rw[hn]at h;cases h
  |false=>
   rw[hn]at h
   simp only[ab]at h
   split at h
   ·rename_i u m v e1 e2
    cases h
    exact⟨y,ys,[],[],rfl,rfl,bAa hn (bCG (σ:=σ.all) (aYK ho hz) e1),aSM ho ht e2⟩
   ·cases h
theorem gL{w w':World}{S S':Nat->Prop}:∀{τ:Shape} {x:Ab τ} {cs:List Value},Py τ=true->AJ w S τ x cs->AJ w' S' τ x cs
 |.int _,_,_,_,h=>h
 |.flt _,_,_,_,h=>h
 |.bool,_,_,_,h=>h
 |.str,_,_,_,h=>h
 |.unit,_,_,_,h=>h
 |.cx _,_,_,_,h=>h
 |.ifc,none,_,_,h=>h
 |.ifc,some _,_,_,h=>h
 |.pfn,_,_,_,h=>h
 |.pair a b,_,_,hf,⟨c1,c2,h,h1,h2⟩=>by
  simp only[Py,ar]at hf
  exact⟨c1,c2,h,gL hf.1 h1,gL hf.2 h2⟩
theorem bAi{w w':World}{S S':Nat->Prop}{a:Bool}{τ:Shape}{x:Ab τ}{y:Value}{rs:List Nat}(hf:Py τ=true)(h:EO w S a τ x y rs):rs=[]/\EO w' S' a τ x y []:=by
 have key:∀{σ:Shape} {x:Ab σ},Py σ=true->Di w S a σ x y->Di w' S' a σ x y:=fun hf h=>by
  cases a with
  |true=>obtain⟨cs,h1,h2⟩:=h;exact⟨cs,h1,gL hf h2⟩
  |false=>exact gL (w:=w) (S:=S) hf h
 cases τ with
 |slice e=>cases hf
 |_=>exact⟨h.1,rfl,key hf h.2⟩
theorem aOd{w w':World}{S S':Nat->Prop}:∀{sg:Aa} {x:DenS sg} {ys:List Value} {rs:List Nat},Wu sg=true->B4 w S sg x ys rs->rs=[]/\B4 w' S' sg x ys []
 | [],_,_,_,_,h=>⟨h.2,h.1,rfl⟩
 |(a,τ)::sg,x,ys,rs,hf,⟨y,ys',r1,r2,e1,e2,h1,h2⟩=>by
  simp only[Wu,ar]at hf
  obtain⟨k1,k2⟩:=bAi (w':=w') (S':=S') hf.1 h1
  obtain⟨k3,k4⟩:=aOd (w':=w') (S':=S') hf.2 h2
  exact⟨by rw[e2,k1,k3];rfl,y,ys',[],[],e1,rfl,k2,k4⟩
theorem bAT{mem mem':Ae}{a:Bool}{τ:Shape}{x:Ab τ}{v:SV}(h:DE.giveP mem a τ x=some (v,mem')):mem'=mem:=by
 unfold DE.giveP at h;cases a with
 |true=>simp only[aa,ap,cr]at h;exact h.2.symm
 |false=>
  simp only[ab]at h;split at h
  ·cases h;rfl
  ·cases h
theorem aOz{mem mem':Ae}:∀{sg:Aa} {x:DenS sg} {vs:List SV},Wu sg=true->Cg mem sg x=some (vs,mem')->mem'=mem
 | [],_,_,_,h=>by simp only[Cg,ap,cr]at h;exact h.2.symm
 |(a,τ)::sg,x,vs,hf,h=>by
  simp only[Wu,ar]at hf
  simp only[Cg]at h
  split at h
  ·rename_i v m1 e1
   have hm:m1=mem:=by
    cases τ with
    |slice e=>cases hf.1
    |_=>exact bAT e1
   subst hm
   split at h
   ·rename_i r m2 e2
    cases h
    exact aOz hf.2 e2
   ·cases h
  ·cases h
theorem tL{mem mem':Ae}{S:Sum}{args:List SV}{g:Bool}{x:TV}(h:Fw mem S args=some (g,x,mem')):mem'=mem:=by
 unfold Fw at h;obtain⟨hf,h⟩:=AK h;split at h
 ·split at h
  ·rename_i vs m ev;cases h;exact aOz hf ev
  ·cases h
 ·cases h
theorem aZw(ho:Ok base S0 σ)(hr:RelT σ s a)(hG:GlobsOk C.globs σ.w σ.S){args:List SV}{ys:List Value}(hargs:All2 (Bv σ) args ys){S:Sum}(h:Fw s.mem S args=some (true,x,mem'))
  (hcalls:∀z,S.pre z=true->∀(St:Nat->Prop) (rs:List Nat),(∀q,σ.S q->St q)->(∀q,St q->q<σ.w.heap.size)->GlobsOk C.globs σ.w St->B4 σ.w St S.ins z ys rs->rs.Nodup->(∀r∈rs,¬St r/\r<σ.w.heap.size) ->
   ∃f as,(execOp a.eval o).run C.P σ.w=(callFunc f as).run C.P σ.w/\Xl C.P f as σ.w fun e w'=>∃zs rs',e=.returned (DH zs)/\Low ⟨σ.w,fun r=>r∈rs⟩ w'/\(∀r∈rs',Base.new ⟨σ.w,fun r=>r∈rs⟩ r/\r<w'.heap.size)/\rs'.Nodup /\
    B4 w' (fun q=>(St q∨(Base.new ⟨σ.w,fun r=>r∈rs⟩ q/\q<w'.heap.size))/\q∉rs') S.outs (S.F z) zs rs'):BQ C base S0 id σ a o x mem':=by
 unfold Fw at h
 obtain⟨hflat,h⟩:=AK h
 split at h
 ·rename_i z ez
  split at h
  ·rename_i vs m3 ev
   simp only[ap,cr]at h
   obtain⟨hpre,rfl,rfl⟩:=h
   rw[←hr.mem]at ez ev
   intro K Q hK
   obtain⟨f,as,hexec,hcl⟩:=hcalls z hpre σ.all.S [] (fun q h=>(ho.stab q h).1) (fun q h=>h) (GlobsOk.mono (fun q h=>(ho.stab q h).1) (fun _ _=>rfl) hG) (aSM ho hargs ez) jt (fun r h=>by simp at h)
   have hend:∀(e:Ending) (w':World),(∃zs rs',e=.returned (DH zs)/\Low ⟨σ.w,fun r=>r∈([]:List Nat)⟩ w'/\(∀r∈rs',Base.new ⟨σ.w,fun r=>r∈([]:List Nat)⟩ r/\r<w'.heap.size)/\rs'.Nodup /\
     B4 w' (fun q=>(σ.all.S q∨(Base.new ⟨σ.w,fun r=>r∈([]:List Nat)⟩ q/\q<w'.heap.size))/\q∉rs') S.outs (S.F z) zs rs')->∃v,e=.returned v/\K (a.put o.dst v) w':=fun e w' he=>by
    obtain⟨zs,rs',rfl,hb,hr',hn',hz⟩:=he
    obtain⟨k1,k2,k3⟩:=aEc (rs':=[]) ho (fun r h=>by simp at h) hb (fun r h=>by simp at h)
    obtain⟨_,hz'⟩:=aOd (w':=(σ.later [] [] w').w) (S':=(σ.later [] [] w').S) hflat hz
    have ev':Cg (σ.later [] [] w').mem S.outs (S.F z)=some (vs,m3):=ev
    obtain⟨σ3,c1,c2,c3,c4,c5,c6⟩:=Yx k1 hz' jt (fun r h=>by simp at h) ev'
    have:=hK (DH zs) σ3 c4 (k2.trans c5).moves c1 (jB c6)
    rw[c2]at this
    exact⟨_,rfl,this⟩
   rcases hcl with⟨hcall,hcl⟩|⟨v,hv,hpost⟩
   ·unfold Oper.wp
    rw[hexec,iX hcall,Oper.upon_enter]
    refine hcl.mono fun e w' he=>?_
    obtain⟨v,rfl,hk⟩:=hend e w' he
    exact hk
   ·obtain⟨v',hv',hk⟩:=hend _ _ hpost
    cases hv'
    unfold Oper.wp
    rw[hexec,hv]
    exact hk
  ·cases h
 ·cases h
theorem bG4{mem:Ae}{τ:Shape}{b:Nat}{xs:List (Ab τ)}(h:iW mem τ b=some xs):Ac mem b=.arr τ xs∨Ac mem b=.acc τ xs:=by
 unfold iW at h;split at h
 ·rename_i e;obtain⟨h1,h2⟩:=G3 h;subst h1;simp only at h2;subst h2;exact .inl e
 ·rename_i e;obtain⟨h1,h2⟩:=G3 h;subst h1;simp only at h2;subst h2;exact .inr e
 ·cases h
theorem bBg{σ1:Sit}(ho:Ok base S0 σ)(hw:σ1.w=σ.w)(hS:σ1.S=σ.S){rs:List Nat}(h:∀r∈rs,(∃b,σ.owned b r)/\∀b,¬σ1.owned b r):∀r∈rs,Eo base σ1 r:=fun r hr=>by
 obtain⟨⟨b,hb⟩,hn⟩:=h r hr
 have:=ho.own b r hb
 exact⟨this.1,by rw[hw];exact this.2.1,by rw[hS];exact this.2.2,hn⟩
theorem aQC(ho:Ok base S0 σ){b:Nat}{τ:Shape}{xs:List (Ab τ)}(he:Ac σ.mem b=.arr τ xs∨Ac σ.mem b=.acc τ xs){y:Value}(hy:Aw σ (.own b) y){g:Blk}(hg:g=.arr τ xs∨g=.acc τ xs):
  ∃σ':Sit,σ'.mem=σ.mem.set b .gone++[g]/\σ'.w=σ.w/\Ok base S0 σ'/\Goes σ σ'/\Aw σ' (.own σ.mem.length) y:=by
 obtain⟨σ1,rs,a1,a2,a3,a4,a5,a6,a7,a8,a9,a10⟩:=WE ho he hy;have h7:Ft σ1.w σ1.S τ xs y rs:=by rw[a2,a4];exact a7
 obtain⟨σ2,b1,b2,b3,b4,b5,b6,_⟩:=aOx a5 hg h7 (bBg ho a2 a4 a9);refine⟨σ2,by rw[b1,a1],b2.trans a2,b4,a6.trans b5,?_⟩;have e:σ1.mem.length=σ.mem.length:=by rw[a1];simp
 rw[e]at b6;exact b6
theorem bCC{σ:Sit}{b:Nat}{τ:Shape}{xs:List (Ab τ)}(he:Ac σ.mem b=.acc τ xs){y:Value}(hy:Aw σ (.own b) y):y=.slice ((σ.E.β b).map fun r=>⟨r,0,none⟩) xs.length (σ.E.κ b):=by
 obtain⟨_,_,h⟩:=hy;rw[he]at h;exact h
theorem aMa{σ0 σ:Sit}(hm0:Moves id σ0 σ)(hlt0:σ0.mem.length<=σ.mem.length)(ho:Ok base S0 σ){m:Ae}{τ:Shape}{xs ys:List (Ab τ)}(hmem:σ.mem=m++[.acc τ xs])(hle:σ0.mem.length<=m.length){y yv:Value}(hy:Aw σ (.own m.length) y){T T2 e:TypeId}{ty:TypeId}{e2:TypeId}{Ts:List TypeId}{Sd:Nat->Prop}(hd:AJ σ.w Sd (.slice τ) ys [yv])(hf:Py τ=true)
  (hT:C.P.underlying T=some (.slice e)) (hT2:C.P.underlying T2=some (.slice e2)) (eτ:CD C.P e=some τ) (hg:((xs.length:Int)+(ys.length:Int))*2*(C.P.bytesOf e:Int)<=EA) (hby:0<C.P.bytesOf e) (hz:PZ C.P e=true) :
  ∃(v:Value) (w':World) (σ':Sit),(jx (T::T2::Ts).toArray ty #[y,yv]).run C.P σ.w=.ok v w'/\σ'.w=w'/\Ok base S0 σ'/\Moves id σ0 σ'/\σ'.mem=m.map (D6 m.length)++[.gone]++[.arr τ (xs++ys)]/\Aw σ' (.own (m.length+1)) v:=by
 have hb:Ac σ.mem m.length=.acc τ xs:=by rw[hmem];exact Ex
 have hy':=bCC hb hy;obtain⟨r,k,w',k1,k2,k3,k4⟩:=aMc (C:=C) (T2:=T2) (ty:=ty) (Ts:=Ts) ho hb hd (fun _ _ _ h=>gL hf h) hT hT2 eτ hg hby hz;rw[←hy']at k1;have hgm:(σ.grow m.length (.acc τ (xs++ys)) r k w').mem=m.map (D6 m.length)++[.acc τ (xs++ys)]:=by
  simp[Sit.grow,hmem,D6]
 have hb2:Ac (σ.grow m.length (.acc τ (xs++ys)) r k w').mem m.length=.acc τ (xs++ys):=by
  rw[hgm];have:(m.map (D6 m.length)).length=m.length:=by simp
  have h2:=Ex (mem:=m.map (D6 m.length)) (e:=.acc τ (xs++ys));rw[this]at h2;exact h2
 obtain⟨σ',c1,c2,c3,c4,c5⟩:=aQC k2 (.inr hb2) k4 (g:=.arr τ (xs++ys)) (.inl rfl);have hlen:(σ.grow m.length (.acc τ (xs++ys)) r k w').mem.length=m.length+1:=by rw[hgm];simp
 refine⟨_,w',σ',k1,c2,c3,⟨fun q h=>c4.stab q (k3.stab q (hm0.stab q h)),fun q h=>(c4.heap q (k3.stab q (hm0.stab q h))).trans ((k3.heap q (hm0.stab q h)).trans (hm0.heap q h)),fun c y h=>?_,?_,fun b hb ha=>?_⟩,?_,?_⟩
 ·have h1:=hm0.rep c y h;have h2:=k3.rep c y h1;have hne:DQ m.length c=c:=by
   unfold DQ;cases c with
   |own b' =>
    have:b'<σ0.mem.length:=h.1;have hn:Nat.beq m.length b'=false:=by
     cases hq:Nat.beq m.length b' with
     |false=>rfl
     |true=>have:=av hq;omega
    simp only[hn,ab]
   |_=>rfl
  rw[hne]at h2;exact c4.repC h2
 ·exact gb hlt0 (gb k3.len c4.len)
 ·exact hm0.noacc b hb (k3.noacc b (az hb hlt0) (c4.noacc b (az hb (gb hlt0 k3.len)) ha))
 ·rw[c1,hgm];have:(m.map (D6 m.length)).length=m.length:=by simp
  rw[List.set_append];simp[this]
 ·rw[hlen]at c5;exact c5
theorem aP2(ho:Ok base S0 σ)(hr:RelT σ s a)(hx:BH a ctx){c:Call}(hop:o.op=.call c)(hc:c.callee=.builtin .append)(h:Yg C s ctx c=some (.ok true x mem')):
  BQ C base S0 id σ a o x mem'/\∃b τ xs,x=.val (.one (.own b))/\Ac mem' b=.arr τ xs:=by
 unfold Yg at h;simp only at h;split at h
 ·rename_i y z T T2 Ts e1 e2;split at h
  ·rename_i e e3 ac yc hT hT2 ea ey;split at h
   ·rename_i τ eτ;have hfl:=(AK h).1;replace h:=(AK h).2;have hm:=hr.mem;have hya:=tB ho (BJ hr hx ey);rw[hm]at hya;have hexec:∀{v w'},(jx (T::T2::Ts).toArray o.type #[a.eval y,a.eval z]).run C.P σ.w=.ok v w'->(execOp a.eval o).run C.P σ.w=.ok (.value v) w':=fun hv=>by
     obtain⟨cs,hcs⟩:=H6 (a:=a) (P:=C.P) hop hc σ.w;rw[hcs,HS e1,W5 e2];simp only[builtin];exact BO hv
    split at h
    ·rename_i ys eys;simp only[ap,Res.ok.injEq,ar]at h;obtain⟨⟨⟨g1,g2⟩,g3⟩,rfl,rfl⟩:=h;have hd:=Wc (σ:=σ.all) hya (aMr _ _) (by show HU σ.mem _ _=_;rw[hm];exact eys);obtain⟨hay,_⟩:=BJ hr hx ea;have ho2:=aEk ho τ;have hg2:=uT σ (.acc τ []);have hβ:(σ.name (.acc τ [])).E.β σ.mem.length=none:=by simp[Sit.name,AI]
     have hκ:(σ.name (.acc τ [])).E.κ σ.mem.length=0:=by simp[Sit.name,AI]
     have hb2:Ac (σ.name (.acc τ [])).mem σ.mem.length=.acc τ []:=Ex;have hrep:Aw (σ.name (.acc τ [])) (.own σ.mem.length) (.slice none 0 0):=by
      refine⟨by simp[Sit.name],ak,?_⟩;rw[hb2];simp only[hβ,hκ];rfl
     obtain⟨v,w',σ',k1,k2,k3,k4,k5,k6⟩:=aMa (C:=C) (σ0:=σ) (σ:=σ.name (.acc τ [])) (T2:=T2) (ty:=o.type) (Ts:=Ts) hg2.moves hg2.len ho2 (m:=σ.mem) rfl (ci _) hrep (show AJ (σ.name (.acc τ [])).w σ.all.S _ _ _ from hd) hfl hT hT2 eτ (by simpa using vQ g1) (by simpa using g2) g3;rw[hm]at k5 k6;refine⟨AY (σ':=σ') (v:=v) ?_ k3 k4 (by rw[k5];simp) k6,s.mem.length+1,τ,ys,rfl,?_⟩
     ·refine hexec ?_;rw[hay,k2];exact k1
     ·have e:(s.mem.map (D6 s.mem.length)++[Blk.gone]).length=s.mem.length+1:=by simp
      have h2:=Ex (mem:=s.mem.map (D6 s.mem.length)++[Blk.gone]) (e:=.arr τ ys);rw[e]at h2;exact h2
    ·rename_i ys b eys;split at h
     ·rename_i xs exs;simp only[ap,Res.ok.injEq,ar]at h;obtain⟨⟨⟨g1,g2⟩,g3⟩,rfl,rfl⟩:=h;have hd:=Wc (σ:=σ.all) hya (aMr _ _) (by show HU σ.mem _ _=_;rw[hm];exact eys);have hb:=BJ hr hx ea;rw[←hm]at exs;obtain⟨σ2,b1,b2,b3,b4,b5⟩:=aQC ho (bG4 exs) hb (g:=.acc τ xs) (.inr rfl);have hlen:(σ.mem.set b .gone).length=σ.mem.length:=by simp
      obtain⟨v,w',σ',k1,k2,k3,k4,k5,k6⟩:=aMa (C:=C) (σ0:=σ) (T2:=T2) (ty:=o.type) (Ts:=Ts) b4.moves b4.len b3 (m:=σ.mem.set b .gone) b1 (by rw[hlen];exact ci _) (by rw[hlen];exact b5) (by rw[b2];exact hd) hfl hT hT2 eτ (by have:=vQ g1;rw[ng]at this;exact this) (by simpa using g2) g3;rw[hlen,hm]at k5 k6;refine⟨AY (σ':=σ') (v:=v) ?_ k3 k4 k5 k6,s.mem.length+1,τ,xs++ys,rfl,?_⟩
      ·refine hexec ?_;rw[k2,←b2];exact k1
      ·have e:((s.mem.set b .gone).map (D6 s.mem.length)++[Blk.gone]).length=s.mem.length+1:=by simp
       have h2:=Ex (mem:=(s.mem.set b .gone).map (D6 s.mem.length)++[Blk.gone]) (e:=.arr τ (xs++ys));rw[e]at h2;exact h2
     ·cases h
    ·cases h
   ·cases h
  ·cases h
 ·cases h
end Vx
namespace Vx
open Go Go.RowKit
def ZO:List Nat->List Nat->Bool
 | [],[]=>true
 |a::r,b::s=>Nat.beq a b&&ZO r s
 |_,_=>false
def gM(o:Option (Nat×List Nat))(f:Nat)(cs:List Nat):Bool:=
 match o with
 |some p=>Nat.beq p.1 f&&ZO p.2 cs
 |none=>false
theorem aPQ:∀{a b:List Nat},ZO a b=true->a=b
 | [],[],_=>rfl
 | [],_::_,h=>by simp[ZO]at h
 |_::_,[],h=>by simp[ZO]at h
 |x::a,y::b,h=>by
  simp only[ZO,ar]at h
  rw[av h.1,aPQ h.2]
theorem bAm{o:Option (Nat×List Nat)}{f:Nat}{cs:List Nat}(h:gM o f cs=true):o=some (f,cs):=by
 unfold gM at h;split at h
 ·rename_i p;simp only[ar]at h;obtain⟨a,b⟩:=p;rw[show a=f from av h.1,show b=cs from aPQ h.2]
 ·cases h
def tQ(I O:Aa)(v:Option (Nat×List Nat))(x:DenS I):List (Nat×List Nat×Sum)->Bool
 | []=>false
 |(f,cs,S)::r=>bif gM v f cs then(if h:S.ins=I/\S.outs=O then S.pre (h.1▸x)else false)else tQ I O v x r
def tR(I O:Aa)(v:Option (Nat×List Nat))(x:DenS I):List (Nat×List Nat×Sum)->DenS O
 | []=>DenS.dflt0 O
 |(f,cs,S)::r=>bif gM v f cs then(if h:S.ins=I/\S.outs=O then h.2▸S.F (h.1▸x)else DenS.dflt0 O)else tR I O v x r
def LH(I O:Aa)(l:List (Nat×List Nat×Sum)):SumF:=⟨I,O,fun v x=>tQ I O v x l,fun v x=>tR I O v x l⟩
def aFh(P:Program)(G:List (Nat×Sigma fun τ=>List (Ab τ))):List (Nat×List Nat×Sum)->Prop
 | []=>True
 |(f,cs,S)::r=>FnSound P G f cs S/\aFh P G r
theorem Yo{P:Program}{G:List (Nat×Sigma fun τ=>List (Ab τ))}{I O:Aa}:∀{l:List (Nat×List Nat×Sum)},aFh P G l->Ma P G (LH I O l)
 | [],_,v,x,h=>by simp[LH,tQ]at h
 |(f,cs,S)::r,ha,v,x,h=>by
  simp only[LH,tQ]at h
  cases hb:gM v f cs with
  |true=>
   rw[hb,aa]at h
   split at h
   ·rename_i hh
    exact⟨f,cs,S,bAm hb,ha.1,hh.1,hh.2,h,by simp only[LH,tR];rw[hb,aa,dif_pos hh]⟩
   ·cases h
  |false=>
   rw[hb,ab]at h
   obtain⟨f',cs',S',k1,k2,k3,k4,k5,k6⟩:=Yo (I:=I) (O:=O) ha.2 v x h
   exact⟨f',cs',S',k1,k2,k3,k4,k5,by simp only[LH,tR];rw[hb,ab];exact k6⟩
variable {C:Cfg}{base:Base}{S0:Nat->Prop}{σ:Sit}{s:St}{a:Act}{ctx:List (Nat×Bool)}{o:Oper}{x:TV}{mem':Ae}
theorem aDc(ho:Ok base S0 σ)(hr:RelT σ s a)(hG:GlobsOk C.globs σ.w σ.S){args:List SV}{ys:List Value}(hargs:All2 (Bv σ) args ys){S:Sum}(h:EE s.mem S args=some (true,x,mem'))
  (hcalls:∀z,S.pre z=true->∀(St:Nat->Prop) (rs:List Nat),(∀q,σ.S q->St q)->(∀q,St q->q<σ.w.heap.size)->GlobsOk C.globs σ.w St->B4 σ.w St S.ins z ys rs->rs.Nodup->(∀r∈rs,¬St r/\r<σ.w.heap.size) ->
   ∃f as,(execOp a.eval o).run C.P σ.w=(callFunc f as).run C.P σ.w/\Xl C.P f as σ.w fun e w'=>∃zs rs',e=.returned (DH zs)/\Low ⟨σ.w,fun r=>r∈rs⟩ w'/\(∀r∈rs',Base.new ⟨σ.w,fun r=>r∈rs⟩ r/\r<w'.heap.size)/\rs'.Nodup /\
    B4 w' (fun q=>(St q∨(Base.new ⟨σ.w,fun r=>r∈rs⟩ q/\q<w'.heap.size))/\q∉rs') S.outs (S.F z) zs rs'):BQ C base S0 id σ a o x mem':=by
 unfold EE at h
 cases hf:BK s.mem S.ins args with
 |mk args' m1=>
  rw[hf]at h
  simp only at h
  rw[←hr.mem]at hf
  obtain⟨σ1,a1,a2,a3,a4,a5,a6⟩:=Ww ho hf
  split at h
  ·rename_i zm ez
   obtain⟨z,m2⟩:=zm
   simp only at h
   split at h
   ·rename_i vs m3 ev
    simp only[ap,cr]at h
    obtain⟨hpre,rfl,rfl⟩:=h
    rw[←a1]at ez
    obtain⟨σ2,rs,b1,b2,b3,b4,b5,b6,hsr,b8,b9,b10⟩:=jA a4 (a6 _ hargs) ez
    intro K Q hK
    have hloose:∀r∈rs,Eo base σ2 r:=fun r hr'=>by
     obtain⟨⟨b,hb⟩,hn⟩:=b9 r hr'
     have:=a4.own b r hb
     exact⟨this.1,by rw[b2];exact this.2.1,by rw[b4];exact this.2.2,hn⟩
    have hw2:σ2.w=σ.w:=b2.trans a2
    rw[←b2,←b4]at hsr
    obtain⟨f,as,hexec,hcl⟩:=hcalls z hpre σ2.S rs (a5.trans b6).stab (fun q hq=>by rw[←hw2];exact(b5.stab q hq).1) (GlobsOk.mono (a5.trans b6).stab (fun _ _=>rfl) hG) (by rw[←hw2];exact hsr) b8 (fun r hr'=>by rw[←hw2];exact⟨(hloose r hr').2.2.1,(hloose r hr').2.1⟩)
    have hend:∀(e:Ending) (w':World),(∃zs rs',e=.returned (DH zs)/\Low ⟨σ.w,fun r=>r∈rs⟩ w'/\(∀r∈rs',Base.new ⟨σ.w,fun r=>r∈rs⟩ r/\r<w'.heap.size)/\rs'.Nodup /\
      B4 w' (fun q=>(σ2.S q∨(Base.new ⟨σ.w,fun r=>r∈rs⟩ q/\q<w'.heap.size))/\q∉rs') S.outs (S.F z) zs rs')->∃v,e=.returned v/\K (a.put o.dst v) w':=fun e w' he=>by
     obtain⟨zs,rs',rfl,hb,hr',hn',hz⟩:=he
     rw[←hw2]at hb hr' hz
     obtain⟨k1,k2,k3⟩:=aEc b5 hloose hb hr'
     have ev':Cg (σ2.later rs rs' w').mem S.outs (S.F z)=some (vs,m3):=by
      show Cg σ2.mem S.outs (S.F z)=_
      rw[b1];exact ev
     obtain⟨σ3,c1,c2,c3,c4,c5,c6⟩:=Yx k1 hz hn' k3 ev'
     have:=hK (DH zs) σ3 c4 (((a5.trans b6).trans k2).trans c5).moves c1 (jB c6)
     rw[c2]at this
     exact⟨_,rfl,this⟩
    rcases hcl with⟨hcall,hcl⟩|⟨v,hv,hpost⟩
    ·unfold Oper.wp
     rw[hexec,iX hcall,Oper.upon_enter]
     refine hcl.mono fun e w' he=>?_
     obtain⟨v,rfl,hk⟩:=hend e w' he
     exact hk
    ·obtain⟨v',hv',hk⟩:=hend _ _ hpost
     cases hv'
     unfold Oper.wp
     rw[hexec,hv]
     exact hk
   ·cases h
  ·cases h
theorem bCu(hC:SumsOk C)(ho:Ok base S0 σ)(hr:RelT σ s a)(hx:BH a ctx)(hG:GlobsOk C.globs σ.w σ.S){c:Call}{fo:Operand}(hop:o.op=.call c)(hc:c.callee=.value fo)(hnv:∀v,Bj s ctx fo≠some (.fnv v))(h:At C s ctx o=some (.ok true x mem')):BQ C base S0 id σ a o x mem':=by
 unfold At at h;rw[hop]at h;simp only[hc]at h;split at h
 ·rename_i f caps args ef eargs;split at h
  ·rename_i L eL;have hcaps:caps=[]/\C.lsum f s.mem args=some L:=by
    split at eL
    ·exact⟨rfl,eL⟩
    ·cases eL
   obtain⟨rfl,hL⟩:=hcaps;exact bCf hC ho hr hx hG hop hc ef eargs hL h
  split at h
  ·rename_i S eS;have hcaps:caps=[]/\C.sum f s.mem args=some S:=by
    cases caps with
    |nil=>exact⟨rfl,eS⟩
    |cons _ _=>cases eS
   obtain⟨rfl,hS⟩:=hcaps;split at h
   ·rename_i g x' m' ec;simp only[ap,Res.ok.injEq]at h;obtain⟨rfl,rfl,rfl⟩:=h;have hfv:a.eval fo=.func (.func f) #[] #[]:=by
     obtain⟨_,_,h1⟩:=BJ hr hx ef;rcases h1 with⟨p,hp,_⟩|⟨rs,h1,h2⟩
     ·simp at hp
     ·simpa using h2
    have hex:(execOp a.eval o).run C.P σ.w=(callFunc f (c.args.toList.map a.eval).toArray).run C.P σ.w:=by
     simp only[execOp,hop,resolve,hc,hfv];simp only[Deferred.ofValue,cz,ej,cd,invoke];congr 2;apply gy.1;simp
    unfold Ey at ec;split at ec
    ·rename_i r eb;cases ec;cases hbor:C.bor with
     |false=>rw[hbor]at eb;cases eb
     |true=>
      rw[hbor]at eb;exact aZw ho hr hG (U5 hr hx eargs) eb fun z hz St rs _ hSl hGl hsr hnd hrs=>⟨f,_,hex,(hC.sums f _ _ S hS).calls z hz σ.w St _ rs hSl hGl hsr hnd hrs⟩
    ·exact aDc ho hr hG (U5 hr hx eargs) ec fun z hz St rs _ hSl hGl hsr hnd hrs=>⟨f,_,hex,(hC.sums f _ _ S hS).calls z hz σ.w St _ rs hSl hGl hsr hnd hrs⟩
   ·cases h
  ·have h2:=(AK h).2;cases h2
 ·rename_i ef _;exact absurd ef (hnv _)
 ·cases h
theorem aNY{mem:Ae}{T:TypeId}{args:List SV}{S:SumF}:∀{l:List (TypeId×SumF)},U7 mem T args l=some S->(T,S)∈l
 | [],h=>by simp[U7]at h
 |(T',S')::r,h=>by
  unfold U7 at h
  cases hb:Nat.beq T' T&&U9 mem S'.ins args with
  |true=>
   rw[hb]at h
   cases h
   simp only[ar]at hb
   rw[av hb.1]
   simp
  |false=>
   rw[hb]at h
   exact fw _ (aNY h)
theorem aN4{mem:Ae}{m:String}{args:List SV}{S:SumM}:∀{l:List (String×SumM)},U8 mem m args l=some S->(m,S)∈l
 | [],h=>by simp[U8]at h
 |(m',S')::r,h=>by
  unfold U8 at h
  cases hb:m'==m&&U9 mem S'.ins args with
  |true=>
   rw[hb]at h
   cases h
   simp only[ar,beq_iff_eq]at hb
   rw[hb.1]
   simp
  |false=>
   rw[hb]at h
   exact fw _ (aN4 h)
theorem bB9(hC:SumsOk C)(ho:Ok base S0 σ)(hr:RelT σ s a)(hx:BH a ctx)(hG:GlobsOk C.globs σ.w σ.S){c:Call}{fo:Operand}(hop:o.op=.call c)(hc:c.callee=.value fo){v:Option (Nat×List Nat)}(ef:Bj s ctx fo=some (.fnv v))(h:At C s ctx o=some (.ok true x mem')):BQ C base S0 id σ a o x mem':=by
 unfold At at h;rw[hop]at h;cases eargs:Ei s ctx c.args.toList with
 |none=>simp only[hc,ef,eargs]at h;cases h
 |some args=>
  simp only[hc,ef,eargs]at h;split at h
  ·rename_i S eS;split at h
   ·rename_i g x' m' ec;simp only[ap,Res.ok.injEq]at h;obtain⟨rfl,rfl,rfl⟩:=h;refine aDc ho hr hG (U5 hr hx eargs) ec fun z hz St rs hS hSl hGl hsr hnd hrs=>?_;obtain⟨f,cs,S1,rfl,hfn,h1,h2,k3,k4⟩:=hC.fns _ _ (aNY eS) v z hz;obtain⟨ps,hy,hp1,hp2⟩:=BJ hr hx ef;have hy:a.eval fo=.func (.func f) #[] ps.toArray:=by simpa using hy
    refine⟨f,(c.args.toList.map a.eval++ps).toArray,?_,?_⟩
    ·simp only[execOp,hop,resolve,hc,hy];simp only[Deferred.ofValue,cz,ej,cd,invoke];congr 2;apply gy.1;simp
    ·obtain⟨ins,outs,pre,F⟩:=S1;obtain⟨ins',outs',pre',F'⟩:=S;simp only at h1 h2;subst h1;subst h2;have:=hfn.calls z k3 σ.w St _ rs ps hSl hGl hsr hnd hrs (Xh.mono hS (fun _ _=>rfl) ⟨hp1,hp2⟩);have k4:F' (some (f,cs)) z=F z:=k4;simp only[SumF.at];rw[k4];exact this
   ·cases h
  ·cases h
theorem bHc{P:Program}{m:String}{T:TypeId}{f:FuncId}(h:aEh P m T f=true)(v:Value)(args:Array Value)(w:World):(callMethod (.iface T v) m args).run P w=(callFunc f (#[v]++args)).run P w:=by
 unfold aEh at h;split at h
 ·rename_i i fs e1 e2;split at h
  ·rename_i row e3;split at h
   ·rename_i g e4 e5;have hg:g=f:=av h;subst hg;have hm:(method (P.types.size+Made.depth) T v m).run P w=.ok (g,v) w:=by
     obtain⟨k,hk⟩:∃k,P.types.size+Made.depth=k+1:=⟨P.types.size+Made.depth-1,by unfold Made.depth;omega⟩
     rw[hk];have hti:(typeInfo T).run P w=.ok i w:=by simp[typeInfo,e1]
     simp only[method,cz,hti,cd,e3,e4,e5,follow,ej,receiverAt,Cz e2,Place.get]
    unfold callMethod;simp only[cz];have hp:(program:Sem Program).run P w=.ok P w:=rfl;rw[hp];simp only[cd,cz,hm]
   ·cases h
  ·cases h
 ·cases h
theorem bCd(hC:SumsOk C)(ho:Ok base S0 σ)(hr:RelT σ s a)(hx:BH a ctx)(hG:GlobsOk C.globs σ.w σ.S){c:Call}{q:Operand}{m:String}(hop:o.op=.call c)(hc:c.callee=.invoke q m)(h:At C s ctx o=some (.ok true x mem')):BQ C base S0 id σ a o x mem':=by
 unfold At at h;rw[hop]at h;simp only[hc]at h;split at h
 ·rename_i d args ef eargs;split at h
  ·rename_i S eS;split at h
   ·rename_i g x' m' ec;simp only[ap,Res.ok.injEq]at h;obtain⟨rfl,rfl,rfl⟩:=h;refine aDc ho hr hG (U5 hr hx eargs) ec fun z hz St rs hS hSl hGl hsr hnd hrs=>?_;obtain⟨T,ns,f,S1,rfl,hm,hms,h1,h2,k4,k5⟩:=hC.meths _ _ (aN4 eS) d z hz;obtain⟨hy,hbnd⟩:=BJ hr hx ef;have hy:a.eval q=.iface T (.agg (ns.map (mz .i64)).toArray):=by simpa using hy
    refine⟨f,(.agg (ns.map (mz .i64)).toArray::c.args.toList.map a.eval).toArray,?_,?_⟩
    ·simp only[execOp,hop,resolve,hc,hy];simp only[cz,ej,cd,invoke];have e:(#[Value.iface T (.agg (ns.map (mz .i64)).toArray)]++Array.map a.eval c.args)[0]? = some (.iface T (.agg (ns.map (mz .i64)).toArray)):=by rw[Array.getElem?_append_left (by simp)];rfl
     simp only[e];rw[bHc hm];congr 2;apply gy.1;simp only[Array.toList_append,Array.toList_extract,Array.toList_map,List.extract];simp[de]
    ·obtain⟨ins1,outs1,pre1,F1⟩:=S1;obtain⟨ins',outs',pre',F'⟩:=S;simp only at h1 h2;subst h1;subst h2;have:=(hms hbnd).calls z k4 σ.w St (c.args.toList.map a.eval) rs hSl hGl hsr hnd hrs;have k5:F' (some (T,ns)) z=F1 z:=k5;simp only[SumM.at];rw[k5];exact this
   ·cases h
  ·cases h
 ·cases h
theorem aOQ{σ:Sit}:∀{cs:List SC} {ns:List Int} {ys:List Value},iF cs=some ns->All2 (Aw σ) cs ys->ys=ns.map (mz .i64)/\∀n∈ns,IntKind.i64.min<=n/\n<=IntKind.i64.max
 | [],ns,_,h,.nil=>by simp[iF]at h;subst h;simp
 |c::cs,ns,_,h,.cons hc ht=>by
  unfold iF at h
  split at h
  ·rename_i e;cases e
  ·rename_i n r e
   cases e
   split at h
   ·rename_i l e2
    cases h
    obtain⟨k1,k2⟩:=aOQ e2 ht
    obtain⟨rfl,hb⟩:=hc
    refine⟨by rw[k1];rfl,fun z hz=>?_⟩
    rcases dq.1 hz with rfl|hz
    ·exact hb
    ·exact k2 z hz
   ·cases h
  ·cases h
theorem bCi(ho:Ok base S0 σ)(hr:RelT σ s a)(hx:BH a ctx){T:TypeId}{y:Operand}(hop:o.op=.makeInterface T y)(h:At C s ctx o=some (.ok true x mem')):BQ C base S0 id σ a o x mem':=by
 unfold At at h;rw[hop]at h;simp only at h;split at h
 ·rename_i cs fs ey hT;split at h
  ·rename_i ns en;simp only[ap,Res.ok.injEq,true_and]at h;obtain⟨rfl,rfl⟩:=h;obtain⟨ys,e,ha⟩:=G7 hr hx ey;obtain⟨k1,k2⟩:=aOQ en ha;subst k1;refine AY (σ':=σ) (v:=.iface T (.agg (ns.map (mz .i64)).toArray)) ?_ ho (Goes.refl σ).moves hr.mem ⟨rfl,k2⟩;simp only[execOp,hop,e];refine BO ?_;unfold Instr.makeInterface;simp only[cz,Cz hT,cd,ej]
  ·cases h
 ·cases h
theorem JX(hC:SumsOk C)(ho:Ok base S0 σ)(hr:RelT σ s a)(hx:BH a ctx)(hG:GlobsOk C.globs σ.w σ.S)(hna:∀c,o.op=.call c->c.callee=.builtin .append->∃T Ts,c.argTypes.toList=T::Ts/\HT C T=true)(h:At C s ctx o=some (.ok true x mem')):BQ C base S0 id σ a o x mem':=by
 cases hop:o.op with
 |move y=>exact aP3 ho hr hx (.inl hop) h
 |assign y=>exact aP3 ho hr hx (.inr hop) h
 |pick c A B=>exact bCo ho hr hx hop h
 |alloc T=>exact bBX ho hr hop h
 |box T y=>exact bB0 ho hr hx hop h
 |build T ps=>exact bB1 ho hr hx hop h
 |buildSlice T n ps=>exact bB2 ho hr hx hop h
 |range T y=>exact bCp ho hr hx hop h
 |next y st=>exact bCm ho hr hx hop h
 |load T y=>exact bCg ho hr hx hop h
 |store T y z=>exact bCs ho hr hx hop h
 |nilCheck y=>exact bCn ho hr hx hop h
 |binOp op T y z T'=>exact bBZ ho hr hx hop h
 |unOp op T y=>exact bCw ho hr hx hop h
 |convert T T' y=>exact bB4 ho hr hx hop h
 |makeSlice T l c=>exact bCj ho hr hx hop h
 |slice T y lo hi mx=>
  cases hs:PU C s ctx T y lo hi mx with
  |some p=>exact bCt ho hr hx hop (g:=p.1) (c:=p.2) hs h
  |none=>
   cases ht:Vq C s ctx y lo mx with
   |none=>exact bCr ho hr hx hop hs ht h
   |some b=>exact bCv ho hr hx hop hs ht h
 |fieldAddr T y i=>exact bB8 ho hr hx hop h
 |field T y i=>exact bB7 ho hr hx hop h
 |indexAddr T y z=>exact bCc ho hr hx (bAU hG) hop h
 |index T y z=>exact bCb ho hr hx hop h
 |extract y i=>exact bB6 ho hr hx hop h
 |makeFunc fn first captured=>exact bCh ho hr hx hop h
 |makeInterface T y=>exact bCi ho hr hx hop h
 |call c=>
  cases hc:c.callee with
  |value fo=>
   cases ef:Bj s ctx fo with
   |none=>unfold At at h;rw[hop]at h;simp only[hc,ef]at h;cases h
   |some c0=>
    by_cases hv:∃v,c0=.fnv v
    ·obtain⟨v,rfl⟩:=hv;exact bB9 hC ho hr hx hG hop hc ef h
    ·exact bCu hC ho hr hx hG hop hc (fun v e=>hv ⟨v,ky (ef.symm.trans e)⟩) h
  |invoke r m=>exact bCd hC ho hr hx hG hop hc h
  |builtin b=>
   cases b with
   |len=>exact bCe ho hr hx hop hc h
   |min=>exact bCl ho hr hx hop hc h
   |max=>exact bCk ho hr hx hop hc h
   |complex=>exact bB3 ho hr hx hop hc h
   |real=>exact bCq ho hr hx hop hc h
   |imag=>exact bCa ho hr hx hop hc h
   |append=>
    obtain⟨T,Ts,e1,e2⟩:=hna c hop hc;unfold At at h;rw[hop]at h;simp only[hc,e1,e2,aa]at h;exact(aP2 ho hr hx hop hc h).1
   |copy=>exact bB5 ho hr hx hop hc h
   |_=>unfold At at h;rw[hop]at h;simp only[hc]at h;cases h
 |_=>unfold At at h;rw[hop]at h;simp only at h;cases h
end Vx
namespace Vx
open Go Go.RowKit
structure Adv (σ σ':Sit):Prop where
 stab:∀r,σ.S r->σ'.S r
 heap:∀r,σ.S r->σ'.w.heap[r]? = σ.w.heap[r]?
 rep:∀c y,Aw σ c y->Aw σ' (JI σ.mem c) y
 len:σ.mem.length<=σ'.mem.length
 noacc:∀b,b<σ.mem.length->HQ (Ac σ'.mem b)->HQ (Ac σ.mem b)
theorem Wn{mem:Ae}{b:Nat}:JI mem (.own b)=.undef/\HQ (Ac mem b)∨JI mem (.own b)=.own b/\¬HQ (Ac mem b):=by
 simp only[JI];cases Ac mem b with
 |acc _ _=>exact .inl ⟨rfl,ak⟩
 |_=>exact .inr ⟨rfl,fun h=>h⟩
theorem aNM{mem:Ae}{c:SC}(h:∀b,c≠.own b):JI mem c=c:=by
 cases c with
 |own b=>exact absurd rfl (h b)
 |_=>rfl
theorem Adv.refl(σ:Sit):Adv σ σ:=by
 refine⟨fun _ h=>h,fun _ _=>rfl,fun c y h=>?_,ci _,fun _ _ h=>h⟩;cases c with
 |own b=>
  rcases Wn (mem:=σ.mem) (b:=b)with⟨e,_⟩|⟨e,_⟩
  ·rw[e];exact h.2.1
  ·rw[e];exact h
 |_=>exact h
theorem Adv.trans{σ σ' σ'':Sit}(h:Adv σ σ')(h':Adv σ' σ''):Adv σ σ'':=by
 refine⟨fun r hr=>h'.stab r (h.stab r hr),fun r hr=>(h'.heap r (h.stab r hr)).trans (h.heap r hr),fun c y hc=>?_,gb h.len h'.len,fun b hb ha=>h.noacc b hb (h'.noacc b (az hb h.len) ha)⟩;have h1:=h.rep c y hc;have h2:=h'.rep _ y h1;by_cases hown:∃b,c=.own b
 ·obtain⟨b,rfl⟩:=hown;rcases Wn (mem:=σ.mem) (b:=b)with⟨e,_⟩|⟨e,hn⟩
  ·rw[e];exact hc.2.1
  ·rw[e]at h2⊢;rcases Wn (mem:=σ'.mem) (b:=b)with⟨e',ha⟩|⟨e',_⟩
   ·exact absurd (h.noacc b hc.1 ha) hn
   ·rw[e']at h2;exact h2
 ·have hne:∀b,c≠.own b:=fun b e=>hown ⟨b,e⟩;rw[aNM hne]at h2⊢;rw[aNM hne]at h2;exact h2
theorem Moves.adv_id{σ σ':Sit}(h:Moves id σ σ'):Adv σ σ':=by
 refine⟨h.stab,h.heap,fun c y hc=>?_,h.len,h.noacc⟩;have h1:=h.rep c y hc;cases c with
 |own b=>
  rcases Wn (mem:=σ.mem) (b:=b)with⟨e,_⟩|⟨e,_⟩
  ·rw[e];exact hc.2.1
  ·rw[e];exact h1
 |_=>exact h1
theorem Moves.adv_own{σ σ':Sit}{b:Nat}(h:Moves (DQ b) σ σ')(hb:HQ (Ac σ'.mem b)):Adv σ σ':=by
 refine⟨h.stab,h.heap,fun c y hc=>?_,h.len,h.noacc⟩;have h1:=h.rep c y hc;cases c with
 |own b' =>
  rcases Wn (mem:=σ.mem) (b:=b')with⟨e,_⟩|⟨e,hn⟩
  ·rw[e];exact hc.2.1
  ·rw[e];simp only[DQ]at h1;cases hbb:Nat.beq b b' with
   |true=>
    have:b=b':=av hbb;subst this;exact absurd (h.noacc b hc.1 hb) hn
   |false=>rw[hbb]at h1;exact h1
 |_=>exact h1
theorem Goes.adv{σ σ':Sit}(h:Goes σ σ'):Adv σ σ':=h.moves.adv_id
theorem BB.drop{σ σ':Sit}{f:SC->SC}(hm:∀c y,Aw σ c y->Aw σ' (f c) y){fT:TV->TV}(hf:∀x,fT x=match x with
  |.un=>.un
  |.val (.one c)=>.val (.one (f c))
  |.val (.agg cs)=>.val (.agg (cs.map f))
  |.tup l=>.tup (l.map fun v=>match v with|.one c=>.one (f c)|.agg cs=>.agg (cs.map f))
  |.nxt c i r=>.nxt c i r) {x:TV} {y:Value} (h:BB σ x y):BB σ' (fT x) y:=by
 rw[hf]
 have hv:∀v y,Bv σ v y->Bv σ' (match v with|.one c=>.one (f c)|.agg cs=>.agg (cs.map f)) y:=fun v y hv=>by
  cases v with
  |one c=>exact hm c y hv
  |agg cs=>obtain⟨ys,e,ha⟩:=hv;exact⟨ys,e,ha.mapL f hm⟩
 cases x with
 |un=>trivial
 |val v=>cases v with
  |one c=>exact hv (.one c) y h
  |agg cs=>exact hv (.agg cs) y h
 |tup l=>
  obtain⟨h1,ys,e,ha⟩:=h
  exact⟨by simpa using h1,ys,e,ha.mapL _ hv⟩
 |nxt c i r=>exact h
theorem BB.keep{σ σ':Sit}(hm:∀c y,Aw σ c y->Aw σ' (id c) y){x:TV}{y:Value}(h:BB σ x y):BB σ' x y:=by
 have hv:∀v y,Bv σ v y->Bv σ' v y:=fun v y hv=>by
  cases v with
  |one c=>exact hm c y hv
  |agg cs=>obtain⟨ys,e,ha⟩:=hv;exact⟨ys,e,ha.mono hm⟩
 cases x with
 |un=>trivial
 |val v=>exact hv v y h
 |tup l=>
  obtain⟨h1,ys,e,ha⟩:=h;exact⟨h1,ys,e,ha.mono hv⟩
 |nxt c i r=>exact h
theorem aZ6(b:Nat)(x:TV):Wo b x=match x with
  |.un=>.un
  |.val (.one c)=>.val (.one (DQ b c))
  |.val (.agg cs)=>.val (.agg (cs.map (DQ b)))
  |.tup l=>.tup (l.map fun v=>match v with|.one c=>.one (DQ b c)|.agg cs=>.agg (cs.map (DQ b)))
  |.nxt c i r=>.nxt c i r:=by
 cases x with
 |un=>rfl
 |val v=>cases v<;>rfl
 |tup l=>simp only[Wo];congr 1
 |nxt c i r=>rfl
theorem aNK(m:Ae)(x:TV):Wm m x=match x with
  |.un=>.un
  |.val (.one c)=>.val (.one (JI m c))
  |.val (.agg cs)=>.val (.agg (cs.map (JI m)))
  |.tup l=>.tup (l.map fun v=>match v with|.one c=>.one (JI m c)|.agg cs=>.agg (cs.map (JI m)))
  |.nxt c i r=>.nxt c i r:=by
 cases x with
 |un=>rfl
 |val v=>cases v<;>rfl
 |tup l=>simp only[Wm];congr 1
 |nxt c i r=>rfl
theorem aDT{g:TV->TV}(hg:g .un=.un):∀(tm:List (Nat×TV)) (t:Nat),Bt (tm.map fun p=>(p.1,g p.2)) t=g (Bt tm t)
 | [],t=>by simp[Bt,hg]
 |(n,x)::r,t=>by
  simp only[gg,Bt]
  cases Nat.beq n t with
  |true=>rfl
  |false=>exact aDT hg r t
theorem PE{a:Act}{d:Nat}{v:Value}(hd:d<a.tmps.size)(t:Nat):(a.put (some d) v).tmps.getD t undef=if t=d then v else a.tmps.getD t undef:=by
 simp only[Act.put];rw[fi,fi];by_cases h:t=d
 ·subst h;rw[Array.getElem?_setIfInBounds_self_of_lt hd];simp
 ·rw[Array.getElem?_setIfInBounds_ne (fun e=>h e.symm),ag h]
theorem aEq:∀{cs:List (Nat×Nat×Bool×TV)} {d:Nat},Gf d cs=true->∀e g p x,(e,g,p,x)∈cs->e≠d/\g≠d
 | [],_,_,_,_,_,_,h=>by simp at h
 |(e',g',p',x')::r,d,h,e,g,p,x,hm=>by
  simp only[Gf,ar,ff]at h
  rcases dq.1 hm with h' | h'
  ·cases h'
   refine⟨fun e=>?_,fun e=>?_⟩
   ·subst e;simp[fg]at h
   ·subst e;simp[fg]at h
  ·exact aEq h.2 e g p x h'
variable {C:Cfg}{base:Base}{S0:Nat->Prop}{σ:Sit}{s s':St}{a:Act}{o:Oper}
theorem vM{σ':Sit}{fT:TV->TV}(hun:fT .un=.un)(hm:∀x y,BB σ x y->BB σ' (fT x) y)(hr:RelT σ s a){x:TV}{v:Value}(hv:BB σ' x v){mem:Ae}(hmem:σ'.mem=mem)
  (h:Vf {s with tm:=s.tm.map fun p=>(p.1,fT p.2),cs:=s.cs.map fun p=>(p.1,p.2.1,p.2.2.1,fT p.2.2.2)} o x mem=some s'):RelT σ' s' (a.put o.dst v):=by
 unfold Vf at h;cases hd:o.dst with
 |none=>
  rw[hd]at h;simp only[ap]at h;subst h;refine⟨hr.size,hr.defers,hmem,fun t=>?_,fun d g p y hmm=>?_⟩
  ·simp only[aDT hun];exact hm _ _ (hr.tm t)
  ·obtain⟨q,hq,he⟩:=ly.1 hmm;cases he;have:=hr.cs _ _ _ _ hq;exact⟨fun h=>hm _ _ (this.1 h),this.2⟩
 |some d=>
  rw[hd]at h;simp only at h;cases hb:(Gf d (s.cs.map fun p=>(p.1,p.2.1,p.2.2.1,fT p.2.2.2))&&Nat.blt d s.n)with
  |false=>rw[hb]at h;cases h
  |true=>
   rw[hb]at h;simp only[ar]at hb;simp only[aa,ap]at h;subst h;have hdl:d<a.tmps.size:=by rw[hr.size];simpa using hb.2
   refine⟨by simp[Act.put,hr.size],hr.defers,hmem,fun t=>?_,fun e g p y hmm=>?_⟩
   ·rw[PE hdl];simp only[Bt];by_cases h:t=d
    ·subst h;rw[ah rfl,fg];exact hv
    ·rw[ag h];have:Nat.beq d t=false:=by
      cases hq:Nat.beq d t with
      |false=>rfl
      |true=>exact absurd (av hq).symm h
     rw[this,ab,aDT hun];exact hm _ _ (hr.tm t)
   ·obtain⟨h1,h2⟩:=aEq hb.1 e g p y hmm;rw[PE hdl,PE hdl,ag h1,ag h2];obtain⟨q,hq,he⟩:=ly.1 hmm;cases he;have:=hr.cs _ _ _ _ hq;exact⟨fun h=>hm _ _ (this.1 h),this.2⟩
theorem aAf{ops:Array Oper}{gi:Nat}{p:Bool}{t:Nat}(hg:o.guard=some (gi,p))(ht:Fh ops.toList gi=some t):ig o (yielded ops a.tmps)=true↔a.tmps.getD t undef=.bool p:=by
 unfold ig;rw[hg];simp only[beq_iff_eq];unfold yielded;have hd:(ops[gi]?).bind (·.dst)=some t:=by
  unfold Fh at ht;split at ht
  ·rename_i o' e;have:ops[gi]? = some o':=by simpa using e
   rw[this];exact ht
  ·cases ht
 rw[hd];simp only[Option.bind_some];rw[fi];cases e:a.tmps[t]? with
 |none=>simp[undef]
 |some v=>cases v<;>simp
theorem aZt{bor:Bool}{mem m':Ae}{S:Sum}{args:List SV}{g:Bool}{x:TV}(h:Ey bor mem S args=some (g,x,m')):(bor=true/\Fw mem S args=some (g,x,m'))∨EE mem S args=some (g,x,m'):=by
 unfold Ey at h;split at h
 ·rename_i r e;cases h;cases bor with
  |true=>exact .inl ⟨rfl,e⟩
  |false=>cases e
 ·exact .inr h
theorem aDb(ho:Ok base S0 σ)(hm:σ.mem=s.mem){S:Sum}{args:List SV}{g:Bool}{x:TV}{mem:Ae}(h:EE s.mem S args=some (g,x,mem))(hst:Nat.beq mem.length s.mem.length=true):
  ∃σ1:Sit,σ1.mem=mem/\σ1.w=σ.w/\Ok base S0 σ1/\Goes σ σ1:=by
 unfold EE at h;cases hf:BK s.mem S.ins args with
 |mk args' m1=>
  rw[hf]at h;simp only at h;have hlen:=bAz hf;rw[←hm]at hf;obtain⟨σ1,a1,a2,a3,a4,a5,a6⟩:=Ww ho hf;split at h
  ·rename_i zm ez;obtain⟨z,m2⟩:=zm;simp only at h;split at h
   ·rename_i vs m3 ev;simp only[ap,cr]at h;obtain⟨_,_,rfl⟩:=h;rw[←a1]at ez;obtain⟨σ2,b1,b2,b3,b4,b5⟩:=aSN a4 ez;have hst:=av hst;have:=aDV ev (by rw[hst,b5,a1,hlen]);exact⟨σ2,by rw[b1,this],b2.trans a2,b3,a5.trans b4⟩
   ·cases h
  ·cases h
theorem aZu(ho:Ok base S0 σ)(hm:σ.mem=s.mem){bor:Bool}{S:Sum}{args:List SV}{g:Bool}{x:TV}{mem:Ae}(h:Ey bor s.mem S args=some (g,x,mem))(hst:Nat.beq mem.length s.mem.length=true):
  ∃σ1:Sit,σ1.mem=mem/\σ1.w=σ.w/\Ok base S0 σ1/\Goes σ σ1:=by
 rcases aZt h with⟨_,h⟩|h
 ·exact⟨σ,by rw[tL h,hm],rfl,ho,Goes.refl σ⟩
 ·exact aDb ho hm h hst
theorem bA5{ctx:List (Nat×Bool)}(ho:Ok base S0 σ)(hm:σ.mem=s.mem){g:Bool}{x:TV}{mem:Ae}(hgd:o.guard≠none)(hl:Gb o.op=true)(hst:Dt o.op s.mem mem=true)(h:At C s ctx o=some (.ok g x mem)):
  ∃σ1:Sit,σ1.mem=mem/\σ1.w=σ.w/\Ok base S0 σ1/\Goes σ σ1:=by
 have same:mem=s.mem->∃σ1:Sit,σ1.mem=mem/\σ1.w=σ.w/\Ok base S0 σ1/\Goes σ σ1:=fun e=>⟨σ,hm.trans e.symm,rfl,ho,Goes.refl σ⟩
 unfold At at h;cases hop:o.op with
 |alloc T=>rw[hop]at hl;cases hl
 |box T y=>rw[hop]at hl;cases hl
 |store T y z=>rw[hop]at hl;cases hl
 |makeSlice T l c=>rw[hop]at hl;cases hl
 |buildSlice T n ps=>
  rw[hop]at h;simp only at h;split at h
  ·split at h
   ·rename_i z pl eτ hz hps;cases hn0:(Nat.beq n 0&&pl.isEmpty)with
    |true=>
     rw[hn0]at h;simp only[aa]at h;have:=BC h;unfold Dt at hst;rw[hop,this]at hst;have hst:=av hst;simp at hst
    |false=>
    rw[hn0]at h;simp only[ab]at h;split at h
    ·rename_i cs ecs;cases hf:Fg s.mem cs with
     |mk cs' m1=>
      rw[hf]at h;simp only at h;split at h
      ·rw[←hm]at hf;obtain⟨σ1,a1,a2,a3,a4,a5,a6⟩:=gO ho hf;have h:=(AK h).2;cases hA:HT C T with
       |true=>
        rw[hA]at h;simp only[aa]at h;exfalso;have:=BC h;unfold Dt at hst;rw[hop,this]at hst;have hst:=av hst;have hl:=a5.len;rw[a1,hm]at hl;simp at hst;omega
       |false=>
       rw[hA]at h;simp only[ab]at h;have:=BC h;exact⟨σ1,a1.trans this.symm,a2,a4,a5⟩
      ·cases h
    ·cases h
   ·cases h
  ·cases h
 |slice T y lo hi mx=>
  rw[hop]at h;simp only at h;cases hsb:PU C s ctx T y lo hi mx with
  |some p=>rw[hsb]at h;exact same (BC h)
  |none=>
  rw[hsb]at h;simp only at h;cases htr:Vq C s ctx y lo mx with
  |some b=>
   exfalso;rw[htr]at h;simp only at h;(repeat' split at h)<;>first|(cases h;done)|skip
   have:=BC h;unfold Dt at hst;rw[hop,this]at hst;have hst:=av hst;simp at hst
  |none=>
  rw[htr]at h;simp only at h;split at h
  ·rename_i c hT ec;split at h
   ·cases hf:Do s.mem c with
    |mk c' m1=>
     rw[hf]at h;simp only at h;rw[←hm]at hf;obtain⟨σ1,a1,a2,a3,a4,a5,a6⟩:=Va ho hf;split at h
     ·split at h
      ·exact⟨σ1,a1.trans (BC h).symm,a2,a4,a5⟩
      ·cases h
     ·cases h
   ·cases h
  ·cases h
 |indexAddr T y z=>
  rw[hop]at h;simp only at h;split at h
  ·split at h
   ·exact same (BC (AK (Ej h)).2)
   ·cases h
  ·split at h
   ·exact same (BC (Ej h))
   ·cases h
  ·split at h
   ·split at h
    ·split at h
     ·exact same (BC (Ej h))
     ·rename_i eb;have:=BC (Ej h);rw[←hm]at eb this;obtain⟨σ1,a1,a2,a3,a4,a5⟩:=uD ho (.inr eb);exact⟨σ1,a1.trans this.symm,a2,a4,a5⟩
     ·exact same (BC (Ej h))
     ·cases h
    ·exact same (BC (Ej h))
    ·split at h
     ·exact same (BC (Ej h))
     ·cases h
    ·cases h
   ·cases h
  ·cases h
 |call c=>
  rw[hop]at h hl;simp only at h;cases hc:c.callee with
  |value fo=>
   have hlen:Nat.beq mem.length s.mem.length=true:=by unfold Dt at hst;rw[hop]at hst;simpa only[hc]using hst
   simp only[hc]at h;split at h
   ·rename_i f caps args ef eargs;split at h
    ·rename_i L eL;exfalso;split at eL
     ·rename_i e;exact hgd e
     ·cases eL
    split at h
    ·split at h
     ·rename_i ec;rw[←BC h]at ec;exact aZu ho hm ec hlen
     ·cases h
    ·have h2:=(AK h).2;cases h2
   ·split at h
    ·split at h
     ·rename_i ec;rw[←BC h]at ec;exact aDb ho hm ec hlen
     ·cases h
    ·cases h
   ·cases h
  |invoke r m=>
   have hlen:Nat.beq mem.length s.mem.length=true:=by unfold Dt at hst;rw[hop]at hst;simpa only[hc]using hst
   simp only[hc]at h;split at h
   ·split at h
    ·split at h
     ·rename_i ec;rw[←BC h]at ec;exact aDb ho hm ec hlen
     ·cases h
    ·cases h
   ·cases h
  |builtin b=>
   simp only[Gb,hc]at hl;simp only[hc]at h;cases b<;>simp only at h hl<;>first|(cases hl;done)|(cases h;done)|(repeat' split at h)<;>first|(cases h;done)|exact same (BC h)|exact same (BC (AK h).2)|exact same (BC (Ej h))
 |range T y=>rw[hop]at hl;simp[Gb]at hl
 |next y st=>rw[hop]at hl;simp[Gb]at hl
 |_=>
  rw[hop]at h;simp only at h;(repeat' split at h)<;>first|(cases h;done)|exact same (BC h)|exact same (BC (AK h).2)|exact same (BC (Ej h))|(have h2:=(AK h).2;cases h2)
theorem vN{σ':Sit}(hr:RelT σ s a){d t:Nat}{p:Bool}{x:TV}{v:Value}{mem:Ae}(hdl:d<a.tmps.size)(hdt:t≠d)(hnt:Gf d s.cs=true)(hm:∀x y,BB σ x y->BB σ' x y)(hmem:σ'.mem=mem)
  (h1:a.tmps.getD t undef=.bool p->BB σ' x v) (h2:a.tmps.getD t undef≠.bool p->v=undef):RelT σ' (ZZ s d t p x mem) (a.put (some d) v):=by
 refine⟨by simp[Act.put,hr.size,ZZ],hr.defers,hmem,fun q=>?_,fun e g' p' y hmm=>?_⟩
 ·rw[PE hdl];simp only[ZZ,Bt];by_cases h:q=d
  ·subst h;rw[fg];trivial
  ·rw[ag h];have:Nat.beq d q=false:=by
    cases hq:Nat.beq d q with
    |false=>rfl
    |true=>exact absurd (av hq).symm h
   rw[this,ab];exact hm _ _ (hr.tm q)
 ·rcases dq.1 hmm with h|h
  ·cases h;rw[PE hdl,PE hdl,ag hdt,ah rfl];exact⟨h1,h2⟩
  ·obtain⟨n1,n2⟩:=aEq hnt e g' p' y h;rw[PE hdl,PE hdl,ag n1,ag n2];have:=hr.cs _ _ _ _ h;exact⟨fun h=>hm _ _ (this.1 h),this.2⟩
theorem bIs(hC:SumsOk C)(ho:Ok base S0 σ)(hr:RelT σ s a)(hG:GlobsOk C.globs σ.w σ.S){ops:Array Oper}(h:step C ops.toList o s=some (.ok true s')){K:Act->World->Prop}{Q:Exit->Act->World->Prop}
  (hK:∀a' σ',Ok base S0 σ'->Adv σ σ'->RelT σ' s' a'->K a' σ'.w) :
  if ig o (yielded ops a.tmps)then o.wp C.P a σ.w K Q else K (a.put o.dst undef) σ.w:=by
 unfold step at h;cases hg:o.guard with
 |none=>
  rw[hg]at h;simp only at h;rw[ah (by simp[ig,hg])];split at h
  ·rename_i g x mem hp;have hgt:g=true:=by
    cases hq:Z7 o x s mem with
    |mk s1 m1=>
     rw[hq]at h;simp only at h;split at h
     ·cases h;rfl
     ·cases h
   subst hgt;by_cases happ:∃c T Ts,o.op=.call c/\c.callee=.builtin .append/\c.argTypes.toList=T::Ts/\HT C T=false
   ·obtain⟨c,T,Ts,hop,hc,eT,hT⟩:=happ;have hp':Yf C s [] c=some (.ok true x mem):=by
     unfold At at hp;rw[hop]at hp;simpa only[hc,eT,hT,ab]using hp
    obtain⟨b,rfl,⟨τ,xs,eb⟩,hac,hgood⟩:=bBY ho hr (fun _ _ h=>by simp at h) hop hc hp';have hput:Vf {s with tm:=s.tm.map fun p=>(p.1,Wo b p.2),cs:=s.cs.map fun p=>(p.1,p.2.1,p.2.2.1,Wo b p.2.2.2)} o (.val (.one (.own b))) (mem.map (D6 b))=some s':=by
     simp only[Z7,hop,hc,eb]at h;split at h
     ·rename_i s'' e;cases h;exact e
     ·cases h
    refine hgood K Q fun v σ' k1 k2 k3 k4=>?_;have hacc:HQ (Ac σ'.mem b):=by rw[k3];exact hac
    exact hK _ σ' k1 (k2.adv_own hacc) (vM (fT:=Wo b) rfl (fun x y hxy=>BB.drop k2.rep (aZ6 b) hxy) hr k4 k3 hput)
   ·have hna:∀c,o.op=.call c->c.callee=.builtin .append->∃T Ts,c.argTypes.toList=T::Ts/\HT C T=true:=fun c hop hc=>by
     cases eT:c.argTypes.toList with
     |nil=>
      exfalso;unfold At at hp;rw[hop]at hp;simp only[hc,eT]at hp;cases hp
     |cons T Ts=>
      cases hT:HT C T with
      |true=>exact⟨T,Ts,rfl,hT⟩
      |false=>exact absurd ⟨c,T,Ts,hop,hc,eT,hT⟩ happ
    have hstrip:Z7 o x s mem=(s,mem):=by
     unfold Z7;split
     ·rename_i c hop;split
      ·rename_i hc;obtain⟨T,Ts,eT,hT⟩:=hna c hop hc;have hp':Yg C s [] c=some (.ok true x mem):=by
        unfold At at hp;rw[hop]at hp;simpa only[hc,eT,hT,aa]using hp
       obtain⟨_,b,τ,xs,rfl,eb⟩:=aP2 ho hr (fun _ _ h=>by simp at h) hop hc hp';simp only[eb]
      ·rfl
     ·rfl
    rw[hstrip]at h;simp only at h;split at h
    ·rename_i s'' e;cases h;refine JX hC ho hr (fun _ _ h=>by simp at h) hG hna hp K Q fun v σ' k1 k2 k3 k4=>?_;refine hK _ σ' k1 k2.adv_id (vM (fT:=id) rfl (fun x y hxy=>?_) hr k4 k3 ?_)
     ·exact BB.keep k2.rep hxy
     ·simpa using e
    ·cases h
  ·cases h
  ·cases h
 |some gp=>
  obtain⟨gi,p⟩:=gp;rw[hg]at h;simp only at h;split at h
  ·rename_i t d ht hd;cases hb:(Gb o.op&&Gf d s.cs&&!(Nat.beq d t)&&Nat.blt d s.n)with
   |false=>rw[hb]at h;cases h
   |true=>
    rw[hb]at h;simp only[ar,ff]at hb;simp only[aa]at h;split at h
    ·rename_i c g x mem hcv hp;obtain⟨hst,h⟩:=AK h;simp only[ap,Step.ok.injEq,fh,ff]at h;obtain⟨hgc,rfl⟩:=h;have hdl:d<a.tmps.size:=by rw[hr.size];simpa using hb.2
     have hdt:t≠d:=fun e=>by subst e;simp[fg]at hb
     have hciff:=Yp hr.tm hr.cs hcv;have hwiff:=aAf (a:=a) hg ht;have hcs:∀{σ':Sit} {v:Value},(∀x y,BB σ x y->BB σ' x y)->σ'.mem=mem->(a.tmps.getD t undef=.bool p->BB σ' x v)->(a.tmps.getD t undef≠.bool p->v=undef) ->
       RelT σ' {s with tm:=(d,.un)::s.tm,cs:=(d,t,p,x)::s.cs,mem:=mem} (a.put o.dst v):=fun {σ' v} hm hmem h1 h2=>by
      rw[hd];exact vN hr hdl hdt hb.1.1.2 hm hmem h1 h2
     by_cases hw:ig o (yielded ops a.tmps)=true
     ·rw[ah hw];have htrue:=hwiff.1 hw;have hc1:c=true:=hciff.2 htrue;have hg1:g=true:=by
       rcases hgc with h|h
       ·exact h
       ·rw[hc1]at h;cases h
      subst hg1;have happ:∀c,o.op=.call c->c.callee≠.builtin .append:=fun c hop hc=>by
       have:=hb.1.1.1;unfold Gb at this;rw[hop]at this;simp only[hc]at this;cases this
      refine JX hC ho hr (Wk hr.cs htrue) hG (fun c h1 h2=>absurd h2 (happ c h1)) hp K Q fun v σ' k1 k2 k3 k4=>?_;exact hK _ σ' k1 k2.adv_id (hcs (fun x y hxy=>BB.keep k2.rep hxy) k3 (fun _=>k4) (fun hn=>absurd htrue hn))
     ·rw[ag hw];have hfalse:a.tmps.getD t undef≠.bool p:=fun e=>hw (hwiff.2 e);obtain⟨σ1,b1,b2,b3,b4⟩:=bA5 ho hr.mem (by rw[hg];simp) hb.1.1.1 hst hp;have:=hK (a.put o.dst undef) σ1 b3 b4.adv (hcs (fun x y hxy=>b4.repT hxy) b1 (fun e=>absurd e hfalse) (fun _=>rfl));rw[b2]at this;exact this
    ·cases h
    ·cases h
  ·cases h
end Vx
namespace Vx
open Go Go.RowKit
variable {C:Cfg}{base:Base}{S0:Nat->Prop}{σ σ0:Sit}{s s':St}{a:Act}{R:Type}{r:R}
structure ProgOk (C:Cfg):Prop where
 sums:SumsOk C
 mixed:C.P.follows .mixedOrders=true
def Xm(C:Cfg)(inl:FuncId->List SV->Ae->(List SV->Ae->Option R)->Option R):Prop:=
 ∀f args mem k r,inl f args mem k=some r->∀base S0 (σ:Sit) ys,Ok base S0 σ->σ.mem=mem->GlobsOk C.globs σ.w σ.S->All2 (Bv σ) args ys ->
  (∃ fn, C.P.funcs[f]? = some fn /\ fn.body.isNone = false /\ (fn.name == "runtime.NumGoroutine") = false) /\
  Calls C.P f ys.toArray σ.w fun e w'=>∃(σ':Sit) (rs:List SV) (zs:List Value),e=.returned (DH zs)/\σ'.w=w'/\Ok base S0 σ'/\Adv σ σ'/\All2 (Bv σ') rs zs/\k rs σ'.mem=some r
theorem GlobsOk.adv{G:List (Nat×Sigma fun τ=>List (Ab τ))}{σ σ':Sit}(h:GlobsOk G σ.w σ.S)(ha:Adv σ σ'):GlobsOk G σ'.w σ'.S:=h.mono ha.stab ha.heap
def HE(base:Base)(S0:Nat->Prop)(σ0:Sit)(r:R)(kn:St->Option R)(ke:Nat->St->Option R)(kr:St->Option R)(e:Exit)(a':Act)(w':World):Prop:=
 ∃(σ':Sit) (s':St),σ'.w=w'/\Ok base S0 σ'/\Adv σ0 σ'/\RelT σ' s' a'/\s'.m0=σ0.mem.length/\(match e with
  |.normal=>kn s'=some r
  |.exit id=>ke id s'=some r
  |.ret=>kr s'=some r
  |_=>False)
theorem bIr{ops:List Oper}{o:Oper}{g:Bool}(h:step C ops o s=some (.ok g s')):s'.m0=s.m0:=by
 unfold step at h;have hput:∀{s1 s2:St} {x:TV} {mem:Ae},Vf s1 o x mem=some s2->s2.m0=s1.m0:=fun {s1 s2 x mem} h=>by
  unfold Vf at h;split at h
  ·cases h;rfl
  ·have h2:=(AK h).2;cases h2;rfl
 split at h
 ·split at h
  ·split at h;rename_i s1 m1 e;split at h
   ·rename_i s2 e2;cases h;rw[hput e2];unfold Z7 at e;split at e
    ·split at e
     ·(repeat' split at e)<;>(cases e;rfl)
     ·cases e;rfl
    ·cases e;rfl
   ·cases h
  ·cases h
  ·cases h
 ·split at h
  ·have h:=(AK h).2;split at h
   ·have h:=(AK h).2;cases h;rfl
   ·cases h
   ·cases h
  ·cases h
theorem aCN{c g:Bool}{x:TV}{mem:Ae}{o:Option Res}{f:FuncId}{args:List SV}(h:(bif c then some (.ok g x mem)else o)=some (.inl f args)):o=some (.inl f args):=by
 cases c with
 |true=>cases h
 |false=>exact h
theorem RelT.clear(hr:RelT σ s a):RelT σ {s with cs:=[] } a:=⟨hr.size,hr.defers,hr.mem,hr.tm,fun _ _ _ _ h=>by simp at h⟩
theorem aL7{mem:Ae}:∀{l:List (Nat×Nat)},fG mem l=true->∀p∈l,∃cs,Ac mem p.1=.raw cs
 | [],_,p,hp=>by simp at hp
 |(b,off)::r,h,p,hp=>by
  simp only[fG]at h
  split at h
  ·rename_i cs e
   rcases dq.1 hp with rfl|hp
   ·exact⟨cs,e⟩
   ·exact aL7 h p hp
  ·cases h
theorem aNg{σ:Sit}:∀{caps:List (Nat×Nat)} {rs:List Nat},(∀p∈caps,p.1<σ.mem.length)->(∀p∈caps,∃cs,Ac σ.mem p.1=.raw cs)->caps.map (fun p=>σ.E.β p.1)=rs.map some ->
  All2 (Bv σ) (caps.map fun p=>SV.one (.ptr p.1 p.2)) ((caps.zip rs).map fun q=>jp (some ⟨q.2,q.1.2,none⟩))
 | [],_,_,_,_=>by simp;exact .nil
 |p::caps,[],_,_,h=>by simp at h
 |p::caps,q::rs,h1,h2,h=>by
  simp only[gg,List.cons.injEq]at h
  obtain⟨cs,e⟩:=h2 p (by simp)
  refine .cons ⟨h1 p (by simp),⟨_,rfl⟩,?_⟩ (aNg (fun p hp=>h1 p (by simp[hp])) (fun p hp=>h2 p (by simp[hp])) h.2)
  rw[e]
  exact⟨q,h.1,rfl⟩
theorem aYp{b:Bool}{c:Call}{ctx:List (Nat×Bool)}{f:FuncId}{args:List SV}(h:(bif b then Yg C s ctx c else Yf C s ctx c)=some (.inl f args)):False:=by
 cases b with
 |true=>
  rw[aa]at h;unfold Yg at h;simp only at h;(repeat' split at h)<;>first|(cases h;done)|(have h2:=(AK h).2;cases h2)
 |false=>
  rw[ab]at h;unfold Yf at h;simp only at h;(repeat' split at h)<;>cases h
theorem aOO{inl:FuncId->List SV->Ae->(List SV->Ae->Option R)->Option R}(hI:Xm C inl)(ho:Ok base S0 σ)(hr:RelT σ s a)(hG:GlobsOk C.globs σ.w σ.S){o:Oper}{f:FuncId}{args:List SV}{k:List SV->Ae->Option R}
  {ctx:List (Nat×Bool)} (hx:BH a ctx) (hs:At C s ctx o=some (.inl f args)) (h:inl f args s.mem k=some r) {K:Act->World->Prop} {Q:Exit->Act->World->Prop}
  (hK:∀(v:Value) (σ':Sit) (rs:List SV) (zs:List Value),Ok base S0 σ'->Adv σ σ'->v=DH zs->All2 (Bv σ') rs zs->k rs σ'.mem=some r->K (a.put o.dst v) σ'.w):o.wp C.P a σ.w K Q:=by
 have hcall:∃c fo caps as,o.op=.call c/\c.callee=.value fo/\Bj s ctx fo=some (.fn f caps)/\Ei s ctx c.args.toList=some as/\fG s.mem caps=true/\args=as++caps.map fun p=>SV.one (.ptr p.1 p.2):=by
  unfold At at hs;cases hop:o.op with
  |call c=>
   rw[hop]at hs;simp only at hs;cases hc:c.callee with
   |value fo=>
    simp only[hc]at hs;split at hs
    ·rename_i f' caps as ef ea;split at hs
     ·(repeat' split at hs)<;>first|(cases hs;done)|(have h2:=(AK hs).2;(repeat' split at h2)<;>cases h2)
     split at hs
     ·repeat' split at hs
      all_goals cases hs
     ·obtain⟨h1,h2⟩:=AK hs;cases h2;exact⟨c,fo,caps,as,rfl,hc,ef,ea,h1,rfl⟩
    ·(repeat' split at hs)<;>cases hs
    ·cases hs
   |invoke q m=>simp only[hc]at hs;(repeat' split at hs)<;>cases hs
   |builtin b=>
    simp only[hc]at hs;cases b<;>simp only at hs<;>first|(cases hs;done)|(repeat' split at hs)<;>first|(cases hs;done)|(exact(aYp hs).elim)|(have h2:=(AK hs).2;cases h2;done)|(have h2:=Ej hs;cases h2)
  |_=>
   rw[hop]at hs;simp only at hs;(repeat' split at hs)<;>first|(cases hs;done)|(have h2:=(AK hs).2;(repeat' split at h2)<;>cases h2;done)|(have h2:=aCN hs;have h3:=(AK h2).2;cases h3;done)|(have h2:=aCN hs;have h3:=aCN (AK h2).2;cases h3;done)|(have h2:=Ej hs;(repeat' split at h2)<;>first|(cases h2;done)|(have h3:=(AK h2).2;cases h3))
 obtain⟨c,fo,caps,as,hop,hc,ef,ea,hraw,rfl⟩:=hcall;rw[←hr.mem]at hraw h;obtain⟨hb,_,hm⟩:=BJ hr hx ef;have hall:=aL7 hraw;obtain⟨rs,hrs,hfv⟩:=hm.resolve_left fun⟨p,hp,hq⟩=>by obtain⟨cs,e⟩:=hall p hp;rw[e]at hq;exact hq
 have hargs:=(U5 hr hx ea).append (aNg hb hall hrs);obtain⟨hcl,hcalls⟩:=hI f _ σ.mem k r h base S0 σ _ ho rfl hG hargs;have hexec:(execOp a.eval o).run C.P σ.w=.ok (.enter f ((c.args.toList.map a.eval)++(caps.zip rs).map fun q=>jp (some ⟨q.2,q.1.2,none⟩)).toArray) σ.w:=by
  simp only[execOp,hop,resolve,hc,hfv];simp only[Deferred.ofValue,cz,ej,cd,invoke];rw[iX hcl];congr 2;apply gy.1;simp
 unfold Oper.wp;rw[hexec,Oper.upon_enter];refine hcalls.mono fun e w' he=>?_;obtain⟨σ',rs',zs,rfl,rfl,h1,h2,h3,h4⟩:=he;exact hK (DH zs) σ' rs' zs h1 h2 rfl h3 h4
theorem Vm(hP:ProgOk C){inl:FuncId->List SV->Ae->(List SV->Ae->Option R)->Option R}(hI:Xm C inl)(ops:Array Oper){kn:St->Option R}{ke:Nat->St->Option R}{kr:St->Option R}(hG0:GlobsOk C.globs σ0.w σ0.S):
  ∀(l:List Oper) {σ:Sit} {s:St} {a:Act},Ok base S0 σ->Adv σ0 σ->RelT σ s a->s.m0=σ0.mem.length->L5 C inl ops.toList l s kn=some r->wpList C.P ops (HE base S0 σ0 r kn ke kr) l a σ.w
 | [],σ,s,a,ho,hA,hr,hm,h=>⟨σ,s,rfl,ho,hA,hr,hm,h⟩
 |o::l,σ,s,a,ho,hA,hr,hm,h=>by
  simp only[L5]at h
  unfold wpList
  split at h
  ·rename_i g s1 e
   obtain⟨h1,h2⟩:=AK h
   subst h1
   have:=bIs hP.sums ho hr (hG0.adv hA) e (K:=wpList C.P ops (HE base S0 σ0 r kn ke kr) l) (Q:=HE base S0 σ0 r kn ke kr) fun a' σ' k1 k2 k3=>
    Vm hP hI ops hG0 l k1 (hA.trans k2) k3 ((bIr e).trans hm) h2
   split at this
   ·rename_i hw;rw[ah hw];exact .inl this
   ·rename_i hw;rw[ag hw];exact this
  ·rename_i f args e
   split at h
   ·rename_i hg
    rw[ah (by simp[ig,hg])]
    have hs:At C s [] o=some (.inl f args):=by
     unfold step at e
     rw[hg]at e
     simp only at e
     (repeat' split at e)<;>first|(cases e;done)|(cases e;assumption)
    refine .inl (aOO hI ho hr (hG0.adv hA) (fun _ _ h=>by simp at h) hs h fun v σ' rs zs k1 k2 k3 k4 k5=>?_)
    split at k5
    ·rename_i s2 e2
     refine Vm hP hI ops hG0 l k1 (hA.trans k2) (s:=s2) ?_ ?_ k5
     ·refine vM (σ:=σ) (fT:=Wm s.mem) rfl (fun x y hxy=>BB.drop (by rw[←hr.mem];exact k2.rep) (aNK s.mem) hxy) hr (x:=L6 rs) (v:=v) (by rw[k3];exact jB k4) rfl e2
     ·unfold Vf at e2
      split at e2
      ·cases e2;exact hm
      ·have:=(AK e2).2;cases this;exact hm
    ·cases k5
   ·cases h
  ·rename_i c t d p f args e
   obtain⟨gi,hg,ht,hd,hnt,hdt,hdl,hcv,hs⟩:∃gi,o.guard=some (gi,p)/\Fh ops.toList gi=some t/\o.dst=some d/\Gf d s.cs=true/\t≠d/\d<s.n/\Po s.tm s.cs t p=some c/\At C s (Ff s.cs t p) o=some (.inl f args):=by
    unfold step at e
    split at e
    ·(repeat' split at e)<;>cases e
    ·rename_i gi p' hg
     split at e
     ·rename_i t' d' ht hd
      obtain⟨hb,e⟩:=AK e
      simp only[ar,ff]at hb
      split at e
      ·have:=(AK e).2;cases this
      ·cases e
       exact⟨gi,hg,ht,hd,hb.1.1.2,fun e=>by subst e;simp[fg]at hb,by simpa using hb.2,by assumption,by assumption⟩
      ·cases e
     ·cases e
   have hdl':d<a.tmps.size:=by rw[hr.size];exact hdl
   have hciff:=Yp hr.tm hr.cs hcv
   have hwiff:=aAf (a:=a) hg ht
   cases c with
   |true=>
    rw[aa]at h
    have htrue:=hciff.1 rfl
    rw[ah (hwiff.2 htrue)]
    split at h
    ·rename_i g x mem e2
     obtain⟨hgt,h⟩:=AK h
     subst hgt
     unfold aOA at e2
     split at e2
     ·rename_i cl hop
      split at e2
      ·rename_i fo hcl
       split at e2
       ·rename_i g x mem hp
        simp only[ap,cr]at e2
        obtain⟨rfl,rfl,rfl⟩:=e2
        have hgood:=JX hP.sums ho hr (Wk hr.cs htrue) (hG0.adv hA) (o:={o with guard:=none}) (fun c' h1 h2=>by
         have h1':o.op=.call c':=h1
         rw[hop]at h1';cases h1';rw[hcl]at h2;cases h2) hp
        refine .inl (hgood (wpList C.P ops (HE base S0 σ0 r kn ke kr) l) (HE base S0 σ0 r kn ke kr) fun v σ' k1 k2 k3 k4=>?_)
        show wpList C.P ops (HE base S0 σ0 r kn ke kr) l (a.put o.dst v) σ'.w
        rw[hd]
        exact Vm hP hI ops hG0 l k1 (hA.trans k2.adv_id) (vN hr hdl' hdt hnt (fun x y hxy=>BB.keep k2.rep hxy) k3 (fun _=>k4) (fun hn=>absurd htrue hn)) hm h
       ·cases e2
      ·cases e2
     ·cases e2
    refine .inl (aOO hI ho hr (hG0.adv hA) (Wk hr.cs htrue) hs h fun v σ' rs zs k1 k2 k3 k4 k5=>?_)
    have hr2:RelT σ' {gC s with mem:=σ'.mem} a:=by
     have:=vM (σ:=σ) (σ':=σ') (o:={o with dst:=none}) (v:=undef) (x:=.un) (fT:=Wm s.mem) rfl (fun x y hxy=>BB.drop (by rw[←hr.mem];exact k2.rep) (aNK s.mem) hxy) hr trivial rfl (s':={gC s with mem:=σ'.mem}) rfl
     simpa[Act.put]using this
    have hnt2:Gf d (gC s).cs=true:=by
     have:∀l:List (Nat×Nat×Bool×TV),Gf d (l.map fun p=>(p.1,p.2.1,p.2.2.1,Wm s.mem p.2.2.2))=Gf d l:=fun l=>by
      induction l with
      |nil=>rfl
      |cons q l ih=>obtain⟨_,_,_,_⟩:=q;simp only[gg,Gf,ih]
     show Gf d (s.cs.map _)=true
     rw[this];exact hnt
    rw[hd]
    exact Vm hP hI ops hG0 l k1 (hA.trans k2) (vN hr2 hdl' hdt hnt2 (fun _ _ h=>h) rfl (fun _=>by rw[k3];exact jB k4) (fun hn=>absurd htrue hn)) hm k5
   |false=>
    rw[ab]at h
    have hfalse:a.tmps.getD t undef≠.bool p:=fun e=>by have:=hciff.2 e;cases this
    rw[ag (fun hw=>hfalse (hwiff.1 hw)),hd]
    exact Vm hP hI ops hG0 l ho hA (vN hr hdl' hdt hnt (fun _ _ h=>h) hr.mem (fun e=>absurd e hfalse) (fun _=>rfl)) hm h
  ·cases h
end Vx
end
