/- Part 7 of the proof. What is proved: symbolic execution of the functions, proved sound; what each function of the program computes, and that every run ends with it; what these functions compute, in plain numbers. Conditions: each theorem bears its own. -/
import Derived.Test.YtblmecpfokfjpaaDoorVxG6
import Derived.ProofKit
import Derived.LaidMore
import Derived.OpenShut
import Derived.Stop.Joined
import GoSem.ClaimJoined
set_option linter.all false
set_option exponentiation.threshold 1000000
namespace VL
open Go Vx
theorem dg_len_ge {x k:Nat} (h:(2^64)^k≤x):k<(dg (2^64) x).length:=by
 have:=dg_len_gt (B:=2^64) (by decide) x
 exact (Nat.pow_lt_pow_iff_right (a:=2^64) (by decide)).1 (Nat.lt_of_le_of_lt h this)
theorem dg_top {x:Nat} (h0:x≠0):∃ t,(dg (2^64) x).getD ((dg (2^64) x).length-1) 0=t∧t≠0∧t<2^64∧blen x=64*((dg (2^64) x).length-1)+blen t∧0<(dg (2^64) x).length:=by
 have hl:0<(dg (2^64) x).length:=by rw [dg_pos (by decide) (by omega)]; simp
 have ht:=dg_trim (B:=2^64) (by decide) x
 have h1:=trim_last (dg (2^64) x) (by rw [ht]; exact hl)
 have h2:=blen_row (dg_lt (B:=2^64) (by decide) x) (by rw [ht]; exact hl)
 rw [ht] at h1 h2
 rw [nv_Dw] at h2
 exact ⟨_,rfl,h1,getD_lt (by decide) (dg_lt (by decide) x) _,h2,hl⟩
theorem pow64_2 (k:Nat):(2^64)^k=2^(64*k):=(Nat.pow_mul ..).symm
theorem T333_eq {a b:Nat} (ha:a<(2^64)^4000) (hb:b<(2^64)^4000) (h0:b≠0):T333 (Dw a,Dw b,())=some (Dw (a/b),Dw (a%b),()):=by
 have up:∀ {x:Nat},x<(2^64)^4000→x<(2^64)^5000:=fun h=>Nat.lt_of_lt_of_le h (Nat.pow_le_pow_right (by decide) (by decide))
 show t333 S1146.pre S1146.F S1329.pre S1329.F S144.pre S144.F S146.pre S146.F S329.pre S329.F S327.pre S327.F S186.pre S186.F S332.pre S332.F S173.pre S173.F S171.pre S171.F W333_14 (Dw a) (Dw b)=_
 unfold t333
 have pa:=T173_dw (up ha)
 have pb:=T173_dw (up hb)
 have pc:=T144_eq (up ha) (up hb)
 have wa:=Dw_ws (up ha)
 have wb:=Dw_ws (up hb)
 have hla:(dg (2^64) a).length≤4000:=dg_len_le (by decide) _ _ ha
 have hlb:(dg (2^64) b).length≤4000:=dg_len_le (by decide) _ _ hb
 have pcopy:=T1146_eq (dg (2^64) a) wa
 rw [nv_Dw] at pcopy
 have pcopy:T1146 (Dw a,())=some (Dw a,()):=pcopy
 obtain ⟨t,ht,ht0,ht64,hbt,hlp⟩:=dg_top h0
 have hLen:∀ x:Nat,(Dw x).length=(dg (2^64) x).length:=fun x=>Wd_len _
 have hGet:∀ (x i:Nat),(Dw x).getD i 0=(((dg (2^64) x).getD i 0:Nat):Int):=fun x i=>Wd_getD _ _
 dsimp only
 simp only [pre173 pa,fun173 pa,pre173 pb,fun173 pb,pre144 pc,fun144 pc,cond_true]
 by_cases hlt:a<b
 ·have e0:decide ((if a=b then (0:Int) else if a<b then -1 else 1)<0)=true:=by rw [if_neg (by omega),if_pos hlt]; rfl
  simp only [e0,cond_true,pre1146 pcopy,fun1146 pcopy]
  rw [Nat.div_eq_of_lt hlt,Nat.mod_eq_of_lt hlt,Dw_zero]
 have e0:decide ((if a=b then (0:Int) else if a<b then -1 else 1)<0)=false:=by
  rw [if_neg hlt]
  split <;> rfl
 simp only [e0,cond_false]
 by_cases h1:(dg (2^64) b).length=1
 ·have e1:(((Dw b).length:Int)==1)=true:=by rw [hLen,h1]; rfl
  have hb64:b<2^64:=by
   have:=dg_len_gt (B:=2^64) (by decide) b
   rw [h1,Nat.pow_one] at this
   exact this
  have e2:decide ((0:Int)<((Dw b).length:Int))=true:=by rw [hLen,h1]; rfl
  have e3:(Dw b).getD (Int.toNat 0) 0=(b:Int):=by rw [Int.toNat_zero,Dw_get,Nat.mod_eq_of_lt hb64]
  have p0:=T1329_eq (up ha) (Nat.pos_of_ne_zero h0) hb64
  have hr:a%b<b:=Nat.mod_lt _ (Nat.pos_of_ne_zero h0)
  have p1:=T173_eq [a%b] (by simp)
  rw [trim_Dw (by intro x hx; rw [List.mem_singleton] at hx; omega),show nv (2^64) [a%b]=a%b by simp [nv]] at p1
  have p1:T173 ((((a%b:Nat):Int)::[]),())=_:=p1
  simp only [e1,e2,e3,cond_true,pre1146 pcopy,fun1146 pcopy,pre1329 p0,fun1329 p0,pre173 p1,fun173 p1]
 have e1:(((Dw b).length:Int)==1)=false:=by
  rw [hLen]
  exact ibeq_f _ _ (by omega)
 simp only [e1,cond_false]
 obtain ⟨n,hn⟩:∃ n,(dg (2^64) b).length=n+2:=⟨(dg (2^64) b).length-2,by omega⟩
 have hab:(dg (2^64) b).length≤(dg (2^64) a).length:=dg_len_mono (by decide) (by omega)
 obtain ⟨Q,hQ⟩:∃ Q,(dg (2^64) a).length+1=Q+n+2:=⟨(dg (2^64) a).length+1-(n+2),by omega⟩
 rw [show (dg (2^64) b).length-1=n+1 by omega] at ht hbt
 have hbl:=blen_bound ht64
 have hbl1:=blen_pos ht0
 generalize hs:64-blen t=s at *
 have p327:=T327_eq ht64
 rw [hs] at p327
 have hub:=blen_lt b
 have hlob:=blen_le h0
 have hp:=Nat.two_pow_pos s
 have hV1:b*2^s<2^(64*(n+2)):=by
  have h2:b*2^s<2^blen b*2^s:=Nat.mul_lt_mul_of_pos_right hub hp
  rw [← Nat.pow_add,show blen b+s=64*(n+2) by omega] at h2
  exact h2
 have hV2:2^(64*(n+2)-1)≤b*2^s:=by
  have h2:2^(blen b-1)*2^s≤b*2^s:=Nat.mul_le_mul_right _ hlob
  rw [← Nat.pow_add,show blen b-1+s=64*(n+2)-1 by omega] at h2
  exact h2
 have hvlen:(dg (2^64) (b*2^s)).length=n+2:=by
  have h2:(dg (2^64) (b*2^s)).length≤n+2:=dg_len_le (by decide) _ _ (by rw [pow64_2]; exact hV1)
  have h3:=dg_len_ge (x:=b*2^s) (k:=n+1) (by
   rw [pow64_2]
   exact Nat.le_trans (Nat.pow_le_pow_right (by decide) (by omega)) hV2)
  omega
 have hA:a*2^s<2^(64*(dg (2^64) a).length+s):=by
  have h2:=dg_len_gt (B:=2^64) (by decide) a
  rw [pow64_2] at h2
  rw [Nat.pow_add]
  exact Nat.mul_lt_mul_of_pos_right h2 hp
 have hulen:(dg (2^64) (a*2^s)).length≤Q+n+2:=dg_len_le (by decide) _ _ (by
  rw [pow64_2]
  exact Nat.lt_of_lt_of_le hA (Nat.pow_le_pow_right (by decide) (by omega)))
 have hstart:a*2^s<b*2^s*(2^64)^Q:=by
  have h2:2^(64*(n+2)-1)*2^(64*Q)≤b*2^s*2^(64*Q):=Nat.mul_le_mul_right _ hV2
  rw [← Nat.pow_add] at h2
  rw [pow64_2]
  exact Nat.lt_of_lt_of_le (Nat.lt_of_lt_of_le hA (Nat.pow_le_pow_right (by decide) (by omega))) h2
 have pv:=T186_eq (dg (2^64) b) wb s (by rw [dg_trim (by decide)]; omega)
 have pu:=T186_eq (dg (2^64) a) wa s (by rw [dg_trim (by decide)]; omega)
 rw [nv_Dw] at pv pu
 have pv:T186 (Dw b,(s:Int),())=some (Dw (b*2^s),()):=pv
 have pu:T186 (Dw a,(s:Int),())=some (Dw (a*2^s),()):=pu
 have e17:IntKind.wrap .i64 (((Dw b).length:Int)-1)=((n+1:Nat):Int):=by rw [hLen,wrapI (by omega)]; omega
 have e18:IntKind.wrap .i64 (((Dw a).length:Int)+1)=((Q+n+2:Nat):Int):=by rw [hLen,wrapI (by omega)]; omega
 have eg:(Dw b).getD (Int.toNat ((n+1:Nat):Int)) 0=(t:Int):=by rw [Int.toNat_natCast,hGet,ht]
 have e2:(decide ((0:Int)≤((n+1:Nat):Int))&&decide (((n+1:Nat):Int)<((Dw b).length:Int)))=true:=by
  rw [hLen,decide_eq_true (by omega),decide_eq_true (by omega)]; rfl
 have e3:(decide ((0:Int)≤((Q+n+2:Nat):Int))&&decide (((Q+n+2:Nat):Int)*8≤140737488355328))=true:=by
  rw [decide_eq_true (by omega),decide_eq_true (by omega)]; rfl
 generalize hud:dg (2^64) (a*2^s)++List.replicate (Q+n+2-(dg (2^64) (a*2^s)).length) 0=us
 have husl:us.length=Q+n+2:=by rw [← hud,List.length_append,List.length_replicate]; omega
 have hus:∀ x∈us,x<2^64:=by
  rw [← hud]
  intro x hx
  rcases List.mem_append.1 hx with hx | hx
  ·exact dg_lt (by decide) _ x hx
  ·have:=(List.mem_replicate.1 hx).2
   omega
 have husv:nv (2^64) us=a*2^s:=by rw [← hud,nv_append,nv_rep,Nat.mul_zero,Nat.add_zero,nv_Dw]
 have hrow:(Dw (a*2^s)).take (List.replicate (Int.toNat ((Q+n+2:Nat):Int)) (0:Int)).length++(List.replicate (Int.toNat ((Q+n+2:Nat):Int)) (0:Int)).drop (Dw (a*2^s)).length=Wd us:=by
  rw [Int.toNat_natCast,List.length_replicate,Wd_rep,hLen,Wd_drop,List.drop_replicate]
  unfold Dw
  rw [Wd_take,List.take_of_length_le hulen,← hud]
  unfold Wd
  rw [List.map_append]
 have e11:IntKind.wrap .i64 (((Wd us).length:Int)-((Dw (b*2^s)).length:Int))=(Q:Int):=by
  rw [Wd_len,husl,hLen,hvlen,wrapI (by omega)]; omega
 have e4:(decide ((0:Int)≤(Q:Int))&&decide ((Q:Int)*8≤140737488355328))=true:=by
  rw [decide_eq_true (by omega),decide_eq_true (by omega)]; rfl
 have e5:IntKind.wrap .i64 (((List.replicate (Int.toNat (Q:Int)) (0:Int)).length:Int)-1)=(Q:Int)-1:=by
  rw [Int.toNat_natCast,List.length_replicate,wrapI (by omega)]
 obtain ⟨qs,us',k1,k2,k3,k4,k5,k6,k7⟩:=W333_eq (dg (2^64) (b*2^s)) hvlen (dg_lt (by decide) _) (by omega) (X:=a*2^s) Q (by omega) (s:Int) us husl hus husv (by rw [nv_Dw]; exact hstart)
 rw [nv_Dw] at k3 k6
 rw [Nat.mul_div_mul_right _ _ hp] at k3
 rw [Nat.mul_mod_mul_right] at k6
 have k7:W333_14 (((Dw (b*2^s),(((Q:Int)-1),((),((),(((Dw (b*2^s)).length:Int),((s:Int),())))))),(Wd us,((List.replicate (Int.toNat (Q:Int)) (0:Int)),()))):P333_14.D)=some (.inl (((),((),(((n+2:Nat):Int),((s:Int),())))),(Wd us',(Wd qs,())))):=by
  rw [Int.toNat_natCast,Wd_rep,hLen]
  rw [hvlen] at k7 ⊢
  exact k7
 simp only [e17,eg,pre327 p327,fun327 p327,pre186 pv,fun186 pv,pre186 pu,fun186 pu,e18,e2,e3,cond_true,hrow,e11,e4,e5]
 rw [k7]
 dsimp only [obind,obind2]
 have pq:=T173_eq qs (by omega)
 rw [trim_Dw k2,k3] at pq
 have hnl:nv (2^64) (us'.take (n+2))=a%b*2^s:=by
  have h2:=nv_split (2^64) us' (n+2) (by omega)
  have h3:nv (2^64) (us'.drop (n+2))=0:=by
   rcases Nat.eq_zero_or_pos (nv (2^64) (us'.drop (n+2))) with h | h
   ·exact h
   ·exfalso
    have h4:(2^64)^(n+2)*1≤(2^64)^(n+2)*nv (2^64) (us'.drop (n+2)):=Nat.mul_le_mul_left _ h
    have h5:a%b*2^s<b*2^s:=Nat.mul_lt_mul_of_pos_right (Nat.mod_lt _ (Nat.pos_of_ne_zero h0)) hp
    rw [pow64_2] at h4 h2
    omega
  rw [h3,Nat.mul_zero,Nat.add_zero] at h2
  rw [← h2,k6]
 have pr:=T171_eq (us'.take (n+2)) ⟨fun x hx=>k5 x (List.mem_of_mem_take hx),by simp; omega⟩ s (by omega)
 rw [hnl,Nat.mul_div_cancel _ hp] at pr
 have pr:T171 (Wd (us'.take (n+2)),(s:Int),())=some (Dw (a%b),()):=pr
 have e6:(decide ((0:Int)≤((n+2:Nat):Int))&&decide (((n+2:Nat):Int)≤((Wd us').length:Int)))=true:=by
  rw [Wd_len,k4,decide_eq_true (by omega),decide_eq_true (by omega)]; rfl
 have e7:((Wd us').take (Int.toNat ((n+2:Nat):Int))).drop (Int.toNat 0)=Wd (us'.take (n+2)):=by
  rw [Int.toNat_natCast,Int.toNat_zero,Wd_take,List.drop_zero]
 simp only [pre173 pq,fun173 pq,e6,e7,pre171 pr,fun171 pr,cond_true]
theorem great_no {l:List (List Nat)} (hl:∀ x∈l,x.length≤1024) (hn:l.length≤1000000):T185 (l.map Wd,())=some (false,()):=by
 have:=T185_eq l (fun x hx=>by have:=hl x hx; omega) hn
 rw [this,decide_eq_true (fun x hx=>Nat.le_trans (trim_len x).1 (hl x hx))]; rfl
end VL
namespace VL
open Go Vx
theorem mul_word2 {x y p c:Nat} (hx:x<2^64) (hy:y<2^64) (hp:p<2^64) (hc:c<2^64) :
  x*y+p+c=2^64*(x*y/2^64+(x*y%2^64+p)/2^64+((x*y%2^64+p)%2^64+c)/2^64)+((x*y%2^64+p)%2^64+c)%2^64 ∧
   x*y/2^64+(x*y%2^64+p)/2^64+((x*y%2^64+p)%2^64+c)/2^64<2^64:=by
 have:x*y≤(2^64-1)*(2^64-1):=Nat.mul_le_mul (by omega) (by omega)
 generalize x*y=z at *
 omega
theorem getD_setI (l:List Nat) (i j v:Nat):(l.set i v).getD j 0=if i=j∧i<l.length then v else l.getD j 0:=by
 rw [List.getD_eq_getElem?_getD,List.getD_eq_getElem?_getD,List.getElem?_set]
 by_cases h:i=j
 ·subst h
  by_cases h2:i<l.length
  ·simp [h2]
  ·simp [h2]
 ·simp [h]
theorem mem_set {l:List Nat} {i v B:Nat} (h:∀ x∈l,x<B) (hv:v<B):∀ x∈l.set i v,x<B:=fun x hx=>by
 rcases List.mem_or_eq_of_mem_set hx with h1 | h1
 ·exact h x h1
 ·omega
theorem W324b_eq (a b p:List Nat) (hb:∀ x∈b,x<2^64) (hn:b.length≤100000) {x i:Nat} (hx:x<2^64) (hi:i≤100000) (hpl:i+b.length<p.length) (hpn:p.length≤300000) (hpd:∀ z∈p,z<2^64)
  (hz:∀ k,i+b.length≤k→p.getD k 0=0) (la:Int) :
  ∃ (p':List Nat) (c:Nat),p'.length=p.length∧(∀ z∈p',z<2^64)∧c<2^64∧nv (2^64) p'+(2^64)^(i+b.length)*c=nv (2^64) p+(2^64)^i*(x*nv (2^64) b)∧(∀ k,i+b.length≤k→p'.getD k 0=0) ∧
   W324_8 (((b.length:Int),(Wd b,((x:Int),((0:Int),((i:Int),((0:Int),((i:Int),(la,(Wd a,(Wd b,((),()))))))))))),(Wd p,()))=some (.inl (((i:Int),((c:Int),((i:Int),(la,(Wd a,(Wd b,((),()))))))),(Wd p',()))):=by
 have key:=lfix_ex (m324_8 S315.pre S315.F S155.pre S155.F S173.pre S173.F) (fun s=>b.length-s.1.2.2.2.1.toNat)
  (fun s=>∃ (j:Nat) (p':List Nat) (c:Nat),j≤b.length∧p'.length=p.length∧(∀ z∈p',z<2^64)∧c<2^64∧nv (2^64) p'+(2^64)^(i+j)*c=nv (2^64) p+(2^64)^i*(x*nv (2^64) (b.take j))∧(∀ k,i+b.length≤k→p'.getD k 0=0) ∧
   s=(((b.length:Int),(Wd b,((x:Int),((j:Int),((i:Int),((c:Int),((i:Int),(la,(Wd a,(Wd b,((),()))))))))))),(Wd p',())))
  (fun y=>∃ (p':List Nat) (c:Nat),p'.length=p.length∧(∀ z∈p',z<2^64)∧c<2^64∧nv (2^64) p'+(2^64)^(i+b.length)*c=nv (2^64) p+(2^64)^i*(x*nv (2^64) b)∧(∀ k,i+b.length≤k→p'.getD k 0=0) ∧
   y=.inl (((i:Int),((c:Int),((i:Int),(la,(Wd a,(Wd b,((),()))))))),(Wd p',()))) ?_
  (((b.length:Int),(Wd b,((x:Int),((0:Int),((i:Int),((0:Int),((i:Int),(la,(Wd a,(Wd b,((),()))))))))))),(Wd p,()))
  ⟨0,p,0,Nat.zero_le _,rfl,hpd,by decide,by simp [nv],hz,rfl⟩
 ·obtain ⟨y,hy,p',c,k1,k2,k3,k4,k5,rfl⟩:=key
  exact ⟨p',c,k1,k2,k3,k4,k5,hy⟩
 intro L s hs hL
 obtain ⟨j,q,c,hj,hql,hqd,hc,hinv,hqz,rfl⟩:=hs
 unfold h324_8
 rcases Nat.lt_or_ge j b.length with hlt | hge
 ·have hy:=getD_lt (by decide) hb j
  have hp:=getD_lt (by decide) hqd (i+j)
  have hnb:=nv_take_next (2^64) b j
  have hgb:(Wd b).getD j 0=((b.getD j 0:Nat):Int):=Wd_getD b j
  have hgq:(Wd q).getD (i+j) 0=((q.getD (i+j) 0:Nat):Int):=Wd_getD q _
  have hst:=fun z=>nv_set (2^64) q (i+j) z (by omega)
  have hgs:=fun z k=>getD_setI q (i+j) k z
  generalize b.getD j 0=y at *
  generalize q.getD (i+j) 0=d at *
  have p0:=T315_eq hx hy
  obtain ⟨m1,m2⟩:=mul_word2 hx hy hp hc
  have q1:=addF (x*y%2^64) d 0
  have q2:=addP ((x*y%2^64:Nat):Int) (d:Int) 0 (by decide)
  have r1:=addF ((x*y%2^64+d)%2^64) c 0
  have r2:=addP (((x*y%2^64+d)%2^64:Nat):Int) (c:Int) 0 (by decide)
  rw [Nat.add_zero] at q1 r1
  have z0:((0:Nat):Int)=0:=rfl
  rw [z0] at q1 q2 r1 r2
  have hl:((x*y%2^64+d)%2^64+c)%2^64<2^64:=Nat.mod_lt _ (by decide)
  have e5:=wu_add (x*y/2^64) ((x*y%2^64+d)/2^64) (by omega)
  have e6:=wu_add (x*y/2^64+(x*y%2^64+d)/2^64) (((x*y%2^64+d)%2^64+c)/2^64) m2
  have e0:decide ((j:Int)<(b.length:Int))=true:=decide_eq_true (by omega)
  have e1:decide ((0:Int)≤(j:Int))=true:=decide_eq_true (by omega)
  have e2:IntKind.wrap .i64 ((i:Int)+(j:Int))=((i+j:Nat):Int):=by rw [wrapI (by omega)]; omega
  have e3:IntKind.wrap .i64 ((j:Int)+1)=((j+1:Nat):Int):=by rw [wrapI (by omega)]; omega
  have e4:decide ((0:Int)≤((i+j:Nat):Int))=true:=decide_eq_true (by omega)
  have e7:decide (((i+j:Nat):Int)<(q.length:Int))=true:=decide_eq_true (by omega)
  dsimp only
  simp only [e0,e1,e2,e3,e4,e7,cond_true,Bool.and_self,Wd_len,Int.toNat_natCast,hgb,hgq,pre315 p0,fun315 p0,q1,q2,r1,r2,e5,e6,Wd_set]
  refine hL _ ⟨j+1,q.set (i+j) (((x*y%2^64+d)%2^64+c)%2^64),x*y/2^64+(x*y%2^64+d)/2^64+((x*y%2^64+d)%2^64+c)/2^64,by omega,by rw [List.length_set]; exact hql,mem_set hqd hl,m2,?_,?_,rfl⟩ (by simp only [Int.toNat_natCast]; omega)
  ·have h1:=hst (((x*y%2^64+d)%2^64+c)%2^64)
   rw [hnb,show i+(j+1)=i+j+1 by omega,pow_up,Nat.mul_add x,Nat.mul_add ((2^64)^i),Nat.mul_left_comm x,← Nat.mul_assoc ((2^64)^i) ((2^64)^j),← Nat.pow_add]
   generalize ((x*y%2^64+d)%2^64+c)%2^64=o at *
   generalize x*y/2^64+(x*y%2^64+d)/2^64+((x*y%2^64+d)%2^64+c)/2^64=c' at *
   generalize x*y=z at *
   have h2:(2^64)^(i+j)*(z+d+c)=(2^64)^(i+j)*(2^64*c'+o):=by rw [m1]
   rw [Nat.mul_add,Nat.mul_add,Nat.mul_add,← Nat.mul_assoc ((2^64)^(i+j)) (2^64)] at h2
   omega
  ·intro k hk
   rw [hgs,if_neg (by omega)]
   exact hqz k hk
 ·have e:j=b.length:=by omega
  subst e
  have e0:decide ((b.length:Int)<(b.length:Int))=false:=decide_eq_false (by omega)
  dsimp only
  simp only [e0,cond_false]
  rw [List.take_length] at hinv
  exact ⟨_,rfl,q,c,hql,hqd,hc,hinv,hqz,rfl⟩
theorem W324a_eq (a b:List Nat) (ha:∀ x∈a,x<2^64) (hb:∀ x∈b,x<2^64) (hna:a.length≤100000) (hnb:b.length≤100000) :
  ∃ p:List Nat,p.length=a.length+b.length∧(∀ z∈p,z<2^64)∧nv (2^64) p=nv (2^64) a*nv (2^64) b ∧
   W324_4 ((((a.length:Int),(Wd a,(Wd b,((0:Int),((),()))))),(Wd (List.replicate (a.length+b.length) 0),())):P324_4.D)=some (.inl (((),()),(Wd p,()))):=by
 have key:=lfix_ex (m324_4 S315.pre S315.F S155.pre S155.F S173.pre S173.F W324_8) (fun s=>a.length-s.1.2.2.2.1.toNat)
  (fun s=>∃ (i:Nat) (p:List Nat),i≤a.length∧p.length=a.length+b.length∧(∀ z∈p,z<2^64)∧nv (2^64) p=nv (2^64) (a.take i)*nv (2^64) b∧(∀ k,i+b.length≤k→p.getD k 0=0) ∧
   s=(((a.length:Int),(Wd a,(Wd b,((i:Int),((),()))))),(Wd p,())))
  (fun y=>∃ p:List Nat,p.length=a.length+b.length∧(∀ z∈p,z<2^64)∧nv (2^64) p=nv (2^64) a*nv (2^64) b∧y=.inl (((),()),(Wd p,()))) ?_
  (((a.length:Int),(Wd a,(Wd b,((0:Int),((),()))))),(Wd (List.replicate (a.length+b.length) 0),()))
  ⟨0,List.replicate (a.length+b.length) 0,Nat.zero_le _,by simp,(fun z hz=>by have:=(List.mem_replicate.1 hz).2; omega),by rw [nv_rep]; simp [nv],(fun k _=>by
   rw [List.getD_eq_getElem?_getD,List.getElem?_replicate]; split <;> rfl),rfl⟩
 ·obtain ⟨y,hy,p,k1,k2,k3,rfl⟩:=key
  exact ⟨p,k1,k2,k3,hy⟩
 intro L s hs hL
 obtain ⟨i,p,hi,hpl,hpd,hinv,hz,rfl⟩:=hs
 unfold h324_4
 rcases Nat.lt_or_ge i a.length with hlt | hge
 ·have hx:=getD_lt (by decide) ha i
  have hna':=nv_take_next (2^64) a i
  have hga:(Wd a).getD i 0=((a.getD i 0:Nat):Int):=Wd_getD a i
  obtain ⟨p',c,k1,k2,k3,k4,k5,k6⟩:=W324b_eq a b p hb hnb hx (i:=i) (by omega) (by omega) (by omega) hpd hz (a.length:Int)
  have e0:decide ((i:Int)<(a.length:Int))=true:=decide_eq_true (by omega)
  have e1:decide ((0:Int)≤(i:Int))=true:=decide_eq_true (by omega)
  have e2:IntKind.wrap .i64 ((i:Int)+(b.length:Int))=((i+b.length:Nat):Int):=by rw [wrapI (by omega)]; omega
  have e3:IntKind.wrap .i64 ((i:Int)+1)=((i+1:Nat):Int):=by rw [wrapI (by omega)]; omega
  have e4:decide ((0:Int)≤((i+b.length:Nat):Int))=true:=decide_eq_true (by omega)
  have e5:decide (((i+b.length:Nat):Int)<(p'.length:Int))=true:=decide_eq_true (by omega)
  dsimp only
  simp only [e0,e1,cond_true,Bool.and_self,Wd_len,Int.toNat_natCast,hga]
  rw [k6]
  dsimp only [obind,obind2]
  simp only [e2,e3,e4,e5,cond_true,Bool.and_self,Wd_len,Int.toNat_natCast,Wd_set]
  refine hL _ ⟨i+1,p'.set (i+b.length) c,by omega,by rw [List.length_set]; omega,mem_set k2 k3,?_,?_,rfl⟩ (by simp only [Int.toNat_natCast]; omega)
  ·have h1:=nv_set (2^64) p' (i+b.length) c (by omega)
   rw [k5 _ (Nat.le_refl _),Nat.mul_zero,Nat.add_zero] at h1
   rw [h1,k4,hinv,hna',Nat.add_mul,Nat.mul_assoc]
  ·intro k hk
   rw [getD_setI,if_neg (by omega)]
   exact k5 k (by omega)
 ·have e:i=a.length:=by omega
  subst e
  have e0:decide ((a.length:Int)<(a.length:Int))=false:=decide_eq_false (by omega)
  simp only [e0,cond_false]
  rw [List.take_length] at hinv
  exact ⟨_,rfl,p,hpl,hpd,hinv,rfl⟩
theorem T324_eq {a b:Nat} (ha:a<(2^64)^5000) (hb:b<(2^64)^5000):T324 (Dw a,Dw b,())=some (Dw (a*b),()):=by
 show t324 S315.pre S315.F S155.pre S155.F S173.pre S173.F W324_4 W324_8 (Dw a) (Dw b)=_
 unfold t324
 have pa:=T173_dw ha
 have pb:=T173_dw hb
 have hla:(dg (2^64) a).length≤5000:=dg_len_le (by decide) _ _ ha
 have hlb:(dg (2^64) b).length≤5000:=dg_len_le (by decide) _ _ hb
 obtain ⟨p,k1,k2,k3,k4⟩:=W324a_eq (dg (2^64) a) (dg (2^64) b) (dg_lt (by decide) _) (dg_lt (by decide) _) (by omega) (by omega)
 rw [nv_Dw,nv_Dw] at k3
 have hLen:∀ x:Nat,(Dw x).length=(dg (2^64) x).length:=fun x=>Wd_len _
 have e0:IntKind.wrap .i64 (((Dw a).length:Int)+((Dw b).length:Int))=(((dg (2^64) a).length+(dg (2^64) b).length:Nat):Int):=by rw [hLen,hLen,wrapI (by omega)]; omega
 have e1:(decide ((0:Int)≤(((dg (2^64) a).length+(dg (2^64) b).length:Nat):Int))&&decide ((((dg (2^64) a).length+(dg (2^64) b).length:Nat):Int)*8≤140737488355328))=true:=by
  rw [decide_eq_true (by omega),decide_eq_true (by omega)]; rfl
 have k4:W324_4 (((((Dw a).length:Int),(Dw a,(Dw b,((0:Int),((),()))))),((List.replicate (Int.toNat (((dg (2^64) a).length+(dg (2^64) b).length:Nat):Int)) (0:Int)),())):P324_4.D)=some (.inl (((),()),(Wd p,()))):=by
  rw [Int.toNat_natCast,Wd_rep,hLen]
  exact k4
 have p0:=T173_eq p (by omega)
 rw [trim_Dw k2,k3] at p0
 dsimp only
 simp only [pre173 pa,fun173 pa,pre173 pb,fun173 pb,cond_true,e0,e1]
 rw [k4]
 dsimp only [obind,obind2]
 simp only [pre173 p0,fun173 p0,cond_true]
theorem T325_eq {a b:Nat} (ha:a<(2^64)^1024) (hb:b<(2^64)^1024) (hab:a*b<(2^64)^1024):T325 (Dw a,Dw b,())=some (Dw (a*b),0,()):=by
 have up5:∀ {x:Nat},x<(2^64)^1024→x<(2^64)^5000:=fun h=>Nat.lt_of_lt_of_le h (Nat.pow_le_pow_right (by decide) (by decide))
 show t325 S324.pre S324.F S185.pre S185.F (Dw a) (Dw b)=_
 unfold t325
 have p0:=great_no (l:=[dg (2^64) a,dg (2^64) b]) (by
  intro x hx
  rcases List.mem_cons.1 hx with rfl | hx
  ·exact dg_len_le (by decide) _ _ ha
  ·rw [List.mem_singleton] at hx
   rw [hx]
   exact dg_len_le (by decide) _ _ hb) (by simp)
 have p0:T185 ((Dw a::Dw b::[]),())=some (false,()):=p0
 have p2:=great_no (l:=[dg (2^64) (a*b)]) (by
  intro x hx
  rw [List.mem_singleton] at hx
  rw [hx]
  exact dg_len_le (by decide) _ _ hab) (by simp)
 have p2:T185 ((Dw (a*b)::[]),())=some (false,()):=p2
 have p1:=T324_eq (up5 ha) (up5 hb)
 simp only [pre185 p0,fun185 p0,pre324 p1,fun324 p1,pre185 p2,fun185 p2,cond_true,cond_false]
theorem T326_eq {n k:Nat} (hn:n<2^64) (hk:k≤10000):T326 ((n:Int),(k:Int),())=some (Dw (n*n*2^(2*k)),()):=by
 show t326 S325.pre S325.F S176.pre S176.F (n:Int) (k:Int)=_
 unfold t326
 dsimp only
 rcases Nat.eq_zero_or_pos n with rfl | hn0
 ·have e0:0*0*2^(2*k)=0:=by simp
  rw [e0,Dw_zero]
  rfl
 have hnn:n*n<(2^64)^2:=by
  rw [show (2^64)^2=2^64*2^64 by decide]
  exact Nat.mul_lt_mul'' hn hn
 have h1:n<(2^64)^1024:=Nat.lt_of_lt_of_le (show n<(2^64)^1 by rw [Nat.pow_one]; exact hn) (Nat.pow_le_pow_right (by decide) (by decide))
 have h2:n*n<(2^64)^1024:=Nat.lt_of_lt_of_le hnn (Nat.pow_le_pow_right (by decide) (by decide))
 have p0:=T325_eq h1 h1 h2
 rw [Dw_small (by omega) hn] at p0
 have e1:((n:Int)==0)=false:=beq0_f _ (by omega)
 have e2:IntKind.wrap .i64 (2*(k:Int))=((2*k:Nat):Int):=by rw [wrapI (by omega)]; omega
 have h3:n*n*2^(2*k)<(2^64)^1024:=by
  rw [pow64_2] at hnn ⊢
  have h4:n*n*2^(2*k)<2^(64*2)*2^(2*k):=Nat.mul_lt_mul_of_pos_right hnn (Nat.two_pow_pos _)
  rw [← Nat.pow_add] at h4
  exact Nat.lt_of_lt_of_le h4 (Nat.pow_le_pow_right (by decide) (by omega))
 have p1:=T176_eq (dg (2^64) (n*n)) (Dw_ws (Nat.lt_of_lt_of_le h2 (Nat.pow_le_pow_right (by decide) (by decide)))) (2*k) (by omega) (by rw [nv_Dw]; exact h3)
 rw [nv_Dw] at p1
 have p1:T176 (Dw (n*n),((2*k:Nat):Int),())=_:=p1
 simp only [e1,cond_false,pre325 p0,fun325 p0,cond_true,e2,pre176 p1,fun176 p1]
theorem newton_ge {A x:Nat} (hx:0<x):isq A≤(x+A/x)/2:=by
 have h1:=isq_le A
 generalize isq A=r at *
 have h3:A<(A/x+1)*x:=by
  have:=Nat.lt_div_mul_add hx (a:=A)
  rw [Nat.add_mul,Nat.one_mul]; exact this
 generalize A/x=q at *
 rcases Nat.lt_or_ge ((x+q)/2) r with h | h
 ·exfalso
  have h2:q+1≤2*r-x:=by omega
  have h4:(q+1)*x≤(2*r-x)*x:=Nat.mul_le_mul_right _ h2
  have h5:(2*r-x)*x≤r*r:=by
   rcases Nat.le_total x r with h6 | h6
   ·obtain ⟨d,rfl⟩:∃ d,r=x+d:=⟨r-x,by omega⟩
    rw [show 2*(x+d)-x=x+2*d by omega,Nat.add_mul,Nat.mul_add,Nat.add_mul,Nat.add_mul,Nat.mul_comm x d,Nat.mul_assoc 2]
    omega
   ·obtain ⟨d,rfl⟩:∃ d,x=r+d:=⟨x-r,by omega⟩
    have:2*r-(r+d)=r-d:=by omega
    rw [this,Nat.mul_add,Nat.sub_mul,Nat.sub_mul]
    have h7:d*r≤r*r:=Nat.mul_le_mul_right _ (by omega)
    rw [Nat.mul_comm r d]
    omega
  omega
 ·exact h
theorem newton_end {A x:Nat} (hx:isq A≤x) (h:x≤(x+A/x)/2) (h0:0<x):x=isq A:=by
 have h1:x≤A/x:=by
  generalize A/x=q at *
  omega
 have h2:x*x≤A:=(Nat.le_div_iff_mul_le h0).1 h1
 have:=isq_ge h2
 omega
theorem Wd_nat (l:List Nat):(Wd l).map Int.toNat=l:=by
 unfold Wd
 rw [List.map_map]
 have:(Int.toNat ∘ fun n:Nat=>(n:Int))=id:=by funext n; rfl
 rw [this,List.map_id]
theorem W334_eq {A x0:Nat} (hA0:A≠0) (hA:A<(2^64)^1030) (hx0:isq A≤x0) (hxb:x0<(2^64)^1030) :
  W334_7 (((Dw x0,(Dw A,())),()):P334_7.D)=some (.inl ((Dw (isq A),(Dw A,())),())):=by
 have up:∀ {x:Nat},x<(2^64)^1030→x<(2^64)^4000:=fun h=>Nat.lt_of_lt_of_le h (Nat.pow_le_pow_right (by decide) (by decide))
 have up5:∀ {x:Nat},x<(2^64)^1030→x<(2^64)^5000:=fun h=>Nat.lt_of_lt_of_le h (Nat.pow_le_pow_right (by decide) (by decide))
 have hpos:=isq_pos hA0
 have key:=lfix_ind (m334_7 S185.pre S185.F S173.pre S173.F S151.pre S151.F S186.pre S186.F S333.pre S333.F S143.pre S143.F S171.pre S171.F S324.pre S324.F S144.pre S144.F) (fun s=>nv (2^64) (s.1.1.map Int.toNat))
  (fun s=>∃ x:Nat,isq A≤x∧x<(2^64)^1030∧s=((Dw x,(Dw A,())),()))
  (fun _=>.inl ((Dw (isq A),(Dw A,())),())) ?_ ((Dw x0,(Dw A,())),()) ⟨x0,hx0,hxb,rfl⟩
 ·exact key
 intro L s hs hL
 obtain ⟨x,hx,hxb,rfl⟩:=hs
 unfold h334_7
 have hx1:0<x:=by omega
 have p0:=T333_eq (up hA) (up hxb) (by omega)
 have hd:A/x≤A:=Nat.div_le_self _ _
 have hdb:A/x<(2^64)^1030:=Nat.lt_of_le_of_lt hd hA
 have p1:=T143_dw (up5 hxb) (up5 hdb)
 have hsum:x+A/x<(2^64)^1031:=by
  rw [show (2^64)^1031=(2^64)^1030*2^64 from pow_up 1030]
  have:0<(2^64)^1030:=Nat.pow_pos (by decide)
  generalize (2^64)^1030=P at *
  omega
 have p2:=T171_eq (dg (2^64) (x+A/x)) (Dw_ws (Nat.lt_of_lt_of_le hsum (Nat.pow_le_pow_right (by decide) (by decide)))) 1 (by decide)
 rw [nv_Dw,Nat.pow_one] at p2
 have p2:T171 (Dw (x+A/x),(1:Int),())=some (Dw ((x+A/x)/2),()):=p2
 have hyb:(x+A/x)/2<(2^64)^1030:=by omega
 have p3:=T144_eq (up5 hyb) (up5 hxb)
 have hge:=newton_ge (A:=A) hx1
 dsimp only
 simp only [pre333 p0,fun333 p0,pre143 p1,fun143 p1,pre171 p2,fun171 p2,pre144 p3,fun144 p3,cond_true]
 by_cases hc:x≤(x+A/x)/2
 ·have e0:decide ((if (x+A/x)/2=x then (0:Int) else if (x+A/x)/2<x then -1 else 1)≥0)=true:=by
   rw [decide_eq_true_eq]
   split
   ·omega
   ·rw [if_neg (by omega)]; omega
  rw [e0,cond_true,newton_end hx hc hx1,newton_end (isq_ge (isq_le A)) (by rw [← newton_end hx hc hx1]; exact hc) hpos]
 ·have e0:decide ((if (x+A/x)/2=x then (0:Int) else if (x+A/x)/2<x then -1 else 1)≥0)=false:=by
   rw [decide_eq_false_iff_not]
   rw [if_neg (by omega),if_pos (by omega)]; omega
  rw [e0,cond_false]
  refine hL _ ⟨_,hge,hyb,rfl⟩ ?_
  show nv (2^64) ((Wd (dg (2^64) ((x+A/x)/2))).map Int.toNat)<nv (2^64) ((Wd (dg (2^64) x)).map Int.toNat)
  rw [Wd_nat,Wd_nat,nv_Dw,nv_Dw]
  omega
theorem T334_eq {A:Nat} (hA:A<(2^64)^1024):T334 (Dw A,())=some (Dw (isq A),decide (isq A*isq A=A),0,()):=by
 have up5:∀ {x:Nat},x<(2^64)^1024→x<(2^64)^5000:=fun h=>Nat.lt_of_lt_of_le h (Nat.pow_le_pow_right (by decide) (by decide))
 show t334 S185.pre S185.F S173.pre S173.F S151.pre S151.F S186.pre S186.F S333.pre S333.F S143.pre S143.F S171.pre S171.F S324.pre S324.F S144.pre S144.F W334_7 (Dw A)=_
 unfold t334
 have p0:=great_no (l:=[dg (2^64) A]) (by
  intro x hx
  rw [List.mem_singleton] at hx
  rw [hx]
  exact dg_len_le (by decide) _ _ hA) (by simp)
 have p0:T185 ((Dw A::[]),())=some (false,()):=p0
 have p1:=T173_dw (up5 hA)
 dsimp only
 simp only [pre185 p0,fun185 p0,pre173 p1,fun173 p1,cond_true,cond_false,Dw_len0]
 by_cases h0:A=0
 ·subst h0
  have:isq 0=0:=isq_of (by decide) (by decide)
  rw [this,Dw_zero]; rfl
 rw [decide_eq_false h0,cond_false]
 have p2:=T151_Dw (up5 hA)
 have hA':=hA
 rw [pow64_2] at hA'
 have hbl:=blen_bound hA'
 have e1:IntKind.wrap .i64 ((blen A:Int)+1)=((blen A+1:Nat):Int):=by rw [wrapI (by omega)]; omega
 have e2:quoI .i64 ((blen A+1:Nat):Int) 2=(((blen A+1)/2:Nat):Int):=quo2i _ (by omega)
 have p3:=T186_eq [1] ⟨by simp,by simp⟩ ((blen A+1)/2) (by simp [trimL]; omega)
 rw [show nv (2^64) [1]=1 by simp [nv],Nat.one_mul] at p3
 have p3:T186 (((1:Int)::[]),(((blen A+1)/2:Nat):Int),())=_:=p3
 have hge:isq A≤2^((blen A+1)/2):=by
  have h1:=isq_bound (X:=A) (k:=(blen A+1)/2) (Nat.lt_of_lt_of_le (blen_lt A) (Nat.pow_le_pow_right (by decide) (by omega)))
  omega
 have hw:=W334_eq h0 (Nat.lt_of_lt_of_le hA (Nat.pow_le_pow_right (by decide) (by decide))) hge (by
  rw [pow64_2]
  exact Nat.pow_lt_pow_right (by decide) (by omega))
 have hs:=isq_self A
 have hsA:isq A<(2^64)^1024:=Nat.lt_of_le_of_lt hs hA
 have p4:=T324_eq (up5 hsA) (up5 hsA)
 have hle:=isq_le A
 have p5:=T144_eq (up5 (Nat.lt_of_le_of_lt hle hA)) (up5 hA)
 simp only [pre151 p2,fun151 p2,e1,e2,pre186 p3,fun186 p3,cond_true]
 rw [hw]
 dsimp only [obind,obind2]
 simp only [pre324 p4,fun324 p4,pre144 p5,fun144 p5,cond_true]
 congr 3
 rw [Bool.eq_iff_iff,beq_iff_eq,decide_eq_true_eq]
 constructor
 ·intro h
  split at h
  ·assumption
  ·split at h <;> cases h
 ·intro h
  rw [if_pos h]
end VL
namespace VL
open Go Vx
noncomputable def rndM2 (f m:Int) (R:Nat) (E:Int) (more:Bool):Nat×Nat:=if more=true then rndN f m false (2*R+1) (E-1) false else rndN f m false R E false
theorem rndM2_mark {f m:Int} (hf:Fm f) {R:Nat} {E:Int} {more:Bool} (hb:more=true→fP f+2≤blen R):rndN f m false R E more=rndM2 f m R E more:=by
 unfold rndM2
 cases more
 ·rw [if_neg (by decide)]
 ·rw [if_pos rfl,rnd_more hf (hb rfl)]
theorem rndM2_cut {f m:Int} (hf:Fm f) {R k:Nat} {E:Int} {more:Bool} (hb:fP f+2≤blen (R/2^k)):rndN f m false (R/2^k) (E+k) (more||decide (R%2^k≠0))=rndM2 f m R E more:=by
 have hP:=fP_ge hf
 have h0:R/2^k≠0:=fun h=>by
  rw [h] at hb
  have:blen 0=0:=rfl
  omega
 unfold rndM2
 cases more
 ·rw [if_neg (by decide),Bool.false_or]
  exact rnd_trunc hf h0 fun _=>hb
 ·rw [if_pos rfl,Bool.true_or]
  have:=rnd_fine (f:=f) (m:=m) (neg:=false) (N:=R) (k:=k) (E:=E+k) hf hb
  rw [this,show E+(k:Int)-(k:Int)-1=E-1 by omega]
theorem rootB_M2 (f m:Int) (X:Nat) (E:Int):rndM2 f m (isq X) E (!decide (isq X*isq X=X))=rootB f m X E:=by
 unfold rndM2 rootB
 by_cases h:isq X*isq X=X
 ·rw [decide_eq_true h,if_pos h]; rfl
 ·rw [decide_eq_false h,if_neg h]; rfl
theorem two_cells {R:Nat} (hR:R<2^128) :
  ((((0:Int)::((0:Int)::[])).take (0:Nat)++(Dw R).take ((0:Int)::((0:Int)::[])).length)++(((0:Int)::((0:Int)::[])).drop ((0:Nat)+(min (Dw R).length ((0:Int)::((0:Int)::[])).length))))=((R%2^64:Nat):Int)::((R/2^64:Nat):Int)::[]:=by
 rcases Nat.eq_zero_or_pos R with rfl | h0
 ·rw [Dw_zero]; rfl
 rcases Nat.lt_or_ge R (2^64) with h | h
 ·rw [Dw_small (by omega) h,Nat.mod_eq_of_lt h,Nat.div_eq_of_lt h]; rfl
 ·have hd:Dw R=((R%2^64:Nat):Int)::((R/2^64:Nat):Int)::[]:=by
   unfold Dw
   rw [dg_pos (by decide) (by omega),dg_pos (n:=R/2^64) (by decide) (by omega),Nat.mod_eq_of_lt (a:=R/2^64) (by omega),Nat.div_eq_of_lt (a:=R/2^64) (by omega),dg_zero]; rfl
  rw [hd]; rfl
theorem T335_eq {f m:Int} (hf:Fm f) (hm:0≤m∧m≤5) {R:Nat} (h0:R≠0) (hR:R<2^20000) (E:Int) (hE:-10000≤E∧E≤10000) (more:Bool) (hmore:more=true→fP f+2≤blen R) :
  T335 (f,m,Dw R,E,more,())=some (((rndM2 f m R E more).1:Int),((rndM2 f m R E more).2:Int),0,()):=by
 show t335 S151.pre S151.F S141.pre S141.F S176.pre S176.F S144.pre S144.F S122.pre S122.F f m (Dw R) E more=_
 unfold t335
 have hPl:=fP_le hf
 have hR5:R<(2^64)^5000:=by
  rw [pow64_2]
  exact Nat.lt_of_lt_of_le hR (Nat.pow_le_pow_right (by decide) (by decide))
 have hbl:=blen_bound hR
 have p0:=T151_Dw hR5
 have e12:IntKind.wrap .i64 ((blen R:Int)-128)=(blen R:Int)-128:=wrapI (by omega)
 dsimp only
 simp only [pre151 p0,fun151 p0,cond_true,e12]
 by_cases hc:128<blen R
 ·obtain ⟨k,hk⟩:∃ k:Nat,blen R=128+k:=⟨blen R-128,by omega⟩
  have ek:(blen R:Int)-128=(k:Int):=by omega
  have e0:decide ((k:Int)>0)=true:=decide_eq_true (by omega)
  have hle:=blen_le h0
  have hlt:=blen_lt R
  have hk2:2^k≤R:=Nat.le_trans (Nat.pow_le_pow_right (by decide) (by omega)) hle
  have hb2:=blen_shift hk2
  have htop:R/2^k<2^128:=by
   rw [Nat.div_lt_iff_lt_mul (Nat.two_pow_pos k),← Nat.pow_add]
   exact Nat.lt_of_lt_of_le hlt (Nat.pow_le_pow_right (by decide) (by omega))
  have p1:=T141_eq (dg (2^64) R) (Dw_ws hR5) k (by omega)
  rw [nv_Dw] at p1
  have p1:T141 (Dw R,(k:Int),())=some (Dw (R/2^k),0,()):=p1
  have hw:R/2^k*2^k≤R:=Nat.div_mul_le_self _ _
  have ht5:R/2^k<(2^64)^5000:=Nat.lt_of_le_of_lt (Nat.div_le_self _ _) hR5
  have p2:=T176_eq (dg (2^64) (R/2^k)) (Dw_ws ht5) k (by omega) (by
   rw [nv_Dw,pow64_2]
   exact Nat.lt_of_le_of_lt hw (Nat.lt_of_lt_of_le hR (Nat.pow_le_pow_right (by decide) (by decide))))
  rw [nv_Dw] at p2
  have p2:T176 (Dw (R/2^k),(k:Int),())=some (Dw (R/2^k*2^k),0,()):=p2
  have p3:=T144_eq (Nat.lt_of_le_of_lt hw hR5) hR5
  have hne:((if R/2^k*2^k=R then (0:Int) else if R/2^k*2^k<R then -1 else 1) != 0)=decide (R%2^k≠0):=by
   have hdm:=Nat.div_add_mod R (2^k)
   rw [Nat.mul_comm] at hdm
   rw [Bool.eq_iff_iff,bne_iff_ne,decide_eq_true_eq]
   split
   ·omega
   ·split <;> omega
  have p4:=T122_eq hf hm false (R/2^k) htop (E+k) (by omega) (more||decide (R%2^k≠0)) (fun _=>by omega)
  have hq0:R/2^k≠0:=fun h=>by
   rw [h] at hb2
   have:blen 0=0:=rfl
   omega
  rw [if_neg hq0,rndM2_cut hf (by omega)] at p4
  have e5:IntKind.wrap .i64 (E+(k:Int))=E+(k:Int):=wrapI (by omega)
  have tw:=two_cells htop
  simp only [ek,e0,cond_true,pre141 p1,fun141 p1,pre176 p2,fun176 p2,pre144 p3,fun144 p3,Bool.true_or,hne,e5,tw]
  show (bif S122.pre (f,(m,(false,(Wi (R/2^k),(E+(k:Int),((more||decide (R%2^k≠0)),())))))) then some (S122.F (f,(m,(false,(Wi (R/2^k),(E+(k:Int),((more||decide (R%2^k≠0)),()))))))) else none)=_
  simp only [pre122 p4,fun122 p4,cond_true]
  rfl
 ·have e0:decide ((blen R:Int)-128>0)=false:=decide_eq_false (by omega)
  have hR128:R<2^128:=Nat.lt_of_lt_of_le (blen_lt R) (Nat.pow_le_pow_right (by decide) (by omega))
  have p4:=T122_eq hf hm false R hR128 E (by omega) more hmore
  rw [if_neg h0,rndM2_mark hf hmore] at p4
  have tw:=two_cells hR128
  simp only [e0,cond_false,tw]
  show (bif S122.pre (f,(m,(false,(Wi R,(E,(more,())))))) then some (S122.F (f,(m,(false,(Wi R,(E,(more,()))))))) else none)=_
  simp only [pre122 p4,fun122 p4,cond_true]
  rfl
end VL
namespace VL
open Go Vx
theorem T326_zero (z:Int):T326 ((0:Int),z,())=some (Dw 0,()):=by
 rw [Dw_zero]
 show t326 S325.pre S325.F S176.pre S176.F (0:Int) z=_
 rfl
def sqsum (n:Nat) (x:Int) (k:Nat) (y l:Int):Nat:=n*n*2^(2*(x-l).toNat)+k*k*2^(2*(y-l).toNat)
noncomputable def hypX (f m:Int) (n:Nat) (x:Int) (k:Nat) (y:Int):Nat×Nat:=rootB f m (sqsum n x k y (min x y)*2^200) (min x y-100)
theorem hyp_at {f m:Int} (hf:Fm f) {n k:Nat} {x y low:Int} (hS:sqsum n x k y low≠0) (d:Nat) (hd:low=min x y+d) (he:sqsum n x k y (min x y)=sqsum n x k y low*2^(2*d)) :
  rootB f m (sqsum n x k y low*2^128) (low-64)=hypX f m n x k y∧65≤blen (isq (sqsum n x k y low*2^128)):=by
 have hPl:=fP_le hf
 have hX:2^(2*64)≤sqsum n x k y low*2^128:=by
  have:=Nat.mul_le_mul_right (2^128) (show 1≤sqsum n x k y low by omega)
  rw [Nat.one_mul] at this
  exact this
 have hb:=isq_blen hX
 have h0:sqsum n x k y low*2^128≠0:=fun h=>by
  rw [h] at hX
  exact absurd hX (by decide)
 refine ⟨?_,hb⟩
 have:=rootB_fine (f:=f) (m:=m) (k:=36+d) (E:=low-64) hf h0 (by omega)
 unfold hypX
 rw [he,← this]
 have e1:sqsum n x k y low*2^(2*d)*2^200=sqsum n x k y low*2^128*(2^(36+d)*2^(36+d)):=by
  rw [Nat.mul_assoc,Nat.mul_assoc,← Nat.pow_add,← Nat.pow_add,← Nat.pow_add]
  congr 2
  omega
 rw [e1,show min x y-100=low-64-((36+d:Nat):Int) by omega]
theorem sq_bound {n:Nat} {j:Nat} (hn:n<2^53) (hj:j≤2200):n*n*2^(2*j)<2^4506:=by
 have h1:n*n<2^53*2^53:=Nat.mul_lt_mul'' hn hn
 have h2:n*n*2^(2*j)<2^53*2^53*2^(2*j):=Nat.mul_lt_mul_of_pos_right h1 (Nat.two_pow_pos _)
 rw [← Nat.pow_add,← Nat.pow_add] at h2
 exact Nat.lt_of_lt_of_le h2 (Nat.pow_le_pow_right (by decide) (by omega))
theorem sqsum_bound {n k:Nat} {x y l:Int} (hn:n<2^53) (hk:k<2^53) (hx:x-l≤2200) (hy:y-l≤2200):sqsum n x k y l<2^4507:=by
 have h1:=sq_bound (j:=(x-l).toNat) hn (by omega)
 have h2:=sq_bound (j:=(y-l).toNat) hk (by omega)
 unfold sqsum
 rw [Nat.pow_succ]
 omega
noncomputable def hypF (f m:Int) (a b:Nat):Int×Int×Int×Unit :=
 if chkL f m [a,b]≠0 then (0,0,chkL f m [a,b],())
 else bif snan f a||snan f b then ((nanF f:Int),1,0,())
 else bif isInf f a||isInf f b then ((infB f false:Int),0,0,())
 else bif nan f a||nan f b then ((nanF f:Int),0,0,())
 else bif zro f a&&zro f b then ((sgnF f false:Int),0,0,())
 else (((hypX f m (mant f a) (xpn f a) (mant f b) (xpn f b)).1:Int),((hypX f m (mant f a) (xpn f a) (mant f b) (xpn f b)).2:Int),0,())
theorem xpn_tight {f:Int} (hf:Fm f) (a:Nat):-1100≤xpn f a∧xpn f a≤1100:=by
 have h1:=e_le (f:=f) a
 have e:fullF f=2*fX f+1:=by unfold fullF; rw [← fX_eq hf]
 have h2:=fX_le hf
 have h3:=fP_le hf
 have h4:=fP_ge hf
 unfold xpn
 split <;> omega
theorem zro_mantB (f:Int) (a:Nat):((mant f a:Int)==0)=zro f a:=by
 cases hz:zro f a
 ·exact beq0_f _ (zro_mant hz)
 ·unfold zro at hz
  rw [Bool.and_eq_true,beq_iff_eq,beq_iff_eq] at hz
  unfold mant
  rw [if_pos hz.1,hz.2]; rfl
theorem hyp_run {f m:Int} (hf:Fm f) (hm:0≤m∧m≤5) {n k:Nat} {x y low:Int} (hn:n<2^53) (hk:k<2^53) (hx:-1100≤x∧x≤1100) (hy:-1100≤y∧y≤1100) (hl:-1100≤low∧low≤1100)
  (hS:sqsum n x k y low≠0) (d:Nat) (hd:low=min x y+d) (he:sqsum n x k y (min x y)=sqsum n x k y low*2^(2*d))
  (h1:T326 ((n:Int),x-low,())=some (Dw (n*n*2^(2*(x-low).toNat)),())) (h2:T326 ((k:Int),y-low,())=some (Dw (k*k*2^(2*(y-low).toNat)),())) :
  T143 (Dw (n*n*2^(2*(x-low).toNat)),Dw (k*k*2^(2*(y-low).toNat)),())=some (Dw (sqsum n x k y low),()) ∧
  T176 (Dw (sqsum n x k y low),(128:Int),())=some (Dw (sqsum n x k y low*2^128),0,()) ∧
  T334 (Dw (sqsum n x k y low*2^128),())=some (Dw (isq (sqsum n x k y low*2^128)),decide (isq (sqsum n x k y low*2^128)*isq (sqsum n x k y low*2^128)=sqsum n x k y low*2^128),0,()) ∧
  T335 (f,m,Dw (isq (sqsum n x k y low*2^128)),low-64,!decide (isq (sqsum n x k y low*2^128)*isq (sqsum n x k y low*2^128)=sqsum n x k y low*2^128),())=some (((hypX f m n x k y).1:Int),((hypX f m n x k y).2:Int),0,()) ∧
  IntKind.wrap .i64 (low-64)=low-64∧IntKind.wrap .i64 (x-low)=x-low∧IntKind.wrap .i64 (y-low)=y-low:=by
 have hPl:=fP_le hf
 have up5:∀ {z j:Nat},z<2^j→j≤65536→z<(2^64)^5000:=fun h hj=>by
  rw [pow64_2]
  exact Nat.lt_of_lt_of_le h (Nat.pow_le_pow_right (by decide) (by omega))
 have b1:=sq_bound (j:=(x-low).toNat) hn (by omega)
 have b2:=sq_bound (j:=(y-low).toNat) hk (by omega)
 have bs:=sqsum_bound (x:=x) (y:=y) (l:=low) hn hk (by omega) (by omega)
 have bs2:sqsum n x k y low*2^128<2^4635:=by
  have:sqsum n x k y low*2^128<2^4507*2^128:=Nat.mul_lt_mul_of_pos_right bs (Nat.two_pow_pos _)
  rw [← Nat.pow_add] at this
  exact this
 obtain ⟨r1,r2⟩:=hyp_at (m:=m) hf hS d hd he
 have p1:=T143_dw (up5 (j:=4506) b1 (by decide)) (up5 (j:=4506) b2 (by decide))
 have p2:=T176_eq (dg (2^64) (sqsum n x k y low)) (Dw_ws (up5 (j:=4507) bs (by decide))) 128 (by decide) (by
  rw [nv_Dw,pow64_2]
  exact Nat.lt_of_lt_of_le bs2 (Nat.pow_le_pow_right (by decide) (by decide)))
 rw [nv_Dw] at p2
 have p3:=T334_eq (A:=sqsum n x k y low*2^128) (by
  rw [pow64_2]
  exact Nat.lt_of_lt_of_le bs2 (Nat.pow_le_pow_right (by decide) (by decide)))
 have hi:=isq_self (sqsum n x k y low*2^128)
 have hi0:isq (sqsum n x k y low*2^128)≠0:=fun h=>by
  rw [h] at r2
  have:blen 0=0:=rfl
  omega
 have p4:=T335_eq hf hm hi0 (Nat.lt_of_le_of_lt hi (Nat.lt_of_lt_of_le bs2 (Nat.pow_le_pow_right (by decide) (by decide)))) (low-64) (by omega) (!decide (isq (sqsum n x k y low*2^128)*isq (sqsum n x k y low*2^128)=sqsum n x k y low*2^128)) (fun _=>by omega)
 rw [rootB_M2,r1] at p4
 exact ⟨p1,p2,p3,p4,wrapI (by omega),wrapI (by omega),wrapI (by omega)⟩
theorem sqsum_at {n k:Nat} {x y:Int} (h:n≠0∨k≠0):sqsum n x k y (min x y)≠0:=by
 unfold sqsum
 rcases h with h | h
 ·have:n*n*2^(2*(x-min x y).toNat)≠0:=Nat.mul_ne_zero (Nat.mul_ne_zero h h) (Nat.ne_of_gt (Nat.two_pow_pos _))
  omega
 ·have:k*k*2^(2*(y-min x y).toNat)≠0:=Nat.mul_ne_zero (Nat.mul_ne_zero h h) (Nat.ne_of_gt (Nat.two_pow_pos _))
  omega
theorem T336_eq (f m:Int) {a b:Nat} (ha:a<2^64) (hb:b<2^64):T336 (f,m,(a:Int),(b:Int),())=some (hypF f m a b):=by
 show t336 S311.pre S311.F S65.pre S65.F S323.pre S323.F S97.pre S97.F S70.pre S70.F S313.pre S313.F S118.pre S118.F S326.pre S326.F S143.pre S143.F S176.pre S176.F S334.pre S334.F S335.pre S335.F f m a b=_
 unfold t336 hypF
 rw [show ((a:Int)::(b:Int)::[])=Wd [a,b] from rfl]
 by_cases hf:Fm f
 case neg =>
  have p0:=T311_bad (m:=m) hf [a,b]
  have e0:chkL f m [a,b]=2:=by unfold chkL; rw [if_pos hf]
  rw [e0]
  simp only [pre311 p0,fun311 p0,cond_true]
  rfl
 have p0:=T311_ok (m:=m) hf [a,b] (fun c hc=>by
  rcases List.mem_cons.1 hc with rfl | hc
  ·exact ha
  ·rw [List.mem_singleton] at hc; omega) (show (2:Nat)<1000 by decide)
 by_cases hk:chkL f m [a,b]≠0
 ·rw [if_pos hk]
  have:(chkL f m [a,b] != 0)=true:=bne_iff_ne.2 hk
  simp only [pre311 p0,fun311 p0,cond_true,this]
 have hk:chkL f m [a,b]=0:=Classical.not_not.1 hk
 obtain ⟨_,hm,hc⟩:=chkL_zero hk
 have h:=hc a (by simp)
 have h':=hc b (by simp)
 rw [if_neg (show ¬ chkL f m [a,b]≠0 from fun h=>h hk)]
 rw [hk] at p0
 have p1:=T65_ok ha h
 have p2:=T65_ok hb h'
 have t323:∀ c:Int,T323 (c,())=some ((c==2||c==9),()):=fun c=>rfl
 have p3:=t323 (cls f a)
 have p4:=t323 (cls f b)
 rw [cls_isInf] at p3 p4
 simp only [pre311 p0,fun311 p0,cond_true,bne_self_eq_false,cond_false,pre65 p1,fun65 p1,pre65 p2,fun65 p2,cls_snan,pre323 p3,fun323 p3,pre323 p4,fun323 p4,Bool.true_or,pre70 (T70_ok hf),fun70 (T70_ok hf),pre97 (T97_ok hf _),fun97 (T97_ok hf _),pre118 (T118_ok hf _),fun118 (T118_ok hf _)]
 cases hs:snan f a||snan f b
 case true=>rfl
 simp only [cond_false]
 cases hi:isInf f a||isInf f b
 case true=>rfl
 simp only [cond_false]
 rw [Bool.or_eq_false_iff] at hs
 have n1:(cls f a==1)=nan f a:=by
  have:=cls_nan f a
  rw [cls_snan,hs.1,Bool.or_false] at this
  exact this
 have n2:(cls f b==1)=nan f b:=by
  have:=cls_nan f b
  rw [cls_snan,hs.2,Bool.or_false] at this
  exact this
 rw [n1,n2]
 cases hn:nan f a||nan f b
 case true=>rfl
 simp only [cond_false]
 have q1:=T313_eq h
 have q2:=T313_eq h'
 simp only [pre313 q1,fun313 q1,pre313 q2,fun313 q2,cond_true,zro_mantB]
 cases hz:zro f a&&zro f b
 case true=>rfl
 simp only [cond_false]
 have hn53:=mant_lt hf a
 have hk53:=mant_lt hf b
 have hx:=xpn_tight hf a
 have hy:=xpn_tight hf b
 have sq:∀ (n:Nat) (z:Int),n<2^53→0≤z∧z≤2200→T326 ((n:Int),z,())=some (Dw (n*n*2^(2*z.toNat)),()):=fun n z hn hz=>by
  obtain ⟨j,rfl⟩:=Int.eq_ofNat_of_zero_le hz.1
  exact T326_eq (Nat.lt_trans hn (by decide)) (by omega)
 have sq0:∀ (n:Nat) (z:Int),n=0→T326 ((n:Int),z,())=some (Dw (n*n*2^(2*z.toNat)),()):=fun n z hn=>by
  subst hn
  have e0:0*0*2^(2*z.toNat)=0:=by simp
  rw [e0]
  exact T326_zero z
 have mz:∀ c:Nat,zro f c=true→mant f c=0:=fun c hc=>by
  have:=zro_mantB f c
  rw [hc,beq_iff_eq] at this
  omega
 cases hza:zro f a
 ·have hna:=zro_mant hza
  cases hzb:zro f b
  ·have hkb:=zro_mant hzb
   simp only [cond_false]
   have em:(if xpn f b<xpn f a then xpn f b else xpn f a)=min (xpn f a) (xpn f b):=by
    rw [Int.min_def]
    split <;> split <;> omega
   have s1:=sq (mant f a) (xpn f a-min (xpn f a) (xpn f b)) hn53 (by omega)
   have s2:=sq (mant f b) (xpn f b-min (xpn f a) (xpn f b)) hk53 (by omega)
   obtain ⟨r1,r2,r3,r4,r5,r6,r7⟩:=hyp_run hf hm hn53 hk53 (by omega) (by omega) (by omega) (sqsum_at (.inl hna)) 0 (by omega) (by rw [Nat.mul_zero,Nat.pow_zero,Nat.mul_one]) s1 s2
   simp only [em,r5,r6,r7,pre326 s1,fun326 s1,pre326 s2,fun326 s2,pre143 r1,fun143 r1,pre176 r2,fun176 r2,pre334 r3,fun334 r3,pre335 r4,fun335 r4,cond_true]
  ·have hk0:=mz b hzb
   simp only [cond_false,cond_true]
   have s1:=sq (mant f a) (xpn f a-xpn f a) hn53 (by omega)
   have s2:=sq0 (mant f b) (xpn f b-xpn f a) hk0
   obtain ⟨j,hj⟩:=Int.eq_ofNat_of_zero_le (show 0≤xpn f a-min (xpn f a) (xpn f b) by omega)
   have he:sqsum (mant f a) (xpn f a) (mant f b) (xpn f b) (min (xpn f a) (xpn f b))=sqsum (mant f a) (xpn f a) (mant f b) (xpn f b) (xpn f a)*2^(2*j):=by
    unfold sqsum
    rw [hk0,hj,Int.toNat_natCast,Int.sub_self]
    simp
   have hS:sqsum (mant f a) (xpn f a) (mant f b) (xpn f b) (xpn f a)≠0:=fun h=>by
    rw [h,Nat.zero_mul] at he
    exact sqsum_at (.inl hna) he
   obtain ⟨r1,r2,r3,r4,r5,r6,r7⟩:=hyp_run hf hm hn53 hk53 (by omega) (by omega) (by omega) hS j (by omega) he s1 s2
   simp only [r5,r6,r7,pre326 s1,fun326 s1,pre326 s2,fun326 s2,pre143 r1,fun143 r1,pre176 r2,fun176 r2,pre334 r3,fun334 r3,pre335 r4,fun335 r4,cond_true]
 ·have hn0:=mz a hza
  rw [hza,Bool.true_and] at hz
  have hkb:=zro_mant hz
  simp only [cond_false,cond_true,hz]
  have s1:=sq0 (mant f a) (xpn f a-xpn f b) hn0
  have s2:=sq (mant f b) (xpn f b-xpn f b) hk53 (by omega)
  obtain ⟨j,hj⟩:=Int.eq_ofNat_of_zero_le (show 0≤xpn f b-min (xpn f a) (xpn f b) by omega)
  have he:sqsum (mant f a) (xpn f a) (mant f b) (xpn f b) (min (xpn f a) (xpn f b))=sqsum (mant f a) (xpn f a) (mant f b) (xpn f b) (xpn f b)*2^(2*j):=by
   unfold sqsum
   rw [hn0,hj,Int.toNat_natCast,Int.sub_self]
   simp
  have hS:sqsum (mant f a) (xpn f a) (mant f b) (xpn f b) (xpn f b)≠0:=fun h=>by
   rw [h,Nat.zero_mul] at he
   exact sqsum_at (.inr hkb) he
  obtain ⟨r1,r2,r3,r4,r5,r6,r7⟩:=hyp_run hf hm hn53 hk53 (by omega) (by omega) (by omega) hS j (by omega) he s1 s2
  simp only [r5,r6,r7,pre326 s1,fun326 s1,pre326 s2,fun326 s2,pre143 r1,fun143 r1,pre176 r2,fun176 r2,pre334 r3,fun334 r3,pre335 r4,fun335 r4,cond_true]
end VL
namespace VL
open Go Vx
theorem isq_fix1:isq (1024*2*2^200)=57367317478181007276781504744917:=isq_of (by decide +kernel) (by decide +kernel)
theorem isq_fix2:isq (6553600*2^200)=2560*2^100:=isq_of (by decide +kernel) (by decide +kernel)
theorem chkL_ok {f m:Int} {l:List Nat} (hf:Fm f) (hm:0≤m∧m≤5) (hl:okL f l=true):chkL f m l=0:=by
 unfold chkL
 rw [if_neg (show ¬ ¬ Fm f from fun h=>h hf),if_neg (by omega),hl]; rfl
theorem Fm0:Fm 0:=⟨by decide,by decide⟩
theorem fix_sqrt:sqrtF 0 0 16384=(15784,16,0,()):=by
 unfold sqrtF
 have e0:chkL 0 0 [16384]=0:=chkL_ok Fm0 (by decide) (by decide +kernel)
 have e1:nan 0 16384=false:=by decide +kernel
 have e2:(sF 0 16384&&!zro 0 16384)=false:=by decide +kernel
 have e3:(zro 0 16384||isInf 0 16384)=false:=by decide +kernel
 have e4:mant 0 16384=1024:=by decide +kernel
 have e5:xpn 0 16384=-9:=by decide +kernel
 rw [if_neg (by rw [e0]; decide),e1,e2,e3,e4,e5]
 have e6:rootX 0 0 1024 (-9)=(15784,16):=by
  unfold rootX rootB
  rw [if_pos (by decide),isq_fix1,if_neg (by decide +kernel)]
  decide +kernel
 rw [e6]; rfl
theorem fix_hyp:hypF 0 0 16896 50176=(17664,0,0,()):=by
 unfold hypF
 have e0:chkL 0 0 [16896,50176]=0:=chkL_ok Fm0 (by decide) (by decide +kernel)
 have e1:(snan 0 16896||snan 0 50176)=false:=by decide +kernel
 have e2:(isInf 0 16896||isInf 0 50176)=false:=by decide +kernel
 have e3:(nan 0 16896||nan 0 50176)=false:=by decide +kernel
 have e4:(zro 0 16896&&zro 0 50176)=false:=by decide +kernel
 have m1:mant 0 16896=1536:=by decide +kernel
 have x1:xpn 0 16896=-9:=by decide +kernel
 have m2:mant 0 50176=1024:=by decide +kernel
 have x2:xpn 0 50176=-8:=by decide +kernel
 rw [if_neg (by rw [e0]; decide),e1,e2,e3,e4,m1,m2,x1,x2]
 have e6:hypX 0 0 1536 (-9) 1024 (-8)=(17664,0):=by
  unfold hypX rootB
  have e7:sqsum 1536 (-9) 1024 (-8) (min (-9) (-8))=6553600:=by decide +kernel
  rw [e7,isq_fix2,if_pos (by decide +kernel)]
  decide +kernel
 rw [e6]; rfl
theorem T337_true:T337 ()=some (true,()):=by
 show t337 S318.pre S318.F S336.pre S336.F=_
 unfold t337
 have p1:=T318_eq 0 0 (a:=16384) (by decide)
 have p2:=T336_eq 0 0 (a:=16896) (b:=50176) (by decide) (by decide)
 rw [fix_sqrt] at p1
 rw [fix_hyp] at p2
 have p1:T318 ((0:Int),((0:Int),((16384:Int),())))=_:=p1
 have p2:T336 ((0:Int),((0:Int),((16896:Int),((50176:Int),()))))=_:=p2
 dsimp only
 simp only [pre318 p1,fun318 p1,pre336 p2,fun336 p2,cond_true]
 rfl
end VL
namespace VL
open Go Vx
def muE (f m:Int) (neg:Bool) (d n:Nat):Nat:=(blen n-fP f-d)*2^(fP f-1)+cutJ m neg n (blen n-fP f-d+d)
theorem quo_top {f:Int} (hf:Fm f) (d n:Nat):n/2^(blen n-fP f-d+d)<2^fP f:=by
 rw [Nat.div_lt_iff_lt_mul (Nat.two_pow_pos _),← Nat.pow_add]
 exact Nat.lt_of_lt_of_le (blen_lt n) (Nat.pow_le_pow_right (by decide) (by omega))
theorem quo_low {f:Int} (hf:Fm f) {d n:Nat} (h0:n≠0) (hJ:fP f+d≤blen n):2^(fP f-1)≤n/2^(blen n-fP f-d+d):=by
 have hP:=fP_ge hf
 rw [Nat.le_div_iff_mul_le (Nat.two_pow_pos _),← Nat.pow_add]
 exact Nat.le_trans (Nat.pow_le_pow_right (by decide) (by omega)) (blen_le h0)
theorem rndM_muE {f:Int} (hf:Fm f) (m:Int) (neg:Bool) {n:Nat} (h0:n≠0) (d:Nat) :
  rndM f m neg n (qm f-d)=if infF f≤muE f m neg d n then (limM f m neg,20) else (muE f m neg d n,if clsR (n%2^(blen n-fP f-d+d)) (blen n-fP f-d+d)=0 then 0 else if isTiny f m neg n (qm f-d) false then 24 else 16):=by
 have hP:=fP_ge hf
 have hX:=fX_ge hf
 have h2p:=two_P hf
 have hpp:=Nat.two_pow_pos (fP f-1)
 have hinf:=inf_ge hf
 have hb1:=blen_pos h0
 have htop:topE n (qm f-d)=qm f-d+(blen n:Int)-1:=rfl
 have hqm:qm f=1-(fX f:Int)-(fP f:Int)+1:=rfl
 have hqt:=quo_top hf d n
 have hql:=quo_low hf (d:=d) h0
 have hlow:lowE f (topE n (qm f-d))=qm f+((blen n-fP f-d:Nat):Int):=by unfold lowE; split <;> omega
 obtain ⟨hc1,hc2⟩:=cutJ_bound m neg n (blen n-fP f-d+d)
 have hcr:cutR n (qm f-d) (qm f+((blen n-fP f-d:Nat):Int)) false=clsR (n%2^(blen n-fP f-d+d)) (blen n-fP f-d+d):=by
  rw [cutR_f]
  rcases Nat.eq_zero_or_pos (blen n-fP f-d+d) with hz | hz
  ·rw [rstE_lo (by omega),hz,Nat.pow_zero,Nat.mod_one]; rfl
  ·rw [rstE_hi (by omega),show (qm f+((blen n-fP f-d:Nat):Int)-(qm f-d)).toNat=blen n-fP f-d+d by omega]
 have hcn:cutN m neg n (qm f-d) (qm f+((blen n-fP f-d:Nat):Int)) false=cutJ m neg n (blen n-fP f-d+d):=by
  have hqe:quoE n (qm f-d) (qm f+((blen n-fP f-d:Nat):Int))=n/2^(blen n-fP f-d+d):=by
   rcases Nat.eq_zero_or_pos (blen n-fP f-d+d) with hz | hz
   ·rw [quoE_lo (by omega),hz,show (qm f-(d:Int)-(qm f+((blen n-fP f-d:Nat):Int))).toNat=0 by omega,Nat.pow_zero,Nat.mul_one,Nat.div_one]
   ·rw [quoE_hi (by omega),show (qm f+((blen n-fP f-d:Nat):Int)-(qm f-d)).toNat=blen n-fP f-d+d by omega]
  unfold cutN cutJ
  rw [hcr,hqe]
 unfold rndM
 rw [hlow]
 dsimp only
 rw [hcn,hcr,show (qm f+((blen n-fP f-d:Nat):Int)-(1-(fX f:Int)-(fP f:Int)+1)).toNat=blen n-fP f-d by omega]
 have hmu:muE f m neg d n=(blen n-fP f-d)*2^(fP f-1)+cutJ m neg n (blen n-fP f-d+d):=rfl
 rw [hmu]
 have hJd:fP f+d≤blen n∨blen n-fP f-d=0:=by omega
 have hJb:(blen n:Int)-fP f-d≤((blen n-fP f-d:Nat):Int):=by omega
 have hJe:fP f+d≤blen n→(blen n:Int)=fP f+d+((blen n-fP f-d:Nat):Int):=by omega
 generalize cutJ m neg n (blen n-fP f-d+d)=u at *
 generalize n/2^(blen n-fP f-d+d)=Q at *
 generalize clsR (n%2^(blen n-fP f-d+d)) (blen n-fP f-d+d)=c at *
 generalize blen n-fP f-d=j at *
 by_cases ht:topE n (qm f-d)>fX f
 ·have hj2:2*fX f+1≤j+1:=by omega
  have:=Nat.mul_le_mul_right (2^(fP f-1)) hj2
  rw [Nat.add_mul j,Nat.one_mul] at this
  have hql:=hql (by omega)
  rw [if_pos ht,if_pos (show infF f≤j*2^(fP f-1)+u by omega)]
  rfl
 ·rw [if_neg ht]
  have hj0:j+1≤2*fX f:=by
   rcases hJd with h | h
   ·have:=hJe h; omega
   ·omega
  rcases Nat.lt_or_ge u (2^fP f) with hu | hu
  ·have hbu:=blen_bound hu
   have hj2:j+2≤2*fX f+1:=by omega
   have:=Nat.mul_le_mul_right (2^(fP f-1)) hj2
   rw [Nat.add_mul] at this
   rw [if_neg (show ¬ qm f+(j:Int)+(blen u:Int)-1>fX f by omega),if_neg (show ¬ infF f≤j*2^(fP f-1)+u by omega)]
  ·have hbu:=blen_ge hu
   have hbu2:=blen_bound (n:=u) (k:=fP f+1) (by rw [Nat.pow_succ]; omega)
   by_cases hj2:j+3≤2*fX f+1
   ·have:=Nat.mul_le_mul_right (2^(fP f-1)) hj2
    rw [Nat.add_mul] at this
    rw [if_neg (show ¬ qm f+(j:Int)+(blen u:Int)-1>fX f by omega),if_neg (show ¬ infF f≤j*2^(fP f-1)+u by omega)]
   ·have hj3:2*fX f+1≤j+2:=by omega
    have:=Nat.mul_le_mul_right (2^(fP f-1)) hj3
    rw [Nat.add_mul j] at this
    rw [if_pos (show qm f+(j:Int)+(blen u:Int)-1>fX f by omega),if_pos (show infF f≤j*2^(fP f-1)+u by omega)]
    rfl
theorem muE_mono {f m:Int} (hf:Fm f) (hm:0≤m∧m≤5) (neg:Bool) (d:Nat) {n k:Nat} (h:n≤k):muE f m neg d n≤muE f m neg d k:=by
 have h2p:=two_P hf
 have hb:=blen_mono h
 unfold muE
 rcases Nat.lt_or_ge (blen n-fP f-d) (blen k-fP f-d) with hlt | hge
 ·have hc:=cutJ_bound m neg n (blen n-fP f-d+d)
  have hc':=cutJ_bound m neg k (blen k-fP f-d+d)
  have hq:=quo_top hf d n
  have hk0:k≠0:=fun hk=>by
   rw [hk] at hlt
   have:blen 0=0:=rfl
   omega
  have hq':=quo_low hf (d:=d) hk0 (by omega)
  have:=Nat.mul_le_mul_right (2^(fP f-1)) hlt
  rw [Nat.succ_eq_add_one,Nat.add_mul] at this
  omega
 ·have he:blen n-fP f-d=blen k-fP f-d:=by omega
  rw [he]
  have:=cutJ_mono hm neg (j:=blen k-fP f-d+d) h
  omega
theorem rndM_mono {f m:Int} (hf:Fm f) (hm:0≤m∧m≤5) (neg:Bool) (d:Nat) {n k:Nat} (h0:n≠0) (h:n≤k):(rndM f m neg n (qm f-d)).1≤(rndM f m neg k (qm f-d)).1:=by
 rw [rndM_muE hf m neg h0,rndM_muE hf m neg (by omega)]
 have hmm:=muE_mono hf hm neg d h
 have hp:=infF_pos hf
 unfold limM
 by_cases h1:infF f≤muE f m neg d n
 ·rw [if_pos h1,if_pos (show infF f≤muE f m neg d k by omega)]
  exact Nat.le_refl _
 ·rw [if_neg h1]
  by_cases h2:infF f≤muE f m neg d k
  ·rw [if_pos h2]
   dsimp only
   split <;> omega
  ·rw [if_neg h2]
   exact hmm
def pv (f:Int) (x:Nat):Nat:=mant f x*2^(xpn f x-qm f).toNat
theorem pv_form {f:Int} (hf:Fm f) {J u:Nat} (hx:J*2^(fP f-1)+u≤infF f) (hu:u≤2^fP f) (hl:J=0∨2^(fP f-1)≤u):pv f (J*2^(fP f-1)+u)=u*2^J:=by
 have h2p:=two_P hf
 have hpp:=Nat.two_pow_pos (fP f-1)
 have hlt:=infF_lt hf
 have habs:absF f (J*2^(fP f-1)+u)=J*2^(fP f-1)+u:=Nat.mod_eq_of_lt (by omega)
 have hE:=eF_abs hf (J*2^(fP f-1)+u)
 have hM:=mF_abs hf (J*2^(fP f-1)+u)
 rw [habs] at hE hM
 have hd:∀ K v:Nat,v<2^(fP f-1)→J*2^(fP f-1)+u=K*2^(fP f-1)+v→eF f (J*2^(fP f-1)+u)=K∧mF f (J*2^(fP f-1)+u)=v:=fun K v hv he=>by
  rw [hE,hM,he,Nat.mul_comm K]
  exact ⟨by rw [Nat.mul_add_div hpp,Nat.div_eq_of_lt hv,Nat.add_zero],by rw [Nat.mul_add_mod,Nat.mod_eq_of_lt hv]⟩
 unfold pv mant xpn
 rcases Nat.lt_or_ge u (2^(fP f-1)) with h1 | h1
 ·have hJ:J=0:=by omega
  obtain ⟨a1,a2⟩:=hd 0 u h1 (by rw [hJ])
  rw [if_pos a1,if_pos a1,a2,hJ]
  unfold qm
  rw [Int.add_zero,Int.sub_self]; rfl
 ·rcases Nat.lt_or_ge u (2^fP f) with h3 | h3
  ·obtain ⟨a1,a2⟩:=hd (J+1) (u-2^(fP f-1)) (by omega) (by rw [Nat.add_mul]; omega)
   rw [if_neg (by omega),if_neg (by omega),a1,a2,Nat.sub_add_cancel h1]
   unfold qm
   congr 2
   omega
  ·have hu2:u=2^fP f:=by omega
   obtain ⟨a1,a2⟩:=hd (J+2) 0 hpp (by rw [Nat.add_mul]; omega)
   rw [if_neg (by omega),if_neg (by omega),a1,a2,Nat.zero_add,hu2,h2p]
   unfold qm
   rw [show (1-(fX f:Int)-(fP f:Int)+1+(((J+2:Nat):Int)-1)-(1-(fX f:Int)-(fP f:Int)+1)).toNat=J+1 by omega,Nat.pow_succ,Nat.mul_comm (2^J) 2,← Nat.mul_assoc,Nat.mul_comm _ 2]
def rndOk (f m:Int) (d n B:Nat) (inex:Bool) (r:Nat×Nat):Prop :=
 (r.1=B∨(inex=true∧r.1=B+1))∧(m=4→r.1=B)∧(m=3→r.1=B+(bif inex then 1 else 0))∧(inex=false→r.2=0)∧(inex=true→r.2=16∨r.2=20∨(r.2=24∧blen n<fP f+d))∧(r.1=infF f→r.2=20)∧(r.2=20→infF f≤B+1)
theorem rnd_floor {f:Int} (hf:Fm f) {n:Nat} (h0:n≠0) (d:Nat) :
  ∃ (B:Nat) (inex:Bool),B<infF f∧pv f B*2^d≤n∧(n<pv f (B+1)*2^d∨B+1=infF f)∧(B+1<infF f∨2^(fP f+2*fX f-2+d)≤n)∧inex=decide (pv f B*2^d≠n) ∧
   ∀ m,0≤m∧m≤5→rndOk f m d n B inex (rndM f m false n (qm f-d)):=by
 have hp:=infF_pos hf
 have h2p:=two_P hf
 have hP:=fP_ge hf
 have hX:=fX_ge hf
 have hpp:=Nat.two_pow_pos (fP f-1)
 have hinf:=inf_ge hf
 have hqt:=quo_top hf d n
 have hql:=quo_low hf (d:=d) h0
 have hdm:=Nat.div_add_mod n (2^(blen n-fP f-d+d))
 have hml:=Nat.mod_lt n (Nat.two_pow_pos (blen n-fP f-d+d))
 have hJd:fP f+d≤blen n∨blen n-fP f-d=0:=by omega
 have hcl:=clsR_le (n%2^(blen n-fP f-d+d)) (blen n-fP f-d+d)
 have hcl0:clsR (n%2^(blen n-fP f-d+d)) (blen n-fP f-d+d)=0↔n%2^(blen n-fP f-d+d)=0:=by
  unfold clsR
  split
  ·simp [*]
  ·split
   ·simp [*]
   ·split <;> simp [*]
 have hmuE:∀ m,muE f m false d n=(blen n-fP f-d)*2^(fP f-1)+cutJ m false n (blen n-fP f-d+d):=fun _=>rfl
 have hrnd:=fun m=>rndM_muE hf m false h0 d
 have htiny:∀ m,isTiny f m false n (qm f-d) false→blen n<fP f+d:=fun m h=>by
  have h1:=h.1
  unfold topE qm at h1
  omega
 have hcut:∀ m,cutJ m false n (blen n-fP f-d+d)=if clsR (n%2^(blen n-fP f-d+d)) (blen n-fP f-d+d)≠0∧furM m false (decide (n/2^(blen n-fP f-d+d)%2=1)) (clsR (n%2^(blen n-fP f-d+d)) (blen n-fP f-d+d))=true then n/2^(blen n-fP f-d+d)+1 else n/2^(blen n-fP f-d+d):=fun _=>rfl
 have hpow:2^(blen n-fP f-d+d)=2^(blen n-fP f-d)*2^d:=Nat.pow_add ..
 generalize clsR (n%2^(blen n-fP f-d+d)) (blen n-fP f-d+d)=c at *
 generalize n%2^(blen n-fP f-d+d)=rr at *
 generalize n/2^(blen n-fP f-d+d)=Q at *
 by_cases hB:infF f≤(blen n-fP f-d)*2^(fP f-1)+Q
 ·-- beyond the end
  have hj:2*fX f≤blen n-fP f-d:=by
   rcases Nat.lt_or_ge (blen n-fP f-d) (2*fX f) with h | h
   ·have:=Nat.mul_le_mul_right (2^(fP f-1)) (show blen n-fP f-d+2≤2*fX f+1 by omega)
    rw [Nat.add_mul] at this
    omega
   ·exact h
  have hq:=hql (by omega)
  have hform:=pv_form hf (J:=2*fX f-1) (u:=2^fP f-1) (by
   have:=Nat.mul_le_mul_right (2^(fP f-1)) (show 2*fX f-1+2≤2*fX f+1 by omega)
   rw [Nat.add_mul] at this
   omega) (by omega) (.inr (by omega))
  have hBe:infF f-1=(2*fX f-1)*2^(fP f-1)+(2^fP f-1):=by
   have:(2*fX f+1)*2^(fP f-1)=(2*fX f-1)*2^(fP f-1)+2*2^(fP f-1):=by rw [← Nat.add_mul]; congr 1; omega
   omega
  rw [← hBe] at hform
  have hn:2^(fP f+2*fX f-1+d)≤n:=by
   have h1:2^(fP f-1)*2^(2*fX f+d)≤Q*2^(blen n-fP f-d+d):=Nat.mul_le_mul hq (Nat.pow_le_pow_right (by decide) (by omega))
   rw [← Nat.pow_add,show fP f-1+(2*fX f+d)=fP f+2*fX f-1+d by omega,Nat.mul_comm Q] at h1
   omega
  have hlt:pv f (infF f-1)*2^d<n:=by
   have h1:(2^fP f-1)*2^(2*fX f-1)*2^d<2^fP f*2^(2*fX f-1)*2^d :=
    Nat.mul_lt_mul_of_pos_right (Nat.mul_lt_mul_of_pos_right (by omega) (Nat.two_pow_pos _)) (Nat.two_pow_pos _)
   rw [← Nat.pow_add,← Nat.pow_add,show fP f+(2*fX f-1)+d=fP f+2*fX f-1+d by omega] at h1
   rw [hform]
   omega
  refine ⟨infF f-1,true,by omega,by omega,.inr (by omega),.inr ?_,?_,fun m hm=>?_⟩
  ·exact Nat.le_trans (Nat.pow_le_pow_right (by decide) (by omega)) hn
  ·rw [decide_eq_true (by omega)]
  ·have hc:Q≤cutJ m false n (blen n-fP f-d+d):=by
    rw [hcut]; split <;> omega
   rw [hrnd,hmuE,if_pos (by omega)]
   refine ⟨?_,?_,?_,fun h=>(by cases h),fun _=>.inr (.inl rfl),fun _=>rfl,fun _=>by omega⟩
   ·unfold limM; split
    ·exact .inr ⟨rfl,by dsimp only; omega⟩
    ·exact .inl rfl
   ·rintro rfl; rfl
   ·rintro rfl
    show infF f=infF f-1+1
    omega
 ·-- within
  have hform:=pv_form hf (J:=blen n-fP f-d) (u:=Q) (by omega) (by omega) (by
   rcases hJd with h | h
   ·exact .inr (hql h)
   ·exact .inl h)
  have hform1:=pv_form hf (J:=blen n-fP f-d) (u:=Q+1) (by omega) (by omega) (by
   rcases hJd with h | h
   ·have:=hql h; exact .inr (by omega)
   ·exact .inl h)
  have hv:pv f ((blen n-fP f-d)*2^(fP f-1)+Q)*2^d=2^(blen n-fP f-d+d)*Q:=by
   rw [hform,Nat.mul_assoc,← hpow,Nat.mul_comm]
  have hv1:pv f ((blen n-fP f-d)*2^(fP f-1)+Q+1)*2^d=2^(blen n-fP f-d+d)*Q+2^(blen n-fP f-d+d):=by
   rw [Nat.add_assoc,hform1,Nat.mul_assoc,← hpow,Nat.mul_comm,Nat.mul_add,Nat.mul_one]
  refine ⟨(blen n-fP f-d)*2^(fP f-1)+Q,decide (c≠0),by omega,by omega,.inl (by omega),?_,?_,fun m hm=>?_⟩
  ·rcases Nat.lt_or_ge ((blen n-fP f-d)*2^(fP f-1)+Q+1) (infF f) with h | h
   ·exact .inl h
   ·right
    have hj:2*fX f-1≤blen n-fP f-d:=by
     rcases Nat.lt_or_ge (blen n-fP f-d) (2*fX f-1) with h1 | h1
     ·have:=Nat.mul_le_mul_right (2^(fP f-1)) (show blen n-fP f-d+3≤2*fX f+1 by omega)
      rw [Nat.add_mul] at this
      omega
     ·exact h1
    have hq:=hql (by omega)
    have h1:2^(fP f-1)*2^(2*fX f-1+d)≤Q*2^(blen n-fP f-d+d):=Nat.mul_le_mul hq (Nat.pow_le_pow_right (by decide) (by omega))
    rw [← Nat.pow_add,show fP f-1+(2*fX f-1+d)=fP f+2*fX f-2+d by omega,Nat.mul_comm Q] at h1
    omega
  ·rw [decide_eq_decide,hv]
   omega
  ·have hc:=hcut m
   rw [hrnd,hmuE,hc]
   by_cases hc0:c=0
   ·rw [if_neg (show ¬ (c≠0∧furM m false (decide (Q%2=1)) c=true) from fun h=>h.1 hc0),if_neg hB,if_pos hc0,decide_eq_false (fun h=>h hc0)]
    exact ⟨.inl rfl,fun _=>rfl,fun _=>rfl,fun _=>rfl,fun h=>(by cases h),fun h=>(by dsimp only at h; omega),fun h=>(by cases h)⟩
   ·rw [decide_eq_true hc0,if_neg hc0]
    have hfl:(if isTiny f m false n (qm f-d) false then 24 else 16)=16∨(if isTiny f m false n (qm f-d) false then 24 else 16)=20∨((if isTiny f m false n (qm f-d) false then 24 else 16)=24∧blen n<fP f+d):=by
     by_cases ht:isTiny f m false n (qm f-d) false
     ·rw [if_pos ht]; exact .inr (.inr ⟨rfl,htiny m ht⟩)
     ·rw [if_neg ht]; exact .inl rfl
    have hf20:¬ (if isTiny f m false n (qm f-d) false then 24 else 16)=20:=by split <;> decide
    by_cases hu:furM m false (decide (Q%2=1)) c=true
    ·rw [if_pos (show c≠0∧furM m false (decide (Q%2=1)) c=true from ⟨hc0,hu⟩)]
     by_cases hend:infF f≤(blen n-fP f-d)*2^(fP f-1)+(Q+1)
     ·have hQ:Q%2=1:=by
       obtain ⟨H,hH⟩:∃ H,2^(fP f-1)=2*H:=⟨2^(fP f-2),by rw [← Nat.pow_succ',Nat.succ_eq_add_one]; congr 1; omega⟩
       have e1:(2*fX f+1)*2^(fP f-1)=2*((2*fX f+1)*H):=by rw [hH,Nat.mul_left_comm]
       have e2:(blen n-fP f-d)*2^(fP f-1)=2*((blen n-fP f-d)*H):=by rw [hH,Nat.mul_left_comm]
       omega
      rw [decide_eq_true hQ] at hu
      have hup:=up_end hm (show c=1∨c=2∨c=3 by omega) hu
      rw [if_pos hend]
      refine ⟨.inr ⟨rfl,?_⟩,?_,?_,fun h=>(by cases h),fun _=>.inr (.inl rfl),fun _=>rfl,fun _=>by omega⟩
      ·unfold limM; rw [if_pos hup]; dsimp only; omega
      ·rintro rfl; exact absurd hup (by decide)
      ·rintro rfl; unfold limM; rw [if_pos hup]; dsimp only [cond_true]; omega
     ·rw [if_neg hend]
      refine ⟨.inr ⟨rfl,rfl⟩,?_,fun _=>rfl,fun h=>(by cases h),fun _=>hfl,fun h=>(by dsimp only at h; omega),fun h=>absurd h hf20⟩
      rintro rfl; exact absurd (show false=true from hu) (by decide)
    ·rw [if_neg (show ¬ (c≠0∧furM m false (decide (Q%2=1)) c=true) from fun h=>hu h.2),if_neg hB]
     refine ⟨.inl rfl,fun _=>rfl,?_,fun h=>(by cases h),fun _=>hfl,fun h=>(by dsimp only at h; omega),fun h=>absurd h hf20⟩
     rintro rfl; exact absurd rfl hu
end VL
namespace VL
open Go Vx
theorem rndM2_N {f:Int} (hf:Fm f) {R:Nat} (h0:R≠0) (m:Int) (d:Nat) (more:Bool) :
  rndM2 f m R (qm f-d) more=rndM f m false (2*R+(bif more then 1 else 0)) (qm f-((d+1:Nat):Int)):=by
 have e1:qm f-((d+1:Nat):Int)=qm f-d-1:=by omega
 have hmk:∀ x:Nat×Nat,(mkF f false x.1,x.2)=x:=fun x=>by unfold mkF; rfl
 unfold rndM2
 cases more
 ·have:=rnd_scale (f:=f) (m:=m) (neg:=false) hf h0 1 (qm f-d-1)
  rw [show qm f-(d:Int)-1+((1:Nat):Int)=qm f-d by omega,Nat.pow_one,Nat.mul_comm] at this
  rw [if_neg (by decide),← this,rnd_M hf,hmk,e1]
  rfl
 ·rw [if_pos rfl,rnd_M hf,hmk,e1]
  rfl
theorem sticky_floor {f:Int} (hf:Fm f) {R:Nat} (h0:R≠0) (d:Nat) (more:Bool) :
  ∃ (B:Nat) (inex:Bool),B<infF f∧pv f B*2^d≤R∧(R<pv f (B+1)*2^d∨B+1=infF f)∧(B+1<infF f∨2^(fP f+2*fX f-2+d)≤R)∧inex=(more||decide (pv f B*2^d≠R)) ∧
   ∀ m,0≤m∧m≤5→rndOk f m (d+1) (2*R+(bif more then 1 else 0)) B inex (rndM2 f m R (qm f-d) more):=by
 obtain ⟨B,inex,k1,k2,k3,k4,k5,k6⟩:=rnd_floor hf (n:=2*R+(bif more then 1 else 0)) (by omega) (d+1)
 rw [Nat.pow_succ,← Nat.mul_assoc] at k2 k3 k5
 rw [← Nat.add_assoc,Nat.pow_succ] at k4
 have hb:(bif more then 1 else 0)<2:=by cases more <;> decide
 refine ⟨B,inex,k1,by omega,by omega,by omega,?_,fun m hm=>?_⟩
 ·rw [k5]
  cases more
  ·rw [Bool.false_or,decide_eq_decide]
   simp only [cond_false]
   omega
  ·rw [Bool.true_or,decide_eq_true_eq]
   simp only [cond_true]
   omega
 ·rw [rndM2_N hf h0]
  exact k6 m hm
theorem sticky_mono {f m:Int} (hf:Fm f) (hm:0≤m∧m≤5) {R R':Nat} (h0:R≠0) (d:Nat) {more more':Bool} (h:R<R'∨(R=R'∧(more=true→more'=true))) :
  (rndM2 f m R (qm f-d) more).1≤(rndM2 f m R' (qm f-d) more').1:=by
 have h0':R'≠0:=by omega
 rw [rndM2_N hf h0,rndM2_N hf h0']
 apply rndM_mono hf hm false _ (by omega)
 rcases h with h | ⟨h,h2⟩
 ·cases more <;> cases more' <;> simp only [cond_true,cond_false] <;> omega
 ·cases more <;> cases more' <;> simp only [cond_true,cond_false] <;> first | omega | (exact absurd (h2 rfl) (by decide))
theorem plain_lt {f:Int} (hf:Fm f) {x:Nat} (h:x<infF f):x<2^(fW f-1)∧x<2^fW f∧x<2^64:=by
 have h1:=infF_lt hf
 have h2:=two_half hf
 have h3:=fW_le hf
 have:2^fW f≤2^64:=Nat.pow_le_pow_right (by decide) h3
 omega
theorem plain_abs {f:Int} (hf:Fm f) {x:Nat} (h:x<infF f):absF f x=x:=Nat.mod_eq_of_lt (plain_lt hf h).1
theorem plain_facts {f:Int} (hf:Fm f) {x:Nat} (h:x<infF f):chk f x=0∧sF f x=false∧nan f x=false∧isInf f x=false∧eF f x≠fullF f∧snan f x=false:=by
 obtain ⟨h1,h2,h3⟩:=plain_lt hf h
 have ha:=plain_abs hf h
 have hn:nan f x=false:=nan_of_le hf (by omega)
 have hE:eF f x≠fullF f:=by
  rw [eF_abs hf,ha]
  intro he
  have:=Nat.div_add_mod x (2^(fP f-1))
  rw [he] at this
  unfold infF at h
  omega
 refine ⟨chk_ok hf h2,?_,hn,?_,hE,snan_nan hn⟩
 ·unfold sF
  rw [Nat.div_eq_of_lt h1]; rfl
 ·unfold isInf
  rw [beq_eq_false_iff_ne.2 hE]; rfl
theorem plain_zro {f:Int} (hf:Fm f) {x:Nat} (h:x<infF f):zro f x=decide (x=0):=by
 have ha:=plain_abs hf h
 unfold zro
 rw [eF_abs hf,mF_abs hf,ha,Bool.eq_iff_iff,Bool.and_eq_true,beq_iff_eq,beq_iff_eq,decide_eq_true_eq]
 have:=Nat.div_add_mod x (2^(fP f-1))
 constructor
 ·rintro ⟨h1,h2⟩
  rw [h1,h2] at this
  omega
 ·rintro rfl
  exact ⟨Nat.zero_div _,Nat.zero_mod _⟩
theorem plain_mant {f:Int} (hf:Fm f) {x:Nat} (h:x<infF f) (h0:x≠0):mant f x≠0:=by
 apply zro_mant
 rw [plain_zro hf h,decide_eq_false h0]
def VV (f:Int) (x:Nat):Nat:=mant f x*2^(xpn f x+2600).toNat
theorem VV_pv {f:Int} (hf:Fm f) (x:Nat):VV f x=pv f x*2^(qm f+2600).toNat:=by
 have h1:=xpn_ge f x
 have h2:=qm_ge hf
 unfold VV pv
 rw [Nat.mul_assoc,← Nat.pow_add]
 congr 2
 omega
theorem VV_ne {f:Int} {x:Nat} (h:mant f x≠0):VV f x≠0:=Nat.mul_ne_zero h (Nat.ne_of_gt (Nat.two_pow_pos _))
end VL
namespace VL
open Go Vx
theorem T112_all {f:Int} {a:Nat} (ha:a<2^64):∃ v:Int,T112 (f,(a:Int),())=some (v,chk f a,())∧(chk f a=0→v=(absF f a:Int)):=by
 by_cases h:chk f a=0
 ·exact ⟨_,by rw [T112_ok ha h,h],fun _=>rfl⟩
 ·refine ⟨0,?_,fun h2=>absurd h2 h⟩
  show t112 S66.pre S66.F S115.pre S115.F f (a:Int)=_
  unfold t112
  have p0:=T66_eq f a ha
  simp only [pre66 p0,fun66 p0,cond_true,bne_iff_ne.2 h]
theorem T40_all {f:Int} {a:Nat} (ha:a<2^64):∃ (v:DenS O40) ,T40 (f,(a:Int),())=some v∧(v.2.1=0↔chk f a=0∧eF f a≠fullF f):=by
 by_cases h:chk f a=0
 ·by_cases h2:eF f a=fullF f
  ·exact ⟨_,T40_full h h2,⟨fun h3=>absurd (show (40:Int)=0 from h3) (by decide),fun h3=>absurd h2 h3.2⟩⟩
  ·exact ⟨_,T40_fin h h2,⟨fun _=>⟨h,h2⟩,fun _=>rfl⟩⟩
 ·exact ⟨_,T40_bad ha h,⟨fun h3=>absurd h3 h,fun h3=>absurd h3.1 h⟩⟩
theorem fin_abs {f:Int} (hf:Fm f) {a:Nat} (h:eF f a≠fullF f):absF f a<infF f:=by
 rw [eF_abs hf] at h
 have hlt:=abs_lt' (f:=f) a
 have h2:absF f a/2^(fP f-1)<2^(fW f-fP f):=by
  rw [Nat.div_lt_iff_lt_mul (Nat.two_pow_pos _),← Nat.pow_add]
  have:=fP_lt hf
  have:=fP_ge hf
  rw [show fW f-fP f+(fP f-1)=fW f-1 by omega]
  exact hlt
 have h3:absF f a/2^(fP f-1)<fullF f:=by unfold fullF at *; omega
 rw [Nat.div_lt_iff_lt_mul (Nat.two_pow_pos _),Nat.mul_comm] at h3
 exact h3
theorem isq_mono {a b:Nat} (h:a≤b):isq a≤isq b:=isq_ge (Nat.le_trans (isq_le a) h)
theorem root_up {f m:Int} (hf:Fm f) (hm:0≤m∧m≤5) {X Y:Nat} (h0:X≠0) (h:X≤Y) (d:Nat):(rootB f m X (qm f-d)).1≤(rootB f m Y (qm f-d)).1:=by
 rw [← rootB_M2,← rootB_M2]
 have hi:=isq_mono h
 have hp:=isq_pos h0
 apply sticky_mono hf hm (by omega)
 rcases Nat.lt_or_ge (isq X) (isq Y) with h1 | h1
 ·exact .inl h1
 ·have he:isq X=isq Y:=by omega
  refine .inr ⟨he,fun h2=>?_⟩
  rw [Bool.not_eq_true',decide_eq_false_iff_not] at h2 ⊢
  intro h3
  rw [← he] at h3
  have:=isq_le X
  omega
end VL
namespace VL
open Go Vx
theorem zro_absF {f:Int} (hf:Fm f) (a:Nat):(absF f a=0)=(zro f a=true):=by
 unfold zro
 rw [eF_abs hf,mF_abs hf]
 have hp:=Nat.two_pow_pos (fP f-1)
 apply propext
 rw [Bool.and_eq_true,beq_iff_eq,beq_iff_eq]
 constructor
 ·intro h; rw [h]; exact ⟨Nat.zero_div _,Nat.zero_mod _⟩
 ·rintro ⟨h1,h2⟩
  have:=Nat.div_add_mod (absF f a) (2^(fP f-1))
  rw [h1,h2,Nat.mul_zero] at this
  omega
end VL
namespace VL
open Go Vx
theorem self_plain {f:Int} (hf:Fm f) (m:Int) {x:Nat} (h:x<infF f) (h0:x≠0):rndN f m false (mant f x) (xpn f x) false=(x,0):=by
 obtain ⟨a1,a2,_,_,a5,_⟩:=plain_facts hf h
 have:=rnd_self (m:=m) hf a1 a5 (plain_mant hf h h0)
 rwa [a2] at this
theorem mant_of_abs {f:Int} (hf:Fm f) (a:Nat):mant f (absF f a)=mant f a∧xpn f (absF f a)=xpn f a:=by
 have h1:absF f (absF f a)=absF f a:=Nat.mod_mod _ _
 have e1:eF f (absF f a)=eF f a:=by rw [eF_abs hf,eF_abs hf,h1]
 have e2:mF f (absF f a)=mF f a:=by rw [mF_abs hf,mF_abs hf,h1]
 unfold mant xpn
 rw [e1,e2]
 exact ⟨rfl,rfl⟩
theorem rootB_sq {f m:Int} (R:Nat) (E:Int):rootB f m (R*R) E=rndN f m false R E false:=by
 unfold rootB
 rw [isq_sq,if_pos rfl]
end VL
namespace VL
open Go Vx
def vC (c:Int) (neg:Bool) (X:Nat) (e:Int):Int:=bif neg then -((X*2^(e-c).toNat:Nat):Int) else ((X*2^(e-c).toNat:Nat):Int)
theorem vC_zero (c:Int) (s:Bool) (e:Int):vC c s 0 e=0:=by
 unfold vC; rw [Nat.zero_mul]; cases s <;> rfl
theorem vC_od {c:Int} (hc:-4000≤c∧c≤0) (s:Bool) (n:Nat) {e:Int} (he:c≤e):c≤(od s n e).2.2∧vC c (od s n e).1 (od s n e).2.1 (od s n e).2.2=vC c s n e:=by
 rcases od_cases s n e with ⟨h,h0⟩ | ⟨h1,h2,h3,h4,h5⟩
 ·rw [h,h0,vC_zero,vC_zero]
  exact ⟨hc.2,rfl⟩
 ·refine ⟨by omega,?_⟩
  have e1:(od s n e).2.1*2^((od s n e).2.2-c).toNat=n*2^(e-c).toNat:=by
   rw [h5,show (e+(tz n:Int)-c).toNat=tz n+(e-c).toNat by omega,Nat.pow_add,← Nat.mul_assoc,Nat.mul_comm _ (2^tz n),← h4]
  unfold vC
  rw [e1,h1]
theorem sumC_val {c:Int} (nx:Bool) (X:Nat) (ex:Int) (ny:Bool) (Y:Nat) (ey:Int) (hx:c≤ex) (hy:c≤ey) :
  c≤(sumD nx X ex ny Y ey).2.2∧vC c (sumD nx X ex ny Y ey).1 (sumD nx X ex ny Y ey).2.1 (sumD nx X ex ny Y ey).2.2=vC c nx X ex+vC c ny Y ey:=by
 by_cases h1:X=0
 ·subst h1
  unfold sumD
  rw [if_pos rfl,vC_zero,Int.zero_add]
  exact ⟨hy,rfl⟩
 by_cases h2:Y=0
 ·subst h2
  unfold sumD
  rw [if_neg h1,if_pos rfl,vC_zero,Int.add_zero]
  exact ⟨hx,rfl⟩
 obtain ⟨e,he⟩:∃ e,(if ey<ex then ey else ex)=e:=⟨_,rfl⟩
 have he2:e≤ex∧e≤ey∧c≤e:=by rw [← he]; split <;> omega
 obtain ⟨a,ha⟩:∃ a,X*2^(ex-e).toNat=a:=⟨_,rfl⟩
 obtain ⟨b,hb⟩:∃ b,Y*2^(ey-e).toNat=b:=⟨_,rfl⟩
 have hD:sumD nx X ex ny Y ey=if nx=ny then (nx,a+b,e) else if b≤a then (nx,a-b,e) else (ny,b-a,e):=by
  unfold sumD
  rw [if_neg h1,if_neg h2]
  simp only [he,ha,hb]
 have hA:X*2^(ex-c).toNat=a*2^(e-c).toNat:=by
  rw [← ha,Nat.mul_assoc,← Nat.pow_add]; congr 2; omega
 have hB:Y*2^(ey-c).toNat=b*2^(e-c).toNat:=by
  rw [← hb,Nat.mul_assoc,← Nat.pow_add]; congr 2; omega
 have hsum:=Nat.add_mul a b (2^(e-c).toNat)
 have hd1:=Nat.sub_mul a b (2^(e-c).toNat)
 have hd2:=Nat.sub_mul b a (2^(e-c).toNat)
 rw [hD]
 unfold vC
 rw [hA,hB]
 by_cases hn:nx=ny
 ·subst hn
  rw [if_pos rfl]
  refine ⟨he2.2.2,?_⟩
  dsimp only
  rw [hsum]
  cases nx <;> simp only [cond_true,cond_false] <;> omega
 ·have hny:ny=!nx:=by cases nx <;> cases ny <;> first | rfl | exact absurd rfl hn
  subst hny
  rw [if_neg hn]
  by_cases hle:b≤a
  ·have:=Nat.mul_le_mul_right (2^(e-c).toNat) hle
   rw [if_pos hle]
   refine ⟨he2.2.2,?_⟩
   dsimp only
   rw [hd1]
   cases nx <;> simp only [cond_true,cond_false,Bool.not_true,Bool.not_false] <;> omega
  ·have:=Nat.mul_le_mul_right (2^(e-c).toNat) (show a≤b by omega)
   rw [if_neg hle]
   refine ⟨he2.2.2,?_⟩
   dsimp only
   rw [hd2]
   cases nx <;> simp only [cond_true,cond_false,Bool.not_true,Bool.not_false] <;> omega
def cC (c:Int) (S:Int):Dya:=dyO (od (decide (S<0)) S.natAbs (c))
theorem cC_of {c:Int} (s:Bool) (n:Nat) {e:Int} (he:c≤e):dyO (od s n e)=cC c (vC c s n e):=by
 unfold cC
 congr 1
 by_cases h0:n=0
 ·subst h0
  rw [vC_zero]; rfl
 ·have hp:=Nat.two_pow_pos (e-c).toNat
  have hpos:0<n*2^(e-c).toNat:=Nat.mul_pos (by omega) hp
  have hs:decide (vC c s n e<0)=s:=by
   unfold vC
   generalize n*2^(e-c).toNat=N at *
   cases s <;> simp only [cond_true,cond_false]
   ·exact decide_eq_false (by omega)
   ·exact decide_eq_true (by omega)
  have hn:(vC c s n e).natAbs=n*2^(e-c).toNat:=by
   unfold vC
   cases s
   ·exact Int.natAbs_natCast _
   ·exact (Int.natAbs_neg _).trans (Int.natAbs_natCast _)
  rw [hs,hn]
  unfold od
  rw [if_neg h0,if_neg (by omega),tz_mul h0]
  have hd:n*2^(e-c).toNat/2^(tz n+(e-c).toNat)=n/2^tz n:=by
   rw [Nat.pow_add,Nat.mul_div_mul_right _ _ hp]
  rw [hd]
  congr 2
  omega
def Bc (c:Int) (n:Nat) (e:Int):Prop:=c≤e∧e≤6000∧n*2^(e-c).toNat<2^5000
theorem Bc.lt {c:Int} {n:Nat} {e:Int} (h:Bc c n e):n<2^5000:=by
 have:=Nat.le_mul_of_pos_right n (Nat.two_pow_pos (e-c).toNat)
 exact Nat.lt_of_le_of_lt this h.2.2
theorem Bc.od {c:Int} (hc:-4000≤c∧c≤0) {n:Nat} {e:Int} (s:Bool) (h:Bc c n e):Bc c (VL.od s n e).2.1 (VL.od s n e).2.2:=by
 rcases od_cases s n e with ⟨hz,_⟩ | ⟨_,h2,h3,h4,h5⟩
 ·rw [hz]
  exact ⟨hc.2,by dsimp only; omega,by dsimp only; rw [Nat.zero_mul]; exact Nat.two_pow_pos _⟩
 ·have hle:2^(tz n+(e-c).toNat)≤n*2^(e-c).toNat:=by
   rw [Nat.pow_add]
   refine Nat.mul_le_mul_right _ ?_
   have:=Nat.le_mul_of_pos_right (2^tz n) (show 0<(VL.od s n e).2.1 by omega)
   omega
  have hlt:=(Nat.pow_lt_pow_iff_right (a:=2) (by decide)).1 (Nat.lt_of_le_of_lt hle h.2.2)
  have hq:=hc.2
  have h1:=h.1
  refine ⟨by omega,by omega,?_⟩
  have e1:(VL.od s n e).2.1*2^((VL.od s n e).2.2-c).toNat=n*2^(e-c).toNat:=by
   rw [h5,show (e+(tz n:Int)-c).toNat=tz n+(e-c).toNat by omega,Nat.pow_add,← Nat.mul_assoc,Nat.mul_comm _ (2^tz n),← h4]
  rw [e1]; exact h.2.2
theorem T142_bc {c:Int} (hc:-4000≤c∧c≤0) (s:Bool) (X:Nat) (ex:Int) (s':Bool) (Y:Nat) (ey:Int) (hX:Bc c X ex) (hY:Bc c Y ey) :
  T142 (dy s X ex,dy s' Y ey,())=some (Dw (X*2^(ex-(if ey<ex then ey else ex)).toNat),Dw (Y*2^(ey-(if ey<ex then ey else ex)).toNat),(if ey<ex then ey else ex),()):=by
 show t142 S172.pre S172.F (s,Dw X,ex,()) (s',Dw Y,ey,())=_
 unfold t142
 have hq:=hc.1
 have x1:=hX.1
 have x2:=hX.2.1
 have y1:=hY.1
 have y2:=hY.2.1
 have he:(if ey<ex then ey else ex)≤ex∧(if ey<ex then ey else ex)≤ey∧c≤(if ey<ex then ey else ex):=by split <;> omega
 dsimp only
 generalize (if ey<ex then ey else ex)=e at *
 obtain ⟨d1,hd1⟩:=Int.eq_ofNat_of_zero_le (show 0≤ex-e by omega)
 obtain ⟨d2,hd2⟩:=Int.eq_ofNat_of_zero_le (show 0≤ey-e by omega)
 have p1:=T172_eq (lt5000 (big_lt hX.lt (by decide))) d1 (by omega)
 have p2:=T172_eq (lt5000 (big_lt hY.lt (by decide))) d2 (by omega)
 have e1:IntKind.wrap .i64 (d1:Int)=(d1:Int):=wrapI (by omega)
 have e2:IntKind.wrap .i64 (d2:Int)=(d2:Int):=wrapI (by omega)
 simp only [hd1,hd2,e1,e2,pre172 p1,fun172 p1,pre172 p2,fun172 p2,cond_true,Int.toNat_natCast]
theorem Bc.sft {c:Int} {X:Nat} {ex e:Int} (h:Bc c X ex) (h1:e≤ex) (h2:c≤e):X*2^(ex-e).toNat<2^5000:=by
 have e1:X*2^(ex-c).toNat=X*2^(ex-e).toNat*2^(e-c).toNat:=by
  rw [Nat.mul_assoc,← Nat.pow_add]; congr 2; omega
 have:=Nat.le_mul_of_pos_right (X*2^(ex-e).toNat) (Nat.two_pow_pos (e-c).toNat)
 rw [← e1] at this
 exact Nat.lt_of_le_of_lt this h.2.2
theorem T101_bc {c:Int} (hc:-4000≤c∧c≤0) (nx:Bool) (X:Nat) (ex:Int) (ny:Bool) (Y:Nat) (ey:Int) (hX:Bc c X ex) (hY:Bc c Y ey) :
  ∃ s n e,T101 (dy nx X ex,dy ny Y ey,())=some (dy s n e,())∧c≤e∧e≤12000∧n<2^5001∧vC c s n e=vC c nx X ex+vC c ny Y ey:=by
 have hq:=hc.1
 have hq2:=hc.2
 have x1:=hX.1
 have x2:=hX.2.1
 have y1:=hY.1
 have y2:=hY.2.1
 have big:(2:Nat)^5000+2^5000=2^5001:=dbl2 5000
 have sv:=sumC_val (c:=c) nx X ex ny Y ey x1 y1
 by_cases h1:X=0
 ·refine ⟨ny,Y,ey,?_,y1,by omega,by have:=hY.lt; omega,by rw [h1,vC_zero,Int.zero_add]⟩
  show t101 S142.pre S142.F S143.pre S143.F S144.pre S144.F S145.pre S145.F S100.pre S100.F (nx,Dw X,ex,()) (ny,Dw Y,ey,())=_
  unfold t101
  rw [h1,Dw_zero]; rfl
 have l1:(((Dw X).length:Int)==0)=false:=beq0_f _ (by have:=Dw_len h1; omega)
 by_cases h2:Y=0
 ·refine ⟨nx,X,ex,?_,x1,by omega,by have:=hX.lt; omega,by rw [h2,vC_zero,Int.add_zero]⟩
  show t101 S142.pre S142.F S143.pre S143.F S144.pre S144.F S145.pre S145.F S100.pre S100.F (nx,Dw X,ex,()) (ny,Dw Y,ey,())=_
  unfold t101
  dsimp only
  rw [l1,cond_false,h2,Dw_zero]; rfl
 have l2:(((Dw Y).length:Int)==0)=false:=beq0_f _ (by have:=Dw_len h2; omega)
 have p0:=T142_bc hc nx X ex ny Y ey hX hY
 have p0:T142 ((nx,Dw X,ex,()),(ny,Dw Y,ey,()),())=_:=p0
 obtain ⟨e,he⟩:∃ e,(if ey<ex then ey else ex)=e:=⟨_,rfl⟩
 have he2:e≤ex∧e≤ey∧c≤e:=by rw [← he]; split <;> omega
 obtain ⟨a,haa⟩:∃ a,X*2^(ex-e).toNat=a:=⟨_,rfl⟩
 obtain ⟨b,hbb⟩:∃ b,Y*2^(ey-e).toNat=b:=⟨_,rfl⟩
 have k1:=hX.sft he2.1 he2.2.2
 have k2:=hY.sft he2.2.1 he2.2.2
 rw [he,haa,hbb] at p0
 rw [haa] at k1
 rw [hbb] at k2
 have hD:sumD nx X ex ny Y ey=if nx=ny then (nx,a+b,e) else if b≤a then (nx,a-b,e) else (ny,b-a,e):=by
  unfold sumD
  rw [if_neg h1,if_neg h2]
  simp only [he,haa,hbb]
 have hDn:(sumD nx X ex ny Y ey).2.1<2^5001∧(sumD nx X ex ny Y ey).2.2=e:=by
  rw [hD]
  split
  ·exact ⟨by dsimp only; omega,rfl⟩
  ·split
   ·exact ⟨by dsimp only; omega,rfl⟩
   ·exact ⟨by dsimp only; omega,rfl⟩
 have key:T101 (dy nx X ex,dy ny Y ey,())=some (dyO (od (sumD nx X ex ny Y ey).1 (sumD nx X ex ny Y ey).2.1 (sumD nx X ex ny Y ey).2.2),()):=by
  show t101 S142.pre S142.F S143.pre S143.F S144.pre S144.F S145.pre S145.F S100.pre S100.F (nx,Dw X,ex,()) (ny,Dw Y,ey,())=_
  unfold t101
  dsimp only
  rw [l1,cond_false,l2,cond_false,hD]
  have b1:=lt5000 (big_lt k1 (by decide))
  have b2:=lt5000 (big_lt k2 (by decide))
  have k3:a+b<2^5001:=by omega
  have b3:=lt5000 (big_lt k3 (by decide))
  simp only [pre142 p0,fun142 p0,cond_true]
  by_cases hn:nx=ny
  ·subst hn
   have:(nx==nx)=true:=by cases nx <;> rfl
   rw [this,cond_true,if_pos rfl]
   have p1:=T143_dw b1 b2
   have p2:=T100_dy nx b3 e (by omega)
   rw [od_dy] at p2
   have p2:T100 ((nx,Dw (a+b),e,()),())=_:=p2
   simp only [pre143 p1,fun143 p1,pre100 p2,fun100 p2,cond_true]
  ·have:(nx==ny)=false:=by cases nx <;> cases ny <;> first | rfl | exact absurd rfl hn
   rw [this,cond_false,if_neg hn]
   have p1:=T144_eq b1 b2
   by_cases hle:b≤a
   ·have p2:=T145_eq b1 hle
    have p3:=T100_dy nx (n:=a-b) (by omega) e (by omega)
    rw [od_dy] at p3
    have p3:T100 ((nx,Dw (a-b),e,()),())=_:=p3
    have z:decide ((if a=b then (0:Int) else if a<b then -1 else 1)<0)=false:=by
     by_cases hab:a=b
     ·rw [if_pos hab]; rfl
     ·rw [if_neg hab,if_neg (by omega)]; rfl
    simp only [pre144 p1,fun144 p1,cond_true,z,cond_false,pre145 p2,fun145 p2,pre100 p3,fun100 p3,if_pos hle]
   ·have p2:=T145_eq b2 (y:=a) (by omega)
    have p3:=T100_dy ny (n:=b-a) (by omega) e (by omega)
    rw [od_dy] at p3
    have p3:T100 ((ny,Dw (b-a),e,()),())=_:=p3
    have z:decide ((if a=b then (0:Int) else if a<b then -1 else 1)<0)=true:=by
     rw [if_neg (by omega),if_pos (by omega)]; rfl
    simp only [pre144 p1,fun144 p1,cond_true,z,pre145 p2,fun145 p2,pre100 p3,fun100 p3,if_neg hle]
 have ov:=vC_od hc (sumD nx X ex ny Y ey).1 (sumD nx X ex ny Y ey).2.1 sv.1
 refine ⟨_,_,_,key,ov.1,?_,?_,ov.2.trans sv.2⟩
 ·rcases od_cases (sumD nx X ex ny Y ey).1 (sumD nx X ex ny Y ey).2.1 (sumD nx X ex ny Y ey).2.2 with ⟨hz,_⟩ | ⟨_,q2,q3,q4,q5⟩
  ·rw [hz]; dsimp only; omega
  ·have:=tz_le hDn.1 q3
   have:=hDn.2
   omega
 ·rcases od_cases (sumD nx X ex ny Y ey).1 (sumD nx X ex ny Y ey).2.1 (sumD nx X ex ny Y ey).2.2 with ⟨hz,_⟩ | ⟨_,q2,q3,q4,q5⟩
  ·rw [hz]; exact Nat.two_pow_pos _
  ·have hle:=Nat.le_mul_of_pos_left (od (sumD nx X ex ny Y ey).1 (sumD nx X ex ny Y ey).2.1 (sumD nx X ex ny Y ey).2.2).2.1 (Nat.two_pow_pos (tz (sumD nx X ex ny Y ey).2.1))
   have:=hDn.1
   omega
theorem T103_bc {c:Int} (hc:-4000≤c∧c≤0) (s:Bool) {n:Nat} {e:Int} (h:Bc c n e):T103 (dy s n e,())=some (0,()):=by
 have:=hc.1
 have h1:=h.1
 have h2:=h.2.1
 exact T103_ok s h.lt (by decide) e (by omega)
theorem T99_bc {c:Int} (hc:-4000≤c∧c≤0) (s:Bool) {n:Nat} {e:Int} (s':Bool) {n':Nat} {e':Int} (h:Bc c n e) (h':Bc c n' e'):T99 (dy s n e,dy s' n' e',())=some (0,()):=by
 have q1:=T103_bc hc s h
 have q2:=T103_bc hc s' h'
 show t99 S103.pre S103.F (dy s n e) (dy s' n' e')=_
 unfold t99
 have q1:T103 (((dy s n e).1,(dy s n e).2),())=some (0,()):=q1
 have q2:T103 (((dy s' n' e').1,(dy s' n' e').2),())=some (0,()):=q2
 simp only [pre103 q1,fun103 q1,pre103 q2,fun103 q2,cond_true,bne_self_eq_false,cond_false]
theorem T100_bc {c:Int} (hc:-4000≤c∧c≤0) (s:Bool) {n:Nat} {e:Int} (h:Bc c n e):T100 (dy s n e,())=some (dyO (od s n e),()):=by
 have:=hc.1
 have h1:=h.1
 have h2:=h.2.1
 have p:=T100_dy s (lt5000 (big_lt h.lt (by decide))) e (by omega)
 rwa [od_dy] at p
theorem T104_cc {c:Int} (hc:-4000≤c∧c≤0) (s:Bool) {n:Nat} {e:Int} (h1:c≤e) (h2:e≤12000) (hn:n<2^5001):T104 (dy s n e,())=some (cC c (vC c s n e),0,()):=by
 have:=hc.1
 have big:(2:Nat)^5001≤2^6000:=Nat.pow_le_pow_right (by decide) (by decide)
 have p:=T104_ok s (Nat.lt_of_lt_of_le hn big) e (by omega)
 rwa [cC_of s n h1] at p
theorem T49_cc {c:Int} (hc:-4000≤c∧c≤0) (s1:Bool) {n1:Nat} {e1:Int} (s2:Bool) {n2:Nat} {e2:Int} (h1:Bc c n1 e1) (h2:Bc c n2 e2) :
  T49 (dy s1 n1 e1,dy s2 n2 e2,())=some (cC c (vC c s1 n1 e1+vC c s2 n2 e2),0,()):=by
 show t49 S99.pre S99.F S100.pre S100.F S101.pre S101.F S104.pre S104.F (dy s1 n1 e1) (dy s2 n2 e2)=_
 unfold t49
 have p99:=T99_bc hc s1 s2 h1 h2
 have i1:=T100_bc hc s1 h1
 have i2:=T100_bc hc s2 h2
 have v1:=vC_od hc s1 n1 h1.1
 have v2:=vC_od hc s2 n2 h2.1
 obtain ⟨s,n,e,p101,g1,g2,g3,g4⟩:=T101_bc hc (od s1 n1 e1).1 (od s1 n1 e1).2.1 (od s1 n1 e1).2.2 (od s2 n2 e2).1 (od s2 n2 e2).2.1 (od s2 n2 e2).2.2 (h1.od hc s1) (h2.od hc s2)
 rw [v1.2,v2.2] at g4
 have p104:=T104_cc hc s g1 g2 g3
 rw [g4] at p104
 have p99:T99 (((dy s1 n1 e1).1,(dy s1 n1 e1).2),((dy s2 n2 e2).1,(dy s2 n2 e2).2),())=some (0,()):=p99
 have i1:T100 (((dy s1 n1 e1).1,(dy s1 n1 e1).2),())=some (dyO (od s1 n1 e1),()):=i1
 have i2:T100 (((dy s2 n2 e2).1,(dy s2 n2 e2).2),())=some (dyO (od s2 n2 e2),()):=i2
 have p101:T101 (dyO (od s1 n1 e1),dyO (od s2 n2 e2),())=some (dy s n e,()):=p101
 simp only [pre99 p99,fun99 p99,pre100 i1,fun100 i1,pre100 i2,fun100 i2,pre101 p101,fun101 p101,pre104 p104,fun104 p104,cond_true,bne_self_eq_false,cond_false]
theorem vC_not (c:Int) (s:Bool) (n:Nat) (e:Int):vC c (!s) n e=-vC c s n e:=by
 unfold vC; cases s <;> simp
theorem sign_valC {c:Int} (s:Bool) (n:Nat) (e:Int):(if n=0 then (0:Int) else if s=true then -1 else 1)=(if vC c s n e=0 then 0 else if vC c s n e<0 then -1 else 1):=by
 by_cases h:n=0
 ·subst h
  rw [vC_zero,if_pos rfl,if_pos rfl]
 ·have hpos:=Nat.mul_pos (show 0<n by omega) (Nat.two_pow_pos (e-c).toNat)
  rw [if_neg h]
  unfold vC
  generalize n*2^(e-c).toNat=N at *
  cases s <;> simp only [cond_true,cond_false]
  ·rw [if_neg (by simp),if_neg (by omega),if_neg (by omega)]
  ·rw [if_pos trivial,if_neg (by omega),if_pos (by omega)]
theorem T46_cc {c:Int} (hc:-4000≤c∧c≤0) (s1:Bool) {n1:Nat} {e1:Int} (s2:Bool) {n2:Nat} {e2:Int} (h1:Bc c n1 e1) (h2:Bc c n2 e2) :
  T46 (dy s1 n1 e1,dy s2 n2 e2,())=some ((if vC c s1 n1 e1=vC c s2 n2 e2 then 0 else if vC c s1 n1 e1<vC c s2 n2 e2 then -1 else 1),0,()):=by
 show t46 S99.pre S99.F S100.pre S100.F S101.pre S101.F S47.pre S47.F (dy s1 n1 e1) (dy s2 n2 e2)=_
 unfold t46
 have p99:=T99_bc hc s1 s2 h1 h2
 have i1:=T100_bc hc s1 h1
 have i2:=T100_bc hc s2 h2
 have v1:=vC_od hc s1 n1 h1.1
 have v2:=vC_od hc s2 n2 h2.1
 obtain ⟨s,n,e,p101,g1,g2,g3,g4⟩:=T101_bc hc (od s1 n1 e1).1 (od s1 n1 e1).2.1 (od s1 n1 e1).2.2 (!(od s2 n2 e2).1) (od s2 n2 e2).2.1 (od s2 n2 e2).2.2 (h1.od hc s1) (h2.od hc s2)
 rw [vC_not,v1.2,v2.2] at g4
 have p47:=T47_eq s (lt5000 (big_lt g3 (by decide))) e
 rw [sign_valC (c:=c),g4] at p47
 have p99:T99 (((dy s1 n1 e1).1,(dy s1 n1 e1).2),((dy s2 n2 e2).1,(dy s2 n2 e2).2),())=some (0,()):=p99
 have i1:T100 (((dy s1 n1 e1).1,(dy s1 n1 e1).2),())=some (dyO (od s1 n1 e1),()):=i1
 have i2:T100 (((dy s2 n2 e2).1,(dy s2 n2 e2).2),())=some (dyO (od s2 n2 e2),()):=i2
 have p101:T101 (dyO (od s1 n1 e1),(!(dyO (od s2 n2 e2)).1,(dyO (od s2 n2 e2)).2),())=some (dy s n e,()):=p101
 simp only [pre99 p99,fun99 p99,pre100 i1,fun100 i1,pre100 i2,fun100 i2,pre101 p101,fun101 p101,pre47 p47,fun47 p47,cond_true,bne_self_eq_false,cond_false]
 congr 2
 by_cases hA:vC c s1 n1 e1=vC c s2 n2 e2
 ·rw [if_pos hA,if_pos (by omega)]
 ·rw [if_neg hA,if_neg (by omega)]
  by_cases hB:vC c s1 n1 e1<vC c s2 n2 e2
  ·rw [if_pos hB,if_pos (by omega)]
  ·rw [if_neg hB,if_neg (by omega)]
theorem cC_parts {c:Int} (hc:-4000≤c∧c≤0) {S:Int} (h:S.natAbs<2^5000):∃ s n e,cC c S=dy s n e∧Bc c n e∧vC c s n e=S:=by
 have hb:Bc c S.natAbs (c):=⟨Int.le_refl _,by have:=hc.2; omega,by rw [Int.sub_self]; simpa using h⟩
 refine ⟨_,_,_,rfl,hb.od hc _,?_⟩
 rw [(vC_od hc (decide (S<0)) S.natAbs (Int.le_refl (c))).2]
 unfold vC
 rw [Int.sub_self]
 by_cases hS:S<0
 ·rw [decide_eq_true hS]; simp; omega
 ·rw [decide_eq_false hS]; simp; omega
theorem add_cC {c:Int} (hc:-4000≤c∧c≤0) {S T:Int} (h1:S.natAbs<2^5000) (h2:T.natAbs<2^5000):T49 (cC c S,cC c T,())=some (cC c (S+T),0,()):=by
 obtain ⟨s,n,e,a1,a2,a3⟩:=cC_parts hc h1
 obtain ⟨s',n',e',b1,b2,b3⟩:=cC_parts hc h2
 rw [a1,b1,T49_cc hc s s' a2 b2,a3,b3]
theorem cmp_cC {c:Int} (hc:-4000≤c∧c≤0) {S T:Int} (h1:S.natAbs<2^5000) (h2:T.natAbs<2^5000):T46 (cC c S,cC c T,())=some ((if S=T then 0 else if S<T then -1 else 1),0,()):=by
 obtain ⟨s,n,e,a1,a2,a3⟩:=cC_parts hc h1
 obtain ⟨s',n',e',b1,b2,b3⟩:=cC_parts hc h2
 rw [a1,b1,T46_cc hc s s' a2 b2,a3,b3]
end VL
namespace VL
open Go Vx
theorem mul_cC {c c':Int} (hc:-4000≤c∧c≤0) (hc':-4000≤c'∧c'≤0) (hcc:-4000≤c+c') {S T:Int} (hS:S.natAbs<2^5000) (hT:T.natAbs<2^5000) (hST:(S*T).natAbs<2^5000) :
  T360 (cC c S,cC c' T,())=some (cC (c+c') (S*T),0,()):=by
 have b1:Bc c S.natAbs c:=⟨Int.le_refl _,by omega,by rw [Int.sub_self]; simpa using hS⟩
 have b2:Bc c' T.natAbs c':=⟨Int.le_refl _,by omega,by rw [Int.sub_self]; simpa using hT⟩
 have B1:=b1.od hc (decide (S<0))
 have B2:=b2.od hc' (decide (T<0))
 have v1:=(vC_od hc (decide (S<0)) S.natAbs (Int.le_refl c)).2
 have v2:=(vC_od hc' (decide (T<0)) T.natAbs (Int.le_refl c')).2
 have w1:vC c (decide (S<0)) S.natAbs c=S:=by
  unfold vC
  rw [Int.sub_self]
  by_cases hS:S<0
  ·rw [decide_eq_true hS]; simp; omega
  ·rw [decide_eq_false hS]; simp; omega
 have w2:vC c' (decide (T<0)) T.natAbs c'=T:=by
  unfold vC
  rw [Int.sub_self]
  by_cases hS:T<0
  ·rw [decide_eq_true hS]; simp; omega
  ·rw [decide_eq_false hS]; simp; omega
 have i1:=od_idem (decide (S<0)) S.natAbs c
 have i2:=od_idem (decide (T<0)) T.natAbs c'
 unfold cC
 generalize hd1:od (decide (S<0)) S.natAbs c=D1 at *
 generalize hd2:od (decide (T<0)) T.natAbs c'=D2 at *
 obtain ⟨s1,n1,e1⟩:=D1
 obtain ⟨s2,n2,e2⟩:=D2
 dsimp only at B1 B2 v1 v2 i1 i2
 have key:((n1*n2*2^(e1+e2-(c+c')).toNat:Nat):Int)=((n1*2^(e1-c).toNat:Nat):Int)*((n2*2^(e2-c').toNat:Nat):Int):=by
  rw [← Int.natCast_mul]
  congr 1
  have h1:=B1.1
  have h2:=B2.1
  rw [show (e1+e2-(c+c')).toNat=(e1-c).toNat+(e2-c').toNat by omega,Nat.pow_add,Nat.mul_assoc n1 n2,Nat.mul_left_comm n2,← Nat.mul_assoc,← Nat.mul_assoc]
 have hv:vC (c+c') (!(s1==s2)) (n1*n2) (e1+e2)=S*T:=by
  rw [← w1,← w2,← v1,← v2]
  unfold vC
  rw [key]
  generalize ((n1*2^(e1-c).toNat:Nat):Int)=x
  generalize ((n2*2^(e2-c').toNat:Nat):Int)=y
  cases s1 <;> cases s2 <;> simp [Int.mul_neg,Int.neg_mul]
 have hnn:n1*n2<2^5000:=by
  have h3:(S*T).natAbs=n1*n2*2^(e1+e2-(c+c')).toNat:=by
   rw [← hv]
   unfold vC
   cases (!(s1==s2))
   ·rw [cond_false]; omega
   ·rw [cond_true]; omega
  have:=Nat.le_mul_of_pos_right (n1*n2) (Nat.two_pow_pos (e1+e2-(c+c')).toNat)
  omega
 have l1:=B1.lt
 have l2:=B2.lt
 have up:∀ {x:Nat},x<2^5000→x<(2^64)^1024:=fun h=>by
  rw [pow64_2]
  exact Nat.lt_of_lt_of_le h (Nat.pow_le_pow_right (by decide) (by decide))
 have big:(2:Nat)^5000≤2^6000:=Nat.pow_le_pow_right (by decide) (by decide)
 have x1:=B1.1
 have x2:=B1.2.1
 have x3:=B2.1
 have x4:=B2.2.1
 have q1:=T103_ok s1 l1 (by decide) e1 (by omega)
 have q2:=T103_ok s2 l2 (by decide) e2 (by omega)
 have q3:=T100_bc hc s1 B1
 have q4:=T100_bc hc' s2 B2
 have q5:=T325_eq (up l1) (up l2) (up hnn)
 have q6:=T104_ok (!(s1==s2)) (n:=n1*n2) (Nat.lt_of_lt_of_le hnn big) (e1+e2) (by omega)
 rw [i1] at q3
 rw [i2] at q4
 have q99:T99 (dy s1 n1 e1,dy s2 n2 e2,())=some (0,()):=by
  show t99 S103.pre S103.F (dy s1 n1 e1) (dy s2 n2 e2)=_
  unfold t99
  have q1:T103 (((dy s1 n1 e1).1,(dy s1 n1 e1).2),())=some (0,()):=q1
  have q2:T103 (((dy s2 n2 e2).1,(dy s2 n2 e2).2),())=some (0,()):=q2
  simp only [pre103 q1,fun103 q1,pre103 q2,fun103 q2,cond_true,bne_self_eq_false,cond_false]
 have hw:IntKind.wrap .i64 (e1+e2)=e1+e2:=wrapI (by omega)
 have hcan:=cC_of (c:=c+c') (!(s1==s2)) (n1*n2) (e:=e1+e2) (by omega)
 rw [hv] at hcan
 show T360 (dy s1 n1 e1,dy s2 n2 e2,())=some (cC (c+c') (S*T),0,())
 rw [← hcan]
 show t360 S99.pre S99.F S100.pre S100.F S325.pre S325.F S104.pre S104.F (dy s1 n1 e1) (dy s2 n2 e2)=_
 unfold t360
 have q99:T99 (((dy s1 n1 e1).1,(dy s1 n1 e1).2),((dy s2 n2 e2).1,(dy s2 n2 e2).2),())=some (0,()):=q99
 have q3:T100 (((dy s1 n1 e1).1,(dy s1 n1 e1).2),())=some (dy s1 n1 e1,()):=q3
 have q4:T100 (((dy s2 n2 e2).1,(dy s2 n2 e2).2),())=some (dy s2 n2 e2,()):=q4
 have q5:T325 ((dy s1 n1 e1).2.1,(dy s2 n2 e2).2.1,())=some (Dw (n1*n2),0,()):=q5
 have hw':IntKind.wrap .i64 ((dy s1 n1 e1).2.2.1+(dy s2 n2 e2).2.2.1)=e1+e2:=hw
 have q6:T104 ((!((dy s1 n1 e1).1==(dy s2 n2 e2).1),(Dw (n1*n2),(e1+e2,()))),())=some (dyO (od (!(s1==s2)) (n1*n2) (e1+e2)),0,()):=q6
 dsimp only
 simp only [pre99 q99,fun99 q99,cond_true,bne_self_eq_false,cond_false,pre100 q3,fun100 q3,pre100 q4,fun100 q4,pre325 q5,fun325 q5,hw',pre104 q6,fun104 q6]
theorem T361_eq {c:Int} (hc:-2000≤c∧c≤0) {S:Int} (hS:S.natAbs<2^5000) (hSS:(S*S).natAbs<2^5000):T361 (cC c S,())=some (cC (c+c) (S*S),()):=by
 show t361 S360.pre S360.F (cC c S)=_
 unfold t361
 have p:=mul_cC (c:=c) (c':=c) (by omega) (by omega) (by omega) hS hS hSS
 have p:T360 (((cC c S).1,(cC c S).2),((cC c S).1,(cC c S).2),())=_:=p
 simp only [pre360 p,fun360 p,cond_true]
theorem T362_eq {c:Int} (hc:-4000≤c∧c≤0) {S T:Int} (hS:S.natAbs<2^5000) (hT:T.natAbs<2^5000):T362 (cC c S,cC c T,())=some ((if S=T then 0 else if S<T then -1 else 1),()):=by
 show t362 S46.pre S46.F (cC c S) (cC c T)=_
 unfold t362
 have p:=cmp_cC hc hS hT
 have p:T46 (((cC c S).1,(cC c S).2),((cC c T).1,(cC c T).2),())=_:=p
 simp only [pre46 p,fun46 p,cond_true,bne_self_eq_false,cond_false]
theorem pv_lt {f:Int} (hf:Fm f) (x:Nat):pv f x<2^2260:=by
 have h1:=mant_lt hf x
 have h2:=xpn_tight hf x
 have h4:=qm_ge hf
 have h3:pv f x<2^53*2^(xpn f x-qm f).toNat:=Nat.mul_lt_mul_of_pos_right h1 (Nat.two_pow_pos _)
 rw [← Nat.pow_add] at h3
 exact Nat.lt_of_lt_of_le h3 (Nat.pow_le_pow_right (by decide) (by omega))
theorem vA_plain {f:Int} (hf:Fm f) {x:Nat} (h:x<infF f):vA f x=(pv f x:Int):=by
 obtain ⟨_,a2,_⟩:=plain_facts hf h
 unfold vA vI
 rw [a2]; rfl
theorem val40 {f:Int} {a:Nat} (h:chk f a=0) (hfin:eF f a≠fullF f):T40 (f,(a:Int),())=some (cd f (vA f a),0,()):=by
 have h1:=T40_fin h hfin
 rw [cd_of _ _ (xpn_ge f a)] at h1
 exact h1
structure Beside (f:Int) (R d:Nat) (more:Bool) (B:Nat) (inex:Bool) (r:Int→Nat×Nat):Prop where
 fin:B+1<infF f
 pos:B≠0
 low:pv f B*2^d≤R
 high:R<pv f (B+1)*2^d
 ex:inex=(more||decide (pv f B*2^d≠R))
 any:∀ m,0≤m∧m≤5→((r m).1=B∨(inex=true∧(r m).1=B+1))∧(r m).2=(bif inex then 16 else 0)
 down:(r 4).1=B
 up:(r 3).1=B+(bif inex then 1 else 0)
end VL
namespace VL
open Go Vx
theorem hypX_V {f m:Int} (hf:Fm f) {n k:Nat} {x y:Int} (h0:n≠0∨k≠0) (hx:-1100≤x∧x≤1100) (hy:-1100≤y∧y≤1100) :
  hypX f m n x k y=rootB f m (n*2^(x+2600).toNat*(n*2^(x+2600).toNat)+k*2^(y+2600).toNat*(k*2^(y+2600).toNat)) (-2600):=by
 have hPl:=fP_le hf
 have hS:=sqsum_at (x:=x) (y:=y) h0
 obtain ⟨t,ht⟩:=Int.eq_ofNat_of_zero_le (show 0≤min x y+2500 by omega)
 have hX:2^(2*100)≤sqsum n x k y (min x y)*2^200:=by
  have:=Nat.mul_le_mul_right (2^200) (show 1≤sqsum n x k y (min x y) by omega)
  rw [Nat.one_mul] at this
  exact this
 have hb:=isq_blen hX
 have hX0:sqsum n x k y (min x y)*2^200≠0:=Nat.mul_ne_zero hS (by decide)
 have:=rootB_fine (f:=f) (m:=m) (k:=t) (E:=min x y-100) hf hX0 (by omega)
 unfold hypX
 rw [← this,show min x y-100-(t:Int)=-2600 by omega]
 congr 1
 unfold sqsum
 rw [mul_sq,mul_sq,← Nat.pow_add,← Nat.pow_add,← Nat.pow_add,Nat.mul_assoc,← Nat.pow_add,Nat.add_mul,Nat.mul_assoc,Nat.mul_assoc (k*k),← Nat.pow_add,← Nat.pow_add]
 congr 3
 ·omega
 ·omega
noncomputable def hypQ (f m:Int) (a b:Nat):Nat×Nat:=if a=0∧b=0 then (0,0) else rootB f m (VV f a*VV f a+VV f b*VV f b) (-2600)
theorem hypQ_comm (f m:Int) (a b:Nat):hypQ f m a b=hypQ f m b a:=by
 unfold hypQ
 rw [Nat.add_comm]
 by_cases h:a=0∧b=0
 ·rw [if_pos h,if_pos ⟨h.2,h.1⟩]
 ·rw [if_neg h,if_neg (fun h2=>h ⟨h2.2,h2.1⟩)]
theorem hyp_Q {f m:Int} (hf:Fm f) (hm:0≤m∧m≤5) {a b:Nat} (ha:chk f a=0) (hb:chk f b=0) (fa:eF f a≠fullF f) (fb:eF f b≠fullF f) :
  hypF f m a b=(((hypQ f m (absF f a) (absF f b)).1:Int),((hypQ f m (absF f a) (absF f b)).2:Int),0,()):=by
 have c1:chkL f m [a,b]=0:=by
  unfold chkL okL
  rw [if_neg (show ¬ ¬ Fm f from fun h=>h hf),if_neg (show ¬ (m<0∨m>5) by omega),List.all_cons,List.all_cons,List.all_nil,ha,hb]
  rfl
 have n1:=(part_vals fa).1
 have n2:=(part_vals fb).1
 have i1:isInf f a=false:=by unfold isInf; rw [beq_eq_false_iff_ne.2 fa]; rfl
 have i2:isInf f b=false:=by unfold isInf; rw [beq_eq_false_iff_ne.2 fb]; rfl
 have z1:=zro_absF hf a
 have z2:=zro_absF hf b
 obtain ⟨m1,m2⟩:=mant_of_abs hf a
 obtain ⟨m3,m4⟩:=mant_of_abs hf b
 unfold hypF
 rw [c1,if_neg (by decide),n1,n2,snan_nan n1,snan_nan n2,i1,i2]
 simp only [Bool.or_self,cond_false]
 unfold hypQ
 cases hz:zro f a&&zro f b
 ·rw [cond_false,if_neg (fun h=>by rw [z1,z2] at h; rw [h.1,h.2] at hz; cases hz)]
  have h0:mant f a≠0∨mant f b≠0:=by
   rw [Bool.and_eq_false_iff] at hz
   rcases hz with hz | hz
   ·exact .inl (zro_mant hz)
   ·exact .inr (zro_mant hz)
  have:=hypX_V (m:=m) hf h0 (xpn_tight hf a) (xpn_tight hf b)
  rw [this]
  unfold VV
  rw [m1,m2,m3,m4]
 ·rw [Bool.and_eq_true] at hz
  rw [cond_true,if_pos ⟨by rw [z1]; exact hz.1,by rw [z2]; exact hz.2⟩]
  rfl
theorem hyp_mode {f m:Int} {a b:Nat} (h:(hypF f m a b).2.2.1=0):0≤m∧m≤5:=by
 by_cases hk:chkL f m [a,b]=0
 ·exact (chkL_zero hk).2.1
 ·unfold hypF at h
  rw [if_pos hk] at h
  exact absurd h hk
theorem sq_low {V W K b:Nat} {inex:Bool} (hK:0<K) (hV:V=W*(K*K)) (h1:b*K≤isq V) (h3:inex=(!decide (isq V*isq V=V)||decide (b*K≠isq V))) :
  b*b≤W∧(b*b=W↔inex=false):=by
 have hKK:0<K*K:=Nat.mul_pos hK hK
 have a1:=isq_le V
 have a3:=sq_mono h1
 rw [mul_sq] at a3
 refine ⟨Nat.le_of_mul_le_mul_right (show b*b*(K*K)≤W*(K*K) by omega) hKK,?_⟩
 rw [h3,Bool.or_eq_false_iff,Bool.not_eq_false',decide_eq_true_eq,decide_eq_false_iff_not,Classical.not_not]
 constructor
 ·intro h
  have h4:V=(b*K)*(b*K):=by rw [hV,← h,mul_sq]
  have h5:isq V=b*K:=by rw [h4,isq_sq]
  rw [h5]
  exact ⟨h4.symm,rfl⟩
 ·rintro ⟨h4,h5⟩
  rw [← h5,mul_sq] at h4
  exact Nat.eq_of_mul_eq_mul_right hKK (h4.trans hV)
theorem sq_high {V W K b1:Nat} (hV:V=W*(K*K)) (h2:isq V<b1*K):W<b1*b1:=by
 have a2:=isq_lt V
 have a4:=sq_mono (show isq V+1≤b1*K from h2)
 rw [mul_sq] at a4
 exact Nat.lt_of_mul_lt_mul_right (a:=K*K) (show W*(K*K)<b1*b1*(K*K) by omega)
structure Sides (f:Int) (W B:Nat) (inex:Bool) (r:Int→Nat×Nat):Prop where
 fin:B<infF f
 any:∀ m,0≤m∧m≤5→((r m).1=B∨(inex=true∧(r m).1=B+1))∧(inex=false→(r m).2=0)∧(inex=true→(r m).2=16∨(r m).2=20∨(r m).2=24)∧((r m).1=infF f→(r m).2=20)
 down:(r 4).1=B
 up:(r 3).1=B+(bif inex then 1 else 0)
 low:pv f B*pv f B≤W
 ex:pv f B*pv f B=W↔inex=false
 high:B+1<infF f→inex=true→W<pv f (B+1)*pv f (B+1)
theorem VV_zero {f:Int} (hf:Fm f) {x:Nat} (h:x<infF f):VV f x=0↔x=0:=by
 constructor
 ·intro h2
  rcases Nat.eq_zero_or_pos x with h3 | h3
  ·exact h3
  ·exact absurd h2 (VV_ne (plain_mant hf h (by omega)))
 ·rintro rfl
  have hz:=plain_zro hf h
  have:=zro_mantB f 0
  rw [hz,decide_eq_true rfl,beq_iff_eq] at this
  unfold VV
  rw [show mant f 0=0 by omega,Nat.zero_mul]
theorem hyp_sides {f:Int} (hf:Fm f) {a b:Nat} (ha:a<infF f) (hb:b<infF f) :
  ∃ B inex,Sides f (pv f a*pv f a+pv f b*pv f b) B inex (fun m=>hypQ f m a b)∧(∀ m,0≤m∧m≤5→a≤(hypQ f m a b).1∧b≤(hypQ f m a b).1)∧(hypQ f 3 a b).1≤magI f 3 false (pv f a+pv f b):=by
 have hinf:=infF_pos hf
 have hva:=VV_pv hf a
 have hvb:=VV_pv hf b
 have hq:=qm_ge hf
 have hKK:=Nat.two_pow_pos (qm f+2600).toNat
 have za:=VV_zero hf ha
 have zb:=VV_zero hf hb
 by_cases h0:a=0∧b=0
 ·have hp0:pv f 0=0:=by
   have hz:=(VV_zero hf (x:=0) (by omega)).2 rfl
   rw [VV_pv hf] at hz
   rcases Nat.mul_eq_zero.1 hz with h | h
   ·exact h
   ·omega
  obtain ⟨rfl,rfl⟩:=h0
  have hQ:∀ m,hypQ f m 0 0=(0,0):=fun m=>by unfold hypQ; rw [if_pos ⟨rfl,rfl⟩]
  refine ⟨0,false,⟨by omega,fun m _=>?_,?_,?_,?_,?_,?_⟩,fun m _=>⟨Nat.zero_le _,Nat.zero_le _⟩,by rw [hQ]; exact Nat.zero_le _⟩
  ·rw [hQ]
   exact ⟨.inl rfl,fun _=>rfl,fun h=>(by cases h),fun h=>(by dsimp only at h; omega)⟩
  ·rw [hQ]
  ·rw [hQ]; rfl
  ·rw [hp0]; exact Nat.zero_le _
  ·rw [hp0]; exact ⟨fun _=>rfl,fun _=>rfl⟩
  ·intro _ h; cases h
 ·have hQ:∀ m,hypQ f m a b=rootB f m (VV f a*VV f a+VV f b*VV f b) (-2600):=fun m=>by unfold hypQ; rw [if_neg h0]
  have hS0:VV f a*VV f a+VV f b*VV f b≠0:=fun h=>by
   have h1:VV f a*VV f a=0:=by omega
   have h2:VV f b*VV f b=0:=by omega
   exact h0 ⟨za.1 ((Nat.mul_eq_zero.1 h1).elim id id),zb.1 ((Nat.mul_eq_zero.1 h2).elim id id)⟩
  obtain ⟨d,hd⟩:=Int.eq_ofNat_of_zero_le (show 0≤qm f+2600 by omega)
  have hd2:(-2600:Int)=qm f-d:=by omega
  rw [hd,Int.toNat_natCast] at hva hvb hKK
  have hR:=isq_pos hS0
  obtain ⟨B,inex,k1,k2,k3,_,k5,k6⟩:=sticky_floor hf (R:=isq (VV f a*VV f a+VV f b*VV f b)) (by omega) d (!decide (isq (VV f a*VV f a+VV f b*VV f b)*isq (VV f a*VV f a+VV f b*VV f b)=VV f a*VV f a+VV f b*VV f b))
  have hV:VV f a*VV f a+VV f b*VV f b=(pv f a*pv f a+pv f b*pv f b)*(2^d*2^d):=by
   rw [hva,hvb,mul_sq,mul_sq,← Nat.add_mul]
  obtain ⟨l1,l2⟩:=sq_low hKK hV k2 k5
  have hr:∀ m,hypQ f m a b=rndM2 f m (isq (VV f a*VV f a+VV f b*VV f b)) (qm f-d) (!decide (isq (VV f a*VV f a+VV f b*VV f b)*isq (VV f a*VV f a+VV f b*VV f b)=VV f a*VV f a+VV f b*VV f b)):=fun m=>by
   rw [hQ,rootB_M2,hd2]
  refine ⟨B,inex,⟨k1,fun m hm=>?_,?_,?_,l1,l2,fun hf1 hi=>sq_high hV (k3.resolve_right (by omega))⟩,fun m hm=>?_,?_⟩
  ·obtain ⟨g1,_,_,g4,g5,g6,_⟩:=k6 m hm
   rw [hr]
   exact ⟨g1,g4,fun h=>(by rcases g5 h with h | h | h; exact .inl h; exact .inr (.inl h); exact .inr (.inr h.1)),g6⟩
  ·rw [hr]; exact (k6 4 (by decide)).2.1 rfl
  ·rw [hr]; exact (k6 3 (by decide)).2.2.1 rfl
  ·have one:∀ c,c<infF f→VV f c*VV f c≤VV f a*VV f a+VV f b*VV f b→c≤(hypQ f m a b).1:=fun c hc hle=>by
    rcases Nat.eq_zero_or_pos c with h | h
    ·omega
    ·have hm0:=plain_mant hf hc (by omega)
     have hx:=xpn_tight hf c
     have:=root_up hf hm (X:=VV f c*VV f c) (Nat.mul_ne_zero (VV_ne hm0) (VV_ne hm0)) hle d
     rw [rootB_sq,← hd2] at this
     have e1:rndN f m false (VV f c) (-2600) false=(c,0):=by
      unfold VV
      rw [rnd_scale hf hm0,show (-2600:Int)+((xpn f c+2600).toNat:Int)=xpn f c by omega]
      exact self_plain hf m hc (by omega)
     rw [e1] at this
     rw [hQ]
     exact this
   exact ⟨one a ha (by omega),one b hb (by omega)⟩
  ·have hn:pv f a+pv f b≠0:=fun h=>by
    have h1:pv f a=0:=by omega
    have h2:pv f b=0:=by omega
    rw [h1,Nat.zero_mul] at hva
    rw [h2,Nat.zero_mul] at hvb
    exact h0 ⟨za.1 hva,zb.1 hvb⟩
   have hsum:(pv f a+pv f b)*2^d=VV f a+VV f b:=by rw [Nat.add_mul,hva,hvb]
   have hle:VV f a*VV f a+VV f b*VV f b≤(VV f a+VV f b)*(VV f a+VV f b):=by
    rw [Nat.mul_add,Nat.add_mul,Nat.add_mul]
    omega
   have hi:isq (VV f a*VV f a+VV f b*VV f b)≤(pv f a+pv f b)*2^d:=by
    rw [hsum]
    have:=isq_mono hle
    rwa [isq_sq] at this
   have key:=sticky_mono hf (m:=3) (by decide) (R:=isq (VV f a*VV f a+VV f b*VV f b)) (R':=(pv f a+pv f b)*2^d) (by omega) d (more:=!decide (isq (VV f a*VV f a+VV f b*VV f b)*isq (VV f a*VV f a+VV f b*VV f b)=VV f a*VV f a+VV f b*VV f b)) (more':=false) (by
    rcases Nat.lt_or_ge (isq (VV f a*VV f a+VV f b*VV f b)) ((pv f a+pv f b)*2^d) with h | h
    ·exact .inl h
    ·have he:isq (VV f a*VV f a+VV f b*VV f b)=(pv f a+pv f b)*2^d:=by omega
     refine .inr ⟨he,fun h2=>?_⟩
     exfalso
     rw [Bool.not_eq_true',decide_eq_false_iff_not] at h2
     apply h2
     have h3:=isq_le (VV f a*VV f a+VV f b*VV f b)
     rw [he,hsum] at h3 ⊢
     omega)
   rw [hr]
   refine Nat.le_trans key ?_
   unfold rndM2 magI
   rw [if_neg (by decide),if_neg hn,rnd_scale hf hn,rnd_M hf,show qm f-(d:Int)+(d:Int)=qm f by omega]
   exact Nat.le_refl _
theorem sum_ge {f:Int} (hf:Fm f) {a b:Nat} (ha:a<infF f) (hb:b<infF f):∃ p:Nat,addA f 3 a b=((p:Int),((addN f 3 a b).2:Int),0,())∧magI f 3 false (pv f a+pv f b)≤p:=by
 obtain ⟨a1,_,_,_,a5,_⟩:=plain_facts hf ha
 obtain ⟨b1,_,_,_,b5,_⟩:=plain_facts hf hb
 refine ⟨(addN f 3 a b).1,?_,?_⟩
 ·unfold addA
  rw [if_pos hf,if_pos (by decide),if_pos ⟨a1,b1⟩,addR_N]
 ·have h:=sum_plc (m:=3) hf a5 b5
  rw [vA_plain hf ha,vA_plain hf hb] at h
  have h2:plcI f 3 ((pv f a:Int)+(pv f b:Int))=(magI f 3 false (pv f a+pv f b):Int):=by
   unfold plcI
   rw [if_neg (by omega),show ((pv f a:Int)+(pv f b:Int)).natAbs=pv f a+pv f b by omega]
  rw [h2] at h
  have h3:place f (addN f 3 a b).1≤((addN f 3 a b).1:Int):=by
   have:absF f (addN f 3 a b).1≤(addN f 3 a b).1:=Nat.mod_le _ _
   unfold place
   cases sF f (addN f 3 a b).1
   ·rw [cond_false]; omega
   ·rw [cond_true]; omega
  omega
theorem vA_sq {f:Int} (hf:Fm f) (a:Nat):vA f a*vA f a=((pv f (absF f a)*pv f (absF f a):Nat):Int)∧(vA f a).natAbs=pv f (absF f a):=by
 obtain ⟨m1,m2⟩:=mant_of_abs hf a
 unfold vA vI pv
 rw [m1,m2]
 generalize mant f a*2^(xpn f a-qm f).toNat=z
 cases sF f a
 ·simp
 ·simp [Int.neg_mul_neg]
theorem inf_pattern {f:Int} (hf:Fm f):chk f (infF f)=0∧eF f (infF f)=fullF f:=by
 rcases Fm_cases hf with rfl | rfl | rfl | rfl <;> decide +kernel
theorem T366_true (f m:Int) {a b:Nat} (ha:a<2^64) (hb:b<2^64):T366 ((f,m,(a:Int),(b:Int),()),())=some (true,()):=by
 show t366 S337.pre S337.F S112.pre S112.F S336.pre S336.F S27.pre S27.F S49.pre S49.F S40.pre S40.F S361.pre S361.F S362.pre S362.F (f,m,(a:Int),(b:Int),())=_
 unfold t366
 have p0:=T337_true
 obtain ⟨v1,p1,w1⟩:=T112_all (f:=f) ha
 obtain ⟨v2,p2,w2⟩:=T112_all (f:=f) hb
 obtain ⟨v3,p3,w3⟩:=T40_all (f:=f) ha
 obtain ⟨v4,p4,w4⟩:=T40_all (f:=f) hb
 have p5:=T336_eq f m ha hb
 dsimp only
 simp only [pre337 p0,fun337 p0,cond_true,Bool.not_true,cond_false,pre112 p1,fun112 p1,pre112 p2,fun112 p2,pre40 p3,fun40 p3,pre40 p4,fun40 p4,pre336 p5,fun336 p5]
 cases hbad:(((((chk f a != 0)||(chk f b != 0))||(v3.2.1 != 0))||(v4.2.1 != 0))||((hypF f m a b).2.2.1 != 0))
 case true=>rfl
 rw [Bool.or_eq_false_iff,Bool.or_eq_false_iff,Bool.or_eq_false_iff,Bool.or_eq_false_iff,bne_eq_false_iff_eq,bne_eq_false_iff_eq,bne_eq_false_iff_eq,bne_eq_false_iff_eq,bne_eq_false_iff_eq] at hbad
 obtain ⟨⟨⟨⟨b1,b2⟩,b3⟩,b4⟩,b5⟩:=hbad
 obtain ⟨hf,_⟩:=chk_zero b1
 have hm:=hyp_mode b5
 have fa:=(w3.1 b3).2
 have fb:=(w4.1 b4).2
 have f1:=fin_abs hf fa
 have f2:=fin_abs hf fb
 have hq:=qm_ge hf
 have hq2:=qm_neg hf
 have x1:=val40 b1 fa
 have x2:=val40 b2 fb
 rw [x1] at p3
 rw [x2] at p4
 obtain rfl:=Option.some.inj p3
 obtain rfl:=Option.some.inj p4
 rw [w1 b1,w2 b2,hyp_Q hf hm b1 b2 fa fb]
 obtain ⟨s1,s2⟩:=vA_sq hf a
 obtain ⟨s3,s4⟩:=vA_sq hf b
 generalize absF f a=A at *
 generalize absF f b=B' at *
 have hA64:=(plain_lt hf f1).2.2
 have hB64:=(plain_lt hf f2).2.2
 have habs:∀ z,z<infF f→absF f z=z:=fun z hz=>plain_abs hf hz
 have hyp:∀ (k:Int) (y z:Nat),0≤k∧k≤5→y<infF f→z<infF f→T336 (f,k,(y:Int),(z:Int),())=some (((hypQ f k y z).1:Int),((hypQ f k y z).2:Int),0,()):=fun k y z hk hy hz=>by
  obtain ⟨c1,_,_,_,c5,_⟩:=plain_facts hf hy
  obtain ⟨d1,_,_,_,d5,_⟩:=plain_facts hf hz
  rw [T336_eq f k (plain_lt hf hy).2.2 (plain_lt hf hz).2.2,hyp_Q hf hk c1 d1 c5 d5,habs y hy,habs z hz]
 have p6:=hyp m B' A hm f2 f1
 have p7:=hyp 4 A B' (by decide) f1 f2
 have p8:=hyp 3 A B' (by decide) f1 f2
 rw [hypQ_comm] at p6
 obtain ⟨p,t1,t2⟩:=sum_ge hf f1 f2
 have p9:=T27_eq f 3 hA64 hB64
 rw [t1] at p9
 obtain ⟨B,inex,hS,hge,hup⟩:=hyp_sides hf f1 f2
 have hg:=hge m hm
 have hany:=hS.any m hm
 have hdown:=hS.down
 have hupr:=hS.up
 have hlow:=hS.low
 have hex:=hS.ex
 have hhigh:=hS.high
 have hfin:=hS.fin
 have hi:(bif inex then 1 else 0)<2:=by cases inex <;> decide
 have bA:=pv_lt hf A
 have bB:=pv_lt hf B'
 have bl:=pv_lt hf B
 have sqb:∀ z:Nat,z<2^2260→z*z<2^4600∧z<2^5000:=fun z hz=>by
  have h1:z*z<2^2260*2^2260:=Nat.mul_lt_mul'' hz hz
  rw [← Nat.pow_add] at h1
  exact ⟨Nat.lt_of_lt_of_le h1 (Nat.pow_le_pow_right (by decide) (by decide)),Nat.lt_of_lt_of_le hz (Nat.pow_le_pow_right (by decide) (by decide))⟩
 have big:(2:Nat)^4600+2^4600≤2^5000:=by
  rw [dbl2 4600]
  exact Nat.pow_le_pow_right (by decide) (by decide)
 obtain ⟨u1,u2⟩:=sqb _ bA
 obtain ⟨u3,u4⟩:=sqb _ bB
 have r1:T361 (cd f (vA f a),())=some (cC (qm f+qm f) ((pv f A*pv f A:Nat):Int),()):=by
  rw [← s1]
  exact T361_eq (c:=qm f) (by omega) (by omega) (by rw [s1,Int.natAbs_natCast]; omega)
 have r2:T361 (cd f (vA f b),())=some (cC (qm f+qm f) ((pv f B'*pv f B':Nat):Int),()):=by
  rw [← s3]
  exact T361_eq (c:=qm f) (by omega) (by omega) (by rw [s3,Int.natAbs_natCast]; omega)
 have r3:=add_cC (c:=qm f+qm f) (S:=((pv f A*pv f A:Nat):Int)) (T:=((pv f B'*pv f B':Nat):Int)) (by omega) (by rw [Int.natAbs_natCast]; omega) (by rw [Int.natAbs_natCast]; omega)
 rw [← Int.natCast_add] at r3
 have hWb:pv f A*pv f A+pv f B'*pv f B'<2^5000:=by omega
 generalize pv f A*pv f A+pv f B'*pv f B'=W at *
 have val:∀ z,z<infF f→T40 (f,(z:Int),())=some (cd f ((pv f z:Nat):Int),0,()):=fun z hz=>by
  obtain ⟨c1,_,_,_,c5,_⟩:=plain_facts hf hz
  rw [val40 c1 c5,vA_plain hf hz]
 have sqv:∀ z,T361 (cd f ((pv f z:Nat):Int),())=some (cC (qm f+qm f) ((pv f z*pv f z:Nat):Int),()):=fun z=>by
  obtain ⟨g1,g2⟩:=sqb _ (pv_lt hf z)
  rw [Int.natCast_mul]
  exact T361_eq (c:=qm f) (by omega) (by rw [Int.natAbs_natCast]; exact g2) (by rw [← Int.natCast_mul,Int.natAbs_natCast]; omega)
 have x3:=val B hfin
 have r4:=sqv B
 have cmp:∀ y z:Nat,y<2^5000→z<2^5000→T362 (cC (qm f+qm f) ((y:Nat):Int),cC (qm f+qm f) ((z:Nat):Int),())=some ((if ((y:Nat):Int)=((z:Nat):Int) then 0 else if ((y:Nat):Int)<((z:Nat):Int) then -1 else 1),()):=fun y z hy hz =>
  T362_eq (by omega) (by rw [Int.natAbs_natCast]; exact hy) (by rw [Int.natAbs_natCast]; exact hz)
 have r5:=cmp (pv f B*pv f B) W (by have:=(sqb _ bl).1; omega) hWb
 have g5:decide ((if ((pv f B*pv f B:Nat):Int)=(W:Int) then (0:Int) else if ((pv f B*pv f B:Nat):Int)<(W:Int) then -1 else 1)>0)=false:=by
  apply decide_eq_false
  by_cases h:pv f B*pv f B=W
  ·rw [if_pos (by omega)]; decide
  ·rw [if_neg (by omega),if_pos (by omega)]; decide
 have e1:decide (((hypQ f m A B').1:Int)<(A:Int))=false:=decide_eq_false (by omega)
 have e2:decide (((hypQ f m A B').1:Int)<(B':Int))=false:=decide_eq_false (by omega)
 have e3:decide (((hypQ f 3 A B').1:Int)>(p:Int))=false:=decide_eq_false (by omega)
 simp only [cond_false,cond_true,pre336 p6,fun336 p6,pre336 p7,fun336 p7,pre336 p8,fun336 p8,pre27 p9,fun27 p9,pre361 r1,fun361 r1,pre361 r2,fun361 r2,pre49 r3,fun49 r3,bne_self_eq_false,Bool.or_self,Bool.false_or,Bool.or_false,e1,e2,e3]
 rw [hdown,hupr]
 simp only [pre40 x3,fun40 x3,pre361 r4,fun361 r4,pre362 r5,fun362 r5,g5,cond_true,bne_self_eq_false,Bool.true_or,Bool.false_or,Bool.or_false]
 generalize hypQ f m A B'=r at *
 obtain ⟨rr,fl⟩:=r
 dsimp only at hany hg
 obtain ⟨g1,g2,g3,g4⟩:=hany
 have e7:(((rr:Nat):Int) != ((B:Nat):Int)&&((rr:Nat):Int) != ((B+(bif inex then 1 else 0):Nat):Int))=false:=by
  rcases g1 with g | ⟨gi,g⟩
  ·rw [g,bne_self_eq_false,Bool.false_and]
  ·rw [g,gi,cond_true,bne_self_eq_false,Bool.and_false]
 rw [e7,cond_false]
 by_cases hend:B+(bif inex then 1 else 0)<infF f
 ·have x4:=val _ hend
  have r6:=sqv (B+(bif inex then 1 else 0))
  have r7:=cmp W (pv f (B+(bif inex then 1 else 0))*pv f (B+(bif inex then 1 else 0))) hWb (by have:=(sqb _ (pv_lt hf (B+(bif inex then 1 else 0)))).1; omega)
  simp only [pre40 x4,fun40 x4,pre361 r6,fun361 r6,pre362 r7,fun362 r7,cond_true,bne_self_eq_false,cond_false]
  cases inex
  ·have hW:=hex.2 rfl
   simp only [cond_false,Nat.add_zero]
   rw [g2 rfl,if_pos (by omega),beq_self_eq_true]
   rfl
  ·have hne:¬ pv f B*pv f B=W:=fun h=>by have:=hex.1 h; cases this
   have hh:=hhigh (by simpa using hend) rfl
   have e5:(((B:Nat):Int)==((B+1:Nat):Int))=false:=by rw [beq_eq_false_iff_ne]; omega
   simp only [cond_true]
   rw [if_neg (by omega),if_pos (by omega),e5]
   rcases g3 rfl with h | h | h <;> rw [h] <;> rfl
 ·have hinx:inex=true:=by
   cases inex
   ·simp only [cond_false] at hend; omega
   ·rfl
  subst hinx
  have hend:¬ B+1<infF f:=hend
  have hBe:B+1=infF f:=by omega
  obtain ⟨i1,i2⟩:=inf_pattern hf
  have x4:T40 (f,((B+1:Nat):Int),())=some ((false,[],0,()),40,()):=by
   rw [hBe]
   exact T40_full i1 i2
  simp only [cond_true,pre40 x4,fun40 x4,cond_false]
  have e40:((40:Int) != 0)=true:=rfl
  rw [e40,cond_true]
  congr 2
  rcases g1 with g | ⟨_,g⟩
  ·rw [g,beq_self_eq_true,Bool.or_true]
  ·rw [g4 (g.trans hBe)]; rfl
end VL
namespace Vx
open Go Go.RowKit Go.ChangeShapes Go.WideShapes
def wfD:(τ:Shape)→Den τ→Prop
 | .int k,n=>k.min≤n∧n≤k.max
 | .flt _,_=>True
 | .slice e,xs=>xs.length<lim∧∀ x∈xs,wfD e x
 | .pair a b,x=>wfD a x.1∧wfD b x.2
 | .bool,_=>True
 | .str,_=>True
 | .fn,_=>True
 | .unit,_=>True
theorem DRep.wfD {w:World} {S:Nat→Prop}:∀ {τ:Shape} {x:Den τ} {cs:List Value},DRep w S τ x cs→wfD τ x
 | .int _,_,_,h=>h.2
 | .flt _,_,_,_=>trivial
 | .bool,_,_,_=>trivial
 | .str,_,_,_=>trivial
 | .fn,_,_,_=>trivial
 | .unit,_,_,_=>trivial
 | .slice _,xs,_,⟨A,c,_,h1,h2,h3⟩=>by
  refine ⟨Nat.lt_of_le_of_lt h1 h2,fun x hx=>?_⟩
  obtain ⟨r,o,vs,T,fz,_,_,_,h⟩:=h3 (List.ne_nil_of_mem hx)
  obtain ⟨i,hi⟩:=List.getElem?_of_mem hx
  obtain ⟨ds,hd,_⟩:=h i x hi
  exact hd.wfD
 | .pair _ _,_,_,⟨c1,c2,_,h1,h2⟩=>⟨h1.wfD,h2.wfD⟩
def wfS:(sg:Sig)→DenS sg→Prop
 | [],_=>True
 | (_,τ)::r,x=>wfD τ x.1∧wfS r x.2
def undat {H:Type}:(τ:Shape)→(DataW H→Option (Den τ))×(List (DataW H)→Option (Den τ))
 | .int k=>(fun d=>match d with | .lit (.int k' n)=>if k'=k then some n else none | _=>none,fun _=>none)
 | .bool=>(fun d=>match d with | .lit (.bool b)=>some b | _=>none,fun _=>none)
 | .unit=>(fun d=>match d with | .agg []=>some () | _=>none,fun l=>match l with | []=>some () | _=>none)
 | .pair a b =>
  let f:=fun l=>match l with
   | d::r=>(match (undat a).1 d,(undat b).2 r with | some x,some y=>some (x,y) | _,_=>none)
   | []=>none
  (fun d=>match d with | .agg l=>f l | _=>none,f)
 | .flt _=>(fun _=>none,fun _=>none)
 | .str=>(fun _=>none,fun _=>none)
 | .fn=>(fun _=>none,fun _=>none)
 | .slice _=>(fun _=>none,fun _=>none)
def fitF (P:Program) (g:TypeId→Shape→Bool):List Field→Nat→Shape→Bool
 | [],_,.unit=>true
 | f::fs,o,.pair a b=>(f.offset==o)&&(P.cellsOf f.type==a.width)&&g f.type a&&fitF P g fs (o+a.width) b
 | _,_,_=>false
def fitB (P:Program):Nat→TypeId→Shape→Bool
 | 0,_,_=>false
 | n+1,t,τ=>match P.underlying t with
  | some (.int k)=>(match τ with | .int k'=>decide (k=k') | _=>false)
  | some .bool=>(match τ with | .bool=>true | _=>false)
  | some (.slice e)=>(match τ with | .slice σ=>(P.cellsOf e==σ.width)&&decide (0<σ.width)&&fitB P n e σ | _=>false)
  | some (.struct fs)=>(P.cellsOf t==τ.width)&&fitF P (fitB P n) fs.toList 0 τ
  | _=>false
theorem choose_list {A:Type} {Q:Nat→A→Prop}:∀ (n:Nat),(∀ i,i<n→∃ x,Q i x)→∃ xs:List A,xs.length=n∧∀ i x,xs[i]? = some x→Q i x
 | 0,_=>⟨[],rfl,fun i x h=>by simp at h⟩
 | n+1,h=>by
  obtain ⟨xs,h1,h2⟩:=choose_list n fun i hi=>h i (by omega)
  obtain ⟨x,hx⟩:=h n (by omega)
  refine ⟨xs++[x],by simp [h1],fun i y hy=>?_⟩
  rcases Nat.lt_or_ge i n with hi | hi
  ·rw [List.getElem?_append_left (by omega)] at hy
   exact h2 i y hy
  ·rw [List.getElem?_append_right (by omega)] at hy
   have:i=n:=by
    have:=(List.getElem?_eq_some_iff.1 hy).1
    simp at this; omega
   subst this
   simp [h1] at hy
   exact hy ▸ hx
theorem wf_int {k:IntKind} {n:Int} (h:(Lit.int k n).wf=true):k.min≤n∧n≤k.max:=by
 simpa [Lit.wf] using h
section
variable {H:Type} {enc:TypeId×Value→H} {P:Program} {W:World} {spare:Nat→Bool} {held:Bool}
theorem fitF_ok {n:Nat} {m:Nat} {cs:List Value} (ih:∀ (t:TypeId) (τ:Shape) (cs:List Value) (d:DataW H) (p:List MemPlace),fitB P n t τ=true→DataW.trod enc P W 0 spare held m t cs=some (d,p)→∃ x:Den τ,DRep W (fun q=>q<W.heap.size) τ x cs∧∀ y,(undat τ).1 d=some y→x=y) :
  ∀ (l:List Field) (o:Nat) (τ:Shape) (xs:List (DataW H×List MemPlace)),fitF P (fitB P n) l o τ=true→xs.length=l.length→cs.length=o+τ.width →
   (∀ (i:Nat) (f:Field),l[i]? = some f→DataW.trod enc P W 0 spare held m f.type ((cs.drop f.offset).take (P.cellsOf f.type))=xs[i]?) →
   ∃ x:Den τ,DRep W (fun q=>q<W.heap.size) τ x (cs.drop o)∧∀ y,(undat τ).2 (xs.map (·.1))=some y→x=y
 | [],o,τ,xs,hf,hx,hl,_=>by
  cases τ <;> simp [fitF] at hf
  refine ⟨(),?_,fun _ _=>rfl⟩
  show cs.drop o=[]
  apply List.drop_eq_nil_of_le
  simp [Shape.width] at hl
  omega
 | f::fs,o,τ,xs,hf,hx,hl,h=>by
  cases τ with
  | pair a b =>
   simp only [fitF,Bool.and_eq_true,beq_iff_eq] at hf
   obtain ⟨⟨⟨ho,hc⟩,hg⟩,hr⟩:=hf
   cases xs with
   | nil=>simp at hx
   | cons x0 xs =>
    have h0:=h 0 f rfl
    rw [ho,hc] at h0
    simp only [List.getElem?_cons_zero] at h0
    obtain ⟨xa,ha,hua⟩:=ih f.type a _ x0.1 x0.2 hg h0
    simp only [Shape.width] at hl
    obtain ⟨xb,hb,hub⟩:=fitF_ok ih fs (o+a.width) b xs hr (by simpa using hx) (by rw [hl]; omega) fun i g hi=>by
     have:=h (i+1) g (by simpa using hi)
     simpa using this
    refine ⟨(xa,xb),⟨(cs.drop o).take a.width,cs.drop (o+a.width),?_,ha,hb⟩,fun y hy=>?_⟩
    ·rw [← List.drop_drop,List.take_append_drop]
    ·simp only [undat,List.map_cons] at hy
     split at hy
     ·rename_i e1 e2
      have:=hua _ e1; have:=hub _ e2
      subst_vars
      exact Option.some.inj hy
     ·cases hy
  | _=>simp [fitF] at hf
theorem fit_ok:∀ (n:Nat) (m:Nat) (t:TypeId) (τ:Shape) (cs:List Value) (d:DataW H) (p:List MemPlace),fitB P n t τ=true→DataW.trod enc P W 0 spare held m t cs=some (d,p) →
  ∃ x:Den τ,DRep W (fun q=>q<W.heap.size) τ x cs∧∀ y,(undat τ).1 d=some y→x=y
 | 0,_,_,_,_,_,_,h,_=>by simp [fitB] at h
 | n+1,m,t,τ,cs,d,p,h,ht=>by
  unfold fitB at h
  split at h
  ·rename_i k hk
   cases τ with
   | int k' =>
    simp only [decide_eq_true_eq] at h
    subst h
    obtain ⟨v,hv,hx,hw⟩:=DataW.trod_int hk ht
    simp only [Prod.mk.injEq] at hx
    refine ⟨v,⟨hv,wf_int hw⟩,fun y hy=>?_⟩
    rw [hx.1] at hy
    simp only [undat,if_true] at hy
    exact Option.some.inj hy
   | _=>cases h
  ·rename_i hk
   cases τ with
   | bool =>
    obtain ⟨v,hv,hx⟩:=DataW.trod_bool hk ht
    simp only [Prod.mk.injEq] at hx
    refine ⟨v,hv,fun y hy=>?_⟩
    rw [hx.1] at hy
    simp only [undat] at hy
    exact Option.some.inj hy
   | _=>cases h
  ·rename_i e hk
   cases τ with
   | slice σ =>
    simp only [Bool.and_eq_true,beq_iff_eq,decide_eq_true_eq] at h
    obtain ⟨⟨hc,hpos⟩,hf⟩:=h
    rcases DataW.trod_slice hk ht with ⟨hcs,hx⟩ | ⟨a,len,cap,elems,rest,m',rfl,hcs,hx,hb,hlc,hcap,hlen,hel,_⟩
    ·exact ⟨[],⟨none,0,hcs,Nat.le_refl _,by decide,fun h=>absurd rfl h⟩,fun y hy=>by simp [undat] at hy⟩
    ·have each:∀ i,i<len→∃ x:Den σ,∃ ds,W.cells? 0 (a.add (i*P.cellsOf e)) (P.cellsOf e)=some ds∧DRep W (fun q=>q<W.heap.size) σ x ds:=fun i hi=>by
      have:=hel i hi
      rw [List.getElem?_eq_getElem (by omega),Option.bind_eq_some_iff] at this
      obtain ⟨ds,h1,h2⟩:=this
      obtain ⟨x,hx,_⟩:=fit_ok n m' e σ ds (elems[i]'(by omega)).1 (elems[i]'(by omega)).2 hf h2
      exact ⟨x,ds,h1,hx⟩
     obtain ⟨xs,hxl,hxs⟩:=choose_list len each
     refine ⟨xs,⟨some a,cap,by rw [hxl]; exact hcs,by omega,by unfold lim; unfold maxLen at hcap; omega,fun hne=>?_⟩,fun y hy=>by simp [undat] at hy⟩
     have h0:0<xs.length:=List.length_pos_iff.2 hne
     obtain ⟨ds0,hd0,_⟩:=hxs 0 xs[0] (List.getElem?_eq_getElem h0)
     obtain ⟨_,hl0,hc0⟩:=World.cells?_some hd0
     have hz:a.add (0*P.cellsOf e)=a:=by simp [Addr.add]
     have hz':a.add 0=a:=by simp [Addr.add]
     rw [hz] at hc0
     have hc00:=hc0 0 (by omega)
     rw [hz',List.getElem?_eq_getElem (by omega)] at hc00
     unfold World.cell? at hc00
     split at hc00
     ·rename_i c T fz hheap
      split at hc00
      ·cases hc00
      ·rename_i hspot
       have hs:a.spot=none:=by simpa using hspot
       have hadd:∀ q,a.add q=⟨a.block,a.off+q,none⟩:=fun q=>by
        unfold Addr.add
        split
        ·subst_vars; cases a; simp at hs; simp [hs]
        ·rfl
       have ha:a=⟨a.block,a.off,none⟩:=by cases a; simp at hs; simp [hs]
       refine ⟨a.block,a.off,c,T,fz,by rw [← ha],?_,hheap,fun i x hi=>?_⟩
       ·exact (Array.getElem?_eq_some_iff.1 hheap).1
       ·obtain ⟨ds,hd,hr⟩:=hxs i x hi
        refine ⟨ds,hr,fun j v hj=>?_⟩
        obtain ⟨_,hl,hcj⟩:=World.cells?_some hd
        have hjl:j<P.cellsOf e:=by rw [← hl]; exact (List.getElem?_eq_some_iff.1 hj).1
        have:=hcj j hjl
        rw [hadd,hj] at this
        have hadd2:(⟨a.block,a.off+i*P.cellsOf e,none⟩:Addr).add j=⟨a.block,a.off+i*P.cellsOf e+j,none⟩:=by
         unfold Addr.add
         split
         ·subst_vars; rfl
         ·rfl
        rw [hadd2] at this
        unfold World.cell? at this
        simp only [hheap] at this
        rw [hc] at this
        exact this
     ·cases hc00
   | _=>cases h
  ·rename_i fs hk
   simp only [Bool.and_eq_true,beq_iff_eq] at h
   obtain ⟨hc,hf⟩:=h
   obtain ⟨xs,m',rfl,hx,hl,hxl,hel⟩:=DataW.trod_struct hk ht
   simp only [Prod.mk.injEq] at hx
   obtain ⟨x,h1,h2⟩:=fitF_ok (fun t τ cs d p=>fit_ok n m' t τ cs d p) fs.toList 0 τ xs hf (by simpa using hxl) (by rw [hl,hc]; omega) fun i f hi=>hel i f (by simpa using hi)
   refine ⟨x,by simpa using h1,fun y hy=>h2 y ?_⟩
   rw [hx.1] at hy
   cases τ with
   | pair a b=>exact hy
   | unit =>
    simp only [undat] at hy ⊢
    split at hy
    ·rename_i e; simp only [DataW.agg.injEq] at e; rw [e]
    ·cases hy
   | _=>simp [undat] at hy
  ·cases h
end
end Vx
namespace Vx
open Go Go.RowKit Go.ChangeShapes Go.WideShapes
def isStruct (P:Program) (t:TypeId):Bool:=match P.underlying t with
 | some (.struct _)=>true
 | _=>false
def fitS (P:Program) (n:Nat):List TypeId→Sig→Bool
 | [],[]=>true
 | t::ts,(a,τ)::r=>fitB P n t τ&&(a==isStruct P t)&&fitS P n ts r
 | _,_=>false
section
variable {H:Type} {enc:TypeId×Value→H} {P:Program} {W:World}
theorem cells_one {n:Nat} {t:TypeId} {τ:Shape} {r:Reach} {b0:Nat} {v:Value} (hf:fitB P n t τ=true) (hs:isStruct P t=false) (hv:Value.okWide P W r b0 t v):v.cells.toList=[v]:=by
 cases n with
 | zero=>simp [fitB] at hf
 | succ n =>
  unfold fitB at hf
  split at hf
  ·rename_i k hk; obtain ⟨_,rfl⟩:=okWide_int hk hv; rfl
  ·rename_i hk; obtain ⟨_,rfl⟩:=okWide_bool hk hv; rfl
  ·rename_i e hk; obtain ⟨_,_,_,rfl⟩:=okWide_slice hk hv; rfl
  ·rename_i fs hk; simp [isStruct,hk] at hs
  ·cases hf
theorem erep_plain {S:Nat→Prop} {a:Bool} {τ:Shape} {x:Den τ} {y:Value} (ho:ownE a τ=false) (h:PRep W S a τ x y):ERep W S a τ x y []:=by
 cases τ with
 | slice e =>
  cases a with
  | true=>cases ho
  | false=>exact ⟨rfl,h⟩
 | _=>exact ⟨rfl,h⟩
theorem args_ok {n:Nat} {sp:Nat→Bool} {held:Bool} {b0:Nat}:∀ (ts:List TypeId) (I:Sig) (vs:List Value) (ds:List (DataW H)) (ps:List MemPlace),fitS P n ts I=true →
  (∀ (j:Nat) (t:TypeId) (v:Value),ts[j]? = some t→vs[j]? = some v→Value.okWide P W .any b0 t v)→DataW.TrodAll enc P W 0 sp held ts vs ds ps→∃ x:DenS I,SRep W (fun q=>q<W.heap.size) I x vs []∧wfS I x∧ds.length=ts.length
 | [],[],vs,ds,ps,_,_,h=>by
  cases vs <;> cases ds <;> simp [DataW.TrodAll] at h
  exact ⟨(),⟨rfl,rfl⟩,trivial,rfl⟩
 | [],_::_,_,_,_,hf,_,_=>by simp [fitS] at hf
 | _::_,[],_,_,_,hf,_,_=>by simp [fitS] at hf
 | t::ts,(a,τ)::I,vs,ds,ps,hf,hv,h=>by
  cases vs with
  | nil=>simp [DataW.TrodAll] at h
  | cons v vs =>
   cases ds with
   | nil=>simp [DataW.TrodAll] at h
   | cons d ds =>
    obtain ⟨p,q,⟨m,hp⟩,hq,_⟩:=h
    simp only [fitS,Bool.and_eq_true,beq_iff_eq] at hf
    obtain ⟨⟨h1,h2⟩,h3⟩:=hf
    obtain ⟨x,hx,hw,hl⟩:=args_ok ts I vs ds q h3 (fun j t v ht hv'=>hv (j+1) t v (by simpa using ht) (by simpa using hv')) hq
    obtain ⟨y,hy,_⟩:=fit_ok n m t τ _ d p h1 hp
    have hok:=hv 0 t v rfl rfl
    refine ⟨(y,x),⟨v,vs,[],[],rfl,rfl,erep_plain ?_ ?_,hx⟩,⟨hy.wfD,hw⟩,by simp [hl]⟩
    ·cases τ with
     | slice σ =>
      show a=false
      rw [h2]
      cases n with
      | zero=>simp [fitB] at h1
      | succ n =>
       unfold fitB at h1
       unfold isStruct
       split at h1 <;> rename_i hk <;> first | (rw [hk]; done) | (simp only [hk]; done) | (simp [fitF] at h1; done) | skip
     | _=>rfl
    cases a with
    | true =>
     have hs:isStruct P t=true:=h2.symm
     unfold isStruct at hs
     split at hs
     ·rename_i fs hk
      unfold Value.okWide at hok
      rw [hk] at hok
      obtain ⟨cs,rfl,_⟩:=hok
      exact ⟨cs.toList,by simp,hy⟩
     ·cases hs
    | false =>
     have hs:isStruct P t=false:=h2.symm
     rw [cells_one h1 hs hok] at hy
     exact hy
theorem trodAll_below (hl:laidOutB P=true) {W':World} (hb:Below W.heap.size W W'):∀ (ts:List TypeId) (vs:List Value) (ds:List (DataW H)) (ps:List MemPlace),(ts.all fun t=>P.readableRec t&&decide (t<P.types.size))=true →
  DataW.TrodAll enc P W 0 (fun _=>true) true ts vs ds ps→(∀ x∈ps,x.block<W.heap.size)→DataW.TrodAll enc P W' 0 (fun b=>decide (b<W.heap.size)) true ts vs ds ps
 | [],vs,ds,ps,_,h,_=>by
  cases vs <;> cases ds <;> simp [DataW.TrodAll] at h ⊢
  exact h
 | t::ts,vs,ds,ps,hr,h,hlt=>by
  cases vs with
  | nil=>simp [DataW.TrodAll] at h
  | cons v vs =>
   cases ds with
   | nil=>simp [DataW.TrodAll] at h
   | cons d ds =>
    obtain ⟨p,q,hp,hq,rfl⟩:=h
    simp only [List.all_cons,Bool.and_eq_true,decide_eq_true_eq] at hr
    exact ⟨p,q,Below.trod hl hr.1.1 hr.1.2 hp hb (fun x hx=>hlt x (List.mem_append.2 (.inl hx))),
     trodAll_below hl hb ts vs ds q hr.2 hq (fun x hx=>hlt x (List.mem_append.2 (.inr hx))),rfl⟩
theorem glob_of {n:String} {g:Nat} {t e:TypeId} {m k:Nat} {τ:Shape} {ds:List (DataW Unit)} {xs:List (Den τ)} {r:List (String×DataW Unit)} {ps:List MemPlace}
  (hL:DataW.LaidVars P W ((n,.agg ds)::r) ps) (hg:P.globalNamed n=some g) (ht:(P.globals[g]?).map (·.type)=some t) (hu:P.underlying t=some (.array m e)) (hc:P.cellsOf e=τ.width) (hf:fitB P k e τ=true)
  (hx:ds.map (undat τ).1=xs.map some) :
  (g<W.heap.size∧∃ vs T fz,W.heap[g]? = some (.cells vs T fz)∧Rows W (fun q=>q<W.heap.size) τ vs 0 xs)∧∃ ps',DataW.LaidVars P W r ps':=by
 obtain ⟨g',t',cs,fuel,p,q,h1,h2,h3,h4,h5,_⟩:=hL
 rw [hg] at h1; cases h1
 rw [ht] at h2; cases h2
 refine ⟨?_,q,h5⟩
 unfold World.var? at h3
 rw [hg] at h3
 simp only [Option.bind_some] at h3
 split at h3
 ·rename_i c T fz hh
  cases h3
  refine ⟨(Array.getElem?_eq_some_iff.1 hh).1,cs,T,fz,hh,?_⟩
  obtain ⟨ys,m',rfl,hy,hl,hyl,hel⟩:=DataW.trod_array hu h4
  simp only [Prod.mk.injEq,DataW.agg.injEq] at hy
  intro i x hi
  have hxl:xs.length=m:=by
   have:=congrArg List.length hx
   simp [hy.1,hyl] at this
   omega
  have him:i<m:=by rw [← hxl]; exact (List.getElem?_eq_some_iff.1 hi).1
  have he:=hel i him
  have hyi:ys[i]? = some (ys[i]'(by omega)):=List.getElem?_eq_getElem (by omega)
  rw [hyi,hc] at he
  obtain ⟨x',h6,h7⟩:=fit_ok k m' e τ _ _ _ hf he
  have hd:(undat τ).1 (ys[i]'(by omega)).1=some x:=by
   have:=congrArg (·[i]?) hx
   simp only [List.getElem?_map,hy.1,hyi,hi,Option.map_some] at this
   exact Option.some.inj this
  have:=h7 x hd
  subst this
  refine ⟨_,h6,fun j v hj=>?_⟩
  rw [List.getElem?_take] at hj
  split at hj
  ·rw [List.getElem?_drop] at hj
   simpa using hj
  ·cases hj
 ·cases h3
theorem returns_true {G : List (Nat × Sigma fun τ => List (Den τ))} {f : FuncId} {I : Sig} {T : DenS I → Option (DenS [(false, .bool)])} {d : DenS [(false, .bool)]} (hS : Sound P G f (sumOf I [(false, .bool)] T d)) {x : DenS I} (hT : T x = some (true, ())) (hcal : ∃ fn, P.funcs[f]? = some fn ∧ fn.body.isNone = false ∧ (fn.name == "runtime.NumGoroutine") = false) {W : World} {args : Array Value}
  (hG:GlobsOk G W fun q=>q<W.heap.size) (ha:SRep W (fun q=>q<W.heap.size) I x args.toList []):Calls P f args W fun e W'=>e=.returned (.bool true)∧Below W.heap.size W W':=by
 have:=hS.calls x (by show (T x).isSome=true; rw [hT]; rfl) W (fun q=>q<W.heap.size) args.toList [] (fun q h=>h) hG ha List.nodup_nil (fun r h=>by simp at h)
 rw [Array.toArray_toList] at this
 have this:=this.resolve_right (fun ⟨v,hv,_⟩=>by rw [run_callFunc hcal] at hv; cases hv)
 refine this.2.mono fun e W' ⟨zs,rs',he,hb,_,_,hz⟩=>⟨?_,⟨hb.os,hb.tape,hb.output,hb.size,fun k hk=>hb.block k hk (fun h=>by simp at h)⟩⟩
 obtain ⟨y,ys,r1,r2,rfl,_,⟨_,h1⟩,rfl,_⟩:=hz
 have h2:[y]=[Value.bool ((T x).getD d).1]:=h1
 rw [hT] at h2
 cases h2
 exact he
theorem law_post {G:List (Nat×Sigma fun τ=>List (Den τ))} {f:FuncId} {fn:Func} {I:Sig} {T:DenS I→Option (DenS [(false,.bool)])} {d:DenS [(false,.bool)]} {s:ChangeSpec} {n:Nat} {tb:TypeId}
  (hS : Sound P G f (sumOf I [(false, .bool)] T d)) (hT : ∀ x, wfS I x → T x = some (true, ())) (hcal : ∃ fn, P.funcs[f]? = some fn ∧ fn.body.isNone = false ∧ (fn.name == "runtime.NumGoroutine") = false) (hlay : laidOutB P = true) (hfit : fitS P n fn.params.toList I = true)
  (hread:(fn.params.toList.all fun t=>P.readableRec t&&decide (t<P.types.size))=true) (hres:fn.resultTypes=#[tb]) (hbool:P.underlying tb=some .bool) (hvars:s.vars=[])
  (hspec:∀ ds:List (DataW H),ds.length=fn.params.toList.length→s.fn H ds={ results:=[.lit (.bool true)],args:=ds })
  {W:World} {base:Nat} {args:Array Value} {ds gs:List (DataW H)} {before:List MemPlace}
  (hval:∀ (j:Nat) (t:TypeId) (v:Value),fn.params[j]? = some t→args[j]? = some v→Value.okWide P W .any base t v)
  (hW:DataW.Whole enc P fn.params.toList s.vars false W args.toList ds gs before) (hG:GlobsOk G W fun q=>q<W.heap.size) :
  Calls P f args W fun e W'=>∃ v,e=.returned v∧ChangeSpec.post enc P fn s false true false false W args v W':=by
 have hW':=hW
 obtain ⟨p,q,hA,hV,rfl,_,_⟩:=hW
 rw [hvars] at hV
 obtain ⟨rfl,rfl⟩:=trodVars_none hV
 obtain ⟨x,hx,hw,hlen⟩:=args_ok (b0:=base) fn.params.toList I args.toList ds p hfit (fun j t v ht hv=>hval j t v (by simpa using ht) (by simpa using hv)) hA
 refine (returns_true hS (hT x hw) hcal hG hx).mono fun e W' ⟨he,hb⟩=>⟨.bool true,he,ds,[],p++[],[],p,[],hW',?_,?_,?_,hb.frame _,fun h=>by cases h⟩
 ·rw [List.append_nil,hspec ds hlen,hres]
  exact trodAll_mk1 (shut_bool hbool true)
 ·rw [List.append_nil,hspec ds hlen]
  exact trodAll_below hlay hb _ _ _ _ hread hA fun y hy=>by simpa using hW'.lt y (by simpa using hy)
 ·rw [List.append_nil,hspec ds hlen,hvars]
  rfl
end
theorem globs_nil {W:World} {S:Nat→Prop}:GlobsOk [] W S:=fun _ _ _ h=>by simp [findGlob] at h
theorem globs_cons {W:World} {S:Nat→Prop} {g:Nat} {τ:Shape} {xs:List (Den τ)} {G:List (Nat×Sigma fun τ=>List (Den τ))} (h:S g∧∃ vs T fz,W.heap[g]? = some (.cells vs T fz)∧Rows W S τ vs 0 xs) (r:GlobsOk G W S) :
  GlobsOk ((g,⟨τ,xs⟩)::G) W S:=fun g' τ' xs' hf=>by
 simp only [findGlob] at hf
 cases hb:Nat.beq g g' with
 | true =>
  have:=Nat.eq_of_beq_eq_true hb
  subst this
  rw [hb] at hf
  simp only [cond_true,Option.some.injEq] at hf
  cases hf
  exact h
 | false =>
  rw [hb] at hf
  exact r g' τ' xs' hf
end Vx
