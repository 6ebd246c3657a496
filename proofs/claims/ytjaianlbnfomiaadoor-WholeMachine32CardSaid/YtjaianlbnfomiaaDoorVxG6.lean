/- Part 6 of the proof. What is proved: symbolic execution of the functions, proved sound; what each function of the program computes, and that every run ends with it; what these functions compute, in plain numbers. Conditions: each theorem bears its own. -/
import Derived.Test.YtjaianlbnfomiaaDoorVxG5
import Ieee.Arith
set_option linter.all false
set_option exponentiation.threshold 1000000
namespace VL
open Go Vx
theorem getD_set_ne {l:List Nat} {i j v:Nat} (h:i≠j):(l.set i v).getD j 0=l.getD j 0:=by
 rw [List.getD_eq_getElem?_getD,List.getD_eq_getElem?_getD,List.getElem?_set_ne h]
theorem left_step {out:List Nat} {K V k s x:Nat} (hs:s<64) (ho:out=pd (2^64) K V) (hk:k+1<K) (hV:V<2^(64*k+s)) (hx:x<2^64) :
  (out.getD k 0<2^s)∧(out.getD k 0+x%2^(64-s)*2^s<2^64)∧((out.set k (out.getD k 0+x%2^(64-s)*2^s)).set (k+1) (x/2^(64-s))=pd (2^64) K (V+2^(64*k+s)*x)):=by
 have hB:0<2^64:=by decide
 have hps:=Nat.two_pow_pos s
 have hpk:=Nat.two_pow_pos (64*k)
 have hlen:out.length=K:=by rw [ho,pd_len]
 have hc:out.getD k 0=V/(2^64)^k%2^64:=by rw [ho,pd_get _ _ _ _ (by omega)]
 have hc2:V/(2^64)^k<2^s:=by
  rw [pow64,Nat.div_lt_iff_lt_mul hpk,Nat.mul_comm,← Nat.pow_add]; exact hV
 have hc1:out.getD (k+1) 0=0:=by
  rw [ho,pd_get _ _ _ _ hk,pow64]
  have:V<2^(64*(k+1)):=Nat.lt_of_lt_of_le hV (Nat.pow_le_pow_right (by decide) (by omega))
  rw [Nat.div_eq_of_lt this]
 have h64:2^64=2^(64-s)*2^s:=by rw [← Nat.pow_add]; congr 1; omega
 have hs64:2^s≤2^64:=Nat.pow_le_pow_right (by decide) (by omega)
 have hce:V/(2^64)^k%2^64=V/(2^64)^k:=Nat.mod_eq_of_lt (by omega)
 have hcl:out.getD k 0<2^s:=by rw [hc,hce]; exact hc2
 have hp1:=Nat.two_pow_pos (64-s)
 have hm:x%2^(64-s)+1≤2^(64-s):=Nat.mod_lt _ hp1
 have hm2:=Nat.mul_le_mul_right (2^s) hm
 rw [← h64,Nat.add_mul,Nat.one_mul] at hm2
 have hsum:out.getD k 0+x%2^(64-s)*2^s<2^64:=by omega
 refine ⟨hcl,hsum,?_⟩
 have hall:∀ y∈out,y<2^64:=by rw [ho]; exact pd_lt hB _ _
 have hxd:x/2^(64-s)<2^64:=Nat.lt_of_le_of_lt (Nat.div_le_self _ _) hx
 refine pd_at hB (set_lt (set_lt hall hsum) hxd) (by simp [hlen]) ?_
 have g1:=nv_set (2^64) out k (out.getD k 0+x%2^(64-s)*2^s) (by omega)
 have g2:=nv_set (2^64) (out.set k (out.getD k 0+x%2^(64-s)*2^s)) (k+1) (x/2^(64-s)) (by rw [List.length_set]; omega)
 rw [getD_set_ne (by omega),hc1,Nat.mul_zero,Nat.add_zero] at g2
 have hVK:V<(2^64)^K:=by
  rw [pow64]; exact Nat.lt_of_lt_of_le hV (Nat.pow_le_pow_right (by decide) (by omega))
 have hnv:nv (2^64) out=V:=by rw [ho,pd_nv hB _ _ hVK]
 rw [hnv,Nat.mul_add] at g1
 rw [g2]
 have hx2:2^(64*k+s)*x=(2^64)^k*(x%2^(64-s)*2^s)+(2^64)^(k+1)*(x/2^(64-s)):=by
  have hdm:=Nat.div_add_mod x (2^(64-s))
  generalize x/2^(64-s)=q at *
  generalize x%2^(64-s)=r at *
  rw [Nat.pow_add 2 (64*k) s,← pow64,show (2^64)^(k+1)=(2^64)^k*2^64 from Nat.pow_succ _ _,Nat.mul_assoc ((2^64)^k),Nat.mul_assoc ((2^64)^k),← Nat.mul_add,← hdm]
  congr 1
  rw [Nat.mul_add,Nat.mul_comm r,Nat.add_comm]
  congr 1
  rw [← Nat.mul_assoc,Nat.mul_comm (2^s),← h64]
 omega
theorem W186_eq (a:List Nat) (ha:∀ x∈a,x<2^64) (hlen:a.length≤1000000) (w s:Nat) (hs:s<64) (hw:w≤10000000) (i:Nat) (hi:i≤a.length) :
  W186_7 (((a.length:Int),(Wd a,((w:Int),((s:Int),((i:Int),((),())))))),(Wd (pd (2^64) (w+a.length+1) (2^(64*w+s)*nv (2^64) (a.take i))),()))=some (.inl (((),()),(Wd (pd (2^64) (w+a.length+1) (2^(64*w+s)*nv (2^64) a)),()))):=by
 have key:=lfix_ind (m186_7 S173.pre S173.F) (fun x=>a.length-x.1.2.2.2.2.1.toNat)
  (fun x=>∃ i:Nat,i≤a.length∧x=(((a.length:Int),(Wd a,((w:Int),((s:Int),((i:Int),((),())))))),(Wd (pd (2^64) (w+a.length+1) (2^(64*w+s)*nv (2^64) (a.take i))),())))
  (fun _=>.inl (((),()),(Wd (pd (2^64) (w+a.length+1) (2^(64*w+s)*nv (2^64) a)),()))) ?_ _ ⟨i,hi,rfl⟩
 ·exact key
 intro L x hx hL
 obtain ⟨i,hi,rfl⟩:=hx
 unfold h186_7
 rcases Nat.lt_or_ge i a.length with hlt | hge
 ·have hxl:=getD_lt (by decide) ha i
  have ht:=nv_lt (B:=2^64) (by decide) (a.take i) fun x hx=>ha x (List.mem_of_mem_take hx)
  rw [List.length_take,Nat.min_eq_left (by omega),pow64] at ht
  have hV:2^(64*w+s)*nv (2^64) (a.take i)<2^(64*(w+i)+s):=by
   have e:64*(w+i)+s=(64*w+s)+64*i:=by omega
   rw [e,Nat.pow_add _ (64*w+s)]
   exact Nat.mul_lt_mul_of_pos_left ht (Nat.two_pow_pos _)
  have hnext:=nv_take_succ (2^64) a i hlt
  have hgo:=hL (((a.length:Int),(Wd a,((w:Int),((s:Int),(((i+1:Nat):Int),((),())))))),(Wd (pd (2^64) (w+a.length+1) (2^(64*w+s)*nv (2^64) (a.take (i+1)))),())) ⟨i+1,by omega,rfl⟩ (by simp only [Int.toNat_natCast]; omega)
  rw [hnext,Nat.mul_add,← Nat.mul_assoc,show 2^(64*w+s)*(2^64)^i=2^(64*(w+i)+s) by rw [pow64,← Nat.pow_add]; congr 1; omega] at hgo
  generalize hout:pd (2^64) (w+a.length+1) (2^(64*w+s)*nv (2^64) (a.take i))=out at *
  obtain ⟨q1,q2,q3⟩:=left_step (k:=w+i) hs hout.symm (by omega) hV hxl
  have hol:out.length=w+a.length+1:=by rw [← hout,pd_len]
  have g1:a.getD i 0*2^s%2^64=(a.getD i 0%2^(64-s))*2^s:=by
   have:2^64=2^(64-s)*2^s:=by rw [← Nat.pow_add]; congr 1; omega
   rw [this,Nat.mul_mod_mul_right]
  have e8:IntKind.wrap .i64 (64-(s:Int))=((64-s:Nat):Int):=wsub 64 s (by omega) (by omega)
  simp (disch:=omega) only [wadd,wadd1,wadd64,wsubn,wsub1,wmul64,ilt_t,ilt_f,ile_t,ile_f,igt_t,igt_f,ige_t,ige_f,ipos_t,ipos_f,igt0_t,igt0_f,nnn,beq0_t,beq0_f,bne0_t,bne0_f,Int.toNat_natCast,Int.toNat_zero,cond_true,cond_false,Bool.and_self,Bool.true_and,Bool.and_true,Bool.false_and,Bool.and_false,Bool.not_true,Bool.not_false,Bool.or_self,Bool.true_or,Bool.or_true,Bool.false_or,Bool.or_false,Wd_len,Wd_getD,e8,shlN _ s (by omega),shrN _ (64-s) (by omega),g1,orN q1 q2,Wd_set,List.length_set,q3]
  exact hgo
 ·have e:i=a.length:=by omega
  subst e
  rw [List.take_length]
  simp (disch:=omega) only [wadd,wadd1,wadd64,wsubn,wsub1,wmul64,ilt_t,ilt_f,ile_t,ile_f,igt_t,igt_f,ige_t,ige_f,ipos_t,ipos_f,igt0_t,igt0_f,nnn,beq0_t,beq0_f,bne0_t,bne0_f,Int.toNat_natCast,Int.toNat_zero,cond_true,cond_false,Bool.and_self,Bool.true_and,Bool.and_true,Bool.false_and,Bool.and_false,Bool.not_true,Bool.not_false,Bool.or_self,Bool.true_or,Bool.or_true,Bool.false_or,Bool.or_false]
theorem T186_eq (l:List Nat) (hl:Ws l) (n:Nat) (hn:n/64+(trimL l).length+1≤1000000):T186 (Wd l,(n:Int),())=some (Dw (nv (2^64) l*2^n),()):=by
 obtain ⟨h,hlen⟩:=hl
 show t186 S173.pre S173.F W186_7 (Wd l) n=_
 unfold t186
 have hB:2≤2^64:=by decide
 have p0:=T173_eq l hlen
 have hm:∀ x∈trimL l,x<2^64:=fun x hx=>h x (trim_mem hx)
 have hle:=(trim_len l).1
 have hv:=nv_trim hB h
 simp only [pre173 p0,fun173 p0,cond_true,Wd_len]
 rcases Nat.eq_zero_or_pos (trimL l).length with h0 | h0
 ·rw [h0,trim_nil h h0,Nat.zero_mul]
  unfold Dw
  rw [dg_zero]; rfl
 ·have e4:Int.tmod (n:Int) 64=((n%64:Nat):Int):=rfl
  have e3:decide (((n/64+(trimL l).length+1:Nat):Int)*8≤140737488355328)=true:=decide_eq_true (by omega)
  have hw:=W186_eq (trimL l) hm (by omega) (n/64) (n%64) (Nat.mod_lt _ (by decide)) (by omega) 0 (Nat.zero_le _)
  rw [show nv (2^64) ((trimL l).take 0)=0 by rfl,Nat.mul_zero,pd_zero,show 64*(n/64)+n%64=n by omega,show ((0:Nat):Int)=0 from rfl] at hw
  simp (disch:=omega) only [wadd,wadd1,wadd64,wsubn,wsub1,wmul64,ilt_t,ilt_f,ile_t,ile_f,igt_t,igt_f,ige_t,ige_f,ipos_t,ipos_f,igt0_t,igt0_f,nnn,beq0_t,beq0_f,bne0_t,bne0_f,Int.toNat_natCast,Int.toNat_zero,cond_true,cond_false,Bool.and_self,Bool.true_and,Bool.and_true,Bool.false_and,Bool.and_false,Bool.not_true,Bool.not_false,Bool.or_self,Bool.true_or,Bool.or_true,Bool.false_or,Bool.or_false,quoN n (by omega),e4,e3,Wd_rep,hw]
  have hV:2^n*nv (2^64) (trimL l)<(2^64)^(n/64+(trimL l).length+1):=by
   have:=nv_lt hB (trimL l) hm
   rw [pow64] at this ⊢
   have h1:2^n*nv (2^64) (trimL l)<2^n*2^(64*(trimL l).length):=Nat.mul_lt_mul_of_pos_left this (Nat.two_pow_pos _)
   rw [← Nat.pow_add] at h1
   exact Nat.lt_of_lt_of_le h1 (Nat.pow_le_pow_right (by decide) (by omega))
  have p1:=T173_eq (pd (2^64) (n/64+(trimL l).length+1) (2^n*nv (2^64) (trimL l))) (by rw [pd_len]; omega)
  rw [trim_dg hB _ (pd_lt (by decide) _ _),pd_nv (by decide) _ _ hV,hv,Nat.mul_comm (2^n)] at p1
  rw [hv,Nat.mul_comm (2^n)]
  generalize pd (2^64) (n/64+(trimL l).length+1) (nv (2^64) l*2^n)=out at *
  show (bif S173.pre (Wd out,()) then some (S173.F (Wd out,())) else none)=_
  rw [pre173 p1,fun173 p1]
  rfl
theorem W185_eq (ls:List (List Nat)) (hls:∀ l∈ls,l.length≤1000000) (hn:ls.length≤1000000) (i:Nat) (hi:i≤ls.length) (hz:∀ l∈ls.take i,(trimL l).length≤1024) :
  W185_2 (((ls.length:Int),(ls.map Wd,((i:Int),()))),())=some (if (∀ l∈ls,(trimL l).length≤1024) then .inl ((),()) else .inr ((true,()),())):=by
 have key:=lfix_ind (m185_2 S173.pre S173.F) (fun x=>ls.length-x.1.2.2.1.toNat)
  (fun x=>∃ i:Nat,i≤ls.length∧(∀ l∈ls.take i,(trimL l).length≤1024)∧x=(((ls.length:Int),(ls.map Wd,((i:Int),()))),()))
  (fun _=>if (∀ l∈ls,(trimL l).length≤1024) then .inl ((),()) else .inr ((true,()),())) ?_ _ ⟨i,hi,hz,rfl⟩
 ·exact key
 intro L x hx hL
 obtain ⟨i,hi,hz,rfl⟩:=hx
 unfold h185_2
 rcases Nat.lt_or_ge i ls.length with hlt | hge
 ·have eg:(ls.map Wd).getD i []=Wd (ls[i]):=by
   rw [List.getD_eq_getElem?_getD,List.getElem?_map,List.getElem?_eq_getElem hlt]; rfl
  have hil:ls[i]∈ls:=List.getElem_mem hlt
  have p0:=T173_eq ls[i] (hls _ hil)
  simp (disch:=omega) only [wadd,wadd1,wadd64,wsubn,wsub1,wmul64,ilt_t,ilt_f,ile_t,ile_f,igt_t,igt_f,ige_t,ige_f,ipos_t,ipos_f,igt0_t,igt0_f,nnn,beq0_t,beq0_f,bne0_t,bne0_f,Int.toNat_natCast,Int.toNat_zero,cond_true,cond_false,Bool.and_self,Bool.true_and,Bool.and_true,Bool.false_and,Bool.and_false,Bool.not_true,Bool.not_false,Bool.or_self,Bool.true_or,Bool.or_true,Bool.false_or,Bool.or_false,List.length_map,eg,pre173 p0,fun173 p0,Wd_len]
  rcases Nat.lt_or_ge 1024 (trimL ls[i]).length with hg | hg
  ·have e:decide (((trimL ls[i]).length:Int)>1024)=true:=decide_eq_true (by omega)
   have hnot:¬ ∀ l∈ls,(trimL l).length≤1024:=fun hh=>by have:=hh _ hil; omega
   rw [e,cond_true,if_neg hnot]
  ·have e:decide (((trimL ls[i]).length:Int)>1024)=false:=decide_eq_false (by omega)
   rw [e,cond_false]
   refine hL _ ⟨i+1,by omega,?_,rfl⟩ (by simp only [Int.toNat_natCast]; omega)
   intro l hl
   rw [List.take_succ,List.getElem?_eq_getElem hlt] at hl
   rcases List.mem_append.1 hl with hl | hl
   ·exact hz l hl
   ·have:l=ls[i]:=by simpa using hl
    rw [this]; exact hg
 ·have e:i=ls.length:=by omega
  subst e
  rw [List.take_length] at hz
  simp (disch:=omega) only [wadd,wadd1,wadd64,wsubn,wsub1,wmul64,ilt_t,ilt_f,ile_t,ile_f,igt_t,igt_f,ige_t,ige_f,ipos_t,ipos_f,igt0_t,igt0_f,nnn,beq0_t,beq0_f,bne0_t,bne0_f,Int.toNat_natCast,Int.toNat_zero,cond_true,cond_false,Bool.and_self,Bool.true_and,Bool.and_true,Bool.false_and,Bool.and_false,Bool.not_true,Bool.not_false,Bool.or_self,Bool.true_or,Bool.or_true,Bool.false_or,Bool.or_false,if_pos hz]
theorem T185_eq (ls:List (List Nat)) (hls:∀ l∈ls,l.length≤1000000) (hn:ls.length≤1000000) :
  T185 (ls.map Wd,())=some (!decide (∀ l∈ls,(trimL l).length≤1024),()):=by
 show t185 S173.pre S173.F W185_2 (ls.map Wd)=_
 unfold t185
 have hw:=W185_eq ls hls hn 0 (Nat.zero_le _) (fun l hl=>by simp at hl)
 rw [show ((0:Nat):Int)=0 from rfl] at hw
 rw [List.length_map,hw]
 by_cases h:∀ l∈ls,(trimL l).length≤1024
 ·rw [if_pos h,decide_eq_true h]; rfl
 ·rw [if_neg h,decide_eq_false h]; rfl
theorem T185_one (l:List Nat) (hl:l.length≤1000000):T185 ((Wd l::[]),())=some (!decide ((trimL l).length≤1024),()):=by
 have:=T185_eq [l] (by simp; exact hl) (by simp)
 rw [show [l].map Wd=Wd l::[] from rfl] at this
 rw [this]
 simp
theorem T176_eq (l:List Nat) (hl:Ws l) (n:Nat) (hn:n≤65536) (hv:nv (2^64) l*2^n<(2^64)^1024):T176 (Wd l,(n:Int),())=some (Dw (nv (2^64) l*2^n),0,()):=by
 show t176 S186.pre S186.F S185.pre S185.F (Wd l) n=_
 unfold t176
 have p0:=T185_one l hl.2
 have hB:2≤2^64:=by decide
 have h1:=dg_len_le hB 1024 _ hv
 have h0:(trimL l).length≤1024:=by
  rw [trim_dg hB _ hl.1]
  apply dg_len_le hB
  exact Nat.lt_of_le_of_lt (Nat.le_mul_of_pos_right _ (Nat.two_pow_pos _)) hv
 have p1:=T186_eq l hl n (by omega)
 have p2:=T185_one (dg (2^64) (nv (2^64) l*2^n)) (by omega)
 rw [dg_trim hB] at p2
 rw [decide_eq_true h0] at p0
 rw [decide_eq_true h1] at p2
 have e2:decide ((n:Int)>65536)=false:=decide_eq_false (by omega)
 simp only [ineg_f,e2,Bool.or_self,cond_false,pre185 p0,fun185 p0,cond_true,Bool.not_true,pre186 p1,fun186 p1]
 unfold Dw
 simp only [pre185 p2,fun185 p2,cond_true,Bool.not_true,cond_false]
end VL
namespace VL
open Go Vx
theorem nv_take_next (B:Nat) (l:List Nat) (i:Nat):nv B (l.take (i+1))=nv B (l.take i)+B^i*l.getD i 0:=by
 rcases Nat.lt_or_ge i l.length with h | h
 ·exact nv_take_succ B l i h
 ·rw [List.take_of_length_le (by omega),List.take_of_length_le h,List.getD_eq_getElem?_getD,List.getElem?_eq_none h]
  simp
def sumAt (a b:List Nat) (i:Nat):Nat:=nv (2^64) (a.take i)+nv (2^64) (b.take i)
def outAt (a b:List Nat) (i:Nat):List Nat:=pd (2^64) i (sumAt a b i%(2^64)^i)++(a++[0]).drop i
theorem nv_take_lt {l:List Nat} (h:∀ x∈l,x<2^64) (i:Nat):nv (2^64) (l.take i)<(2^64)^i:=by
 have:=nv_lt (B:=2^64) (by decide) (l.take i) fun x hx=>h x (List.mem_of_mem_take hx)
 refine Nat.lt_of_lt_of_le this (Nat.pow_le_pow_right (by decide) ?_)
 rw [List.length_take]
 exact Nat.min_le_left _ _
theorem carry_le {a b:List Nat} (ha:∀ x∈a,x<2^64) (hb:∀ x∈b,x<2^64) (i:Nat):sumAt a b i/(2^64)^i≤1:=by
 have h1:=nv_take_lt ha i
 have h2:=nv_take_lt hb i
 have hp:0<(2^64)^i:=Nat.pow_pos (by decide)
 unfold sumAt
 have:(nv (2^64) (a.take i)+nv (2^64) (b.take i))/(2^64)^i<2:=by
  rw [Nat.div_lt_iff_lt_mul hp]; omega
 omega
theorem sum_next (a b:List Nat) (i:Nat):sumAt a b (i+1)=sumAt a b i%(2^64)^i+(2^64)^i*(a.getD i 0+b.getD i 0+sumAt a b i/(2^64)^i):=by
 have hdm:=Nat.div_add_mod (sumAt a b i) ((2^64)^i)
 have h1:sumAt a b (i+1)=sumAt a b i+(2^64)^i*(a.getD i 0+b.getD i 0):=by
  unfold sumAt
  rw [nv_take_next,nv_take_next,Nat.mul_add]
  omega
 rw [h1,Nat.mul_add ((2^64)^i) (a.getD i 0+b.getD i 0)]
 omega
theorem sum_next_div (a b:List Nat) (i:Nat):sumAt a b (i+1)/(2^64)^(i+1)=(a.getD i 0+b.getD i 0+sumAt a b i/(2^64)^i)/2^64:=by
 have hp:0<(2^64)^i:=Nat.pow_pos (by decide)
 rw [sum_next,Nat.pow_succ (2^64) i,← Nat.div_div_eq_div_mul,Nat.add_mul_div_left _ _ hp,Nat.div_eq_of_lt (Nat.mod_lt _ hp),Nat.zero_add]
theorem sum_next_mod (a b:List Nat) (i:Nat):sumAt a b (i+1)%(2^64)^(i+1)=sumAt a b i%(2^64)^i+(2^64)^i*((a.getD i 0+b.getD i 0+sumAt a b i/(2^64)^i)%2^64):=by
 have hp:0<(2^64)^i:=Nat.pow_pos (by decide)
 rw [sum_next a b i,Nat.pow_succ (2^64) i,Nat.mod_mul,Nat.add_mul_mod_self_left,Nat.mod_mod,Nat.add_mul_div_left _ _ hp,Nat.div_eq_of_lt (Nat.mod_lt _ hp),Nat.zero_add]
theorem pd_snoc {k r v:Nat} (hr:r<(2^64)^k) (hv:v<2^64):pd (2^64) k r++[v]=pd (2^64) (k+1) (r+(2^64)^k*v):=by
 refine pd_at (by decide) ?_ (by simp [pd_len]) ?_
 ·intro x hx
  rcases List.mem_append.1 hx with hx | hx
  ·exact pd_lt (by decide) _ _ x hx
  ·have:x=v:=by simpa using hx
   rw [this]; exact hv
 ·rw [nv_append,pd_len,pd_nv (by decide) _ _ hr]
  simp [nv]
theorem out_set (a b:List Nat) (i:Nat) (hi:i<a.length):(outAt a b i).set i ((a.getD i 0+b.getD i 0+sumAt a b i/(2^64)^i)%2^64)=outAt a b (i+1):=by
 have hp:0<(2^64)^i:=Nat.pow_pos (by decide)
 unfold outAt
 rw [sum_next_mod,← pd_snoc (Nat.mod_lt _ hp) (Nat.mod_lt _ (by decide)),List.set_append_right _ _ (by rw [pd_len]; exact Nat.le_refl _),pd_len,Nat.sub_self,
  List.drop_eq_getElem_cons (l:=a++[0]) (i:=i) (by simp; omega),List.set_cons_zero,List.append_assoc]
 rfl
theorem out_len (a b:List Nat) (i:Nat) (hi:i≤a.length):(outAt a b i).length=a.length+1:=by
 unfold outAt; rw [List.length_append,pd_len]; simp; omega
theorem W143_eq (a b:List Nat) (ha:∀ x∈a,x<2^64) (hb:∀ x∈b,x<2^64) (hlen:a.length≤1000000) (i:Nat) (hi:i≤a.length) :
  W143_8 (((a.length:Int),(Wd b,((i:Int),(Wd a,(((sumAt a b i/(2^64)^i:Nat):Int),((),())))))),(Wd (outAt a b i),()))=some (.inl ((Wd a,(((sumAt a b a.length/(2^64)^a.length:Nat):Int),((),()))),(Wd (outAt a b a.length),()))):=by
 have key:=lfix_ind (m143_8 S155.pre S155.F S173.pre S173.F) (fun x=>a.length-x.1.2.2.1.toNat)
  (fun x=>∃ i:Nat,i≤a.length∧x=(((a.length:Int),(Wd b,((i:Int),(Wd a,(((sumAt a b i/(2^64)^i:Nat):Int),((),())))))),(Wd (outAt a b i),())))
  (fun _=>.inl ((Wd a,(((sumAt a b a.length/(2^64)^a.length:Nat):Int),((),()))),(Wd (outAt a b a.length),()))) ?_ _ ⟨i,hi,rfl⟩
 ·exact key
 intro L x hx hL
 obtain ⟨i,hi,rfl⟩:=hx
 unfold h143_8
 rcases Nat.lt_or_ge i a.length with hlt | hge
 ·have hc:=carry_le ha hb i
  have hol:=out_len a b i hi
  have hset:=out_set a b i hlt
  have hgo:=hL (((a.length:Int),(Wd b,(((i+1:Nat):Int),(Wd a,(((sumAt a b (i+1)/(2^64)^(i+1):Nat):Int),((),())))))),(Wd (outAt a b (i+1)),())) ⟨i+1,by omega,rfl⟩ (by simp only [Int.toNat_natCast]; omega)
  rw [sum_next_div,← hset] at hgo
  have hF:∀ x y c:Nat,S155.F ((x:Int),((y:Int),((c:Int),())))=(((((x+y+c)%2^64:Nat):Int)),((((x+y+c)/2^64:Nat):Int)),()):=fun x y c=>rfl
  have hP:∀ (x y:Int) (c:Nat),c≤1→S155.pre (x,(y,((c:Int),())))=true:=fun x y c h=>by
   show (decide ((0:Int)≤(c:Int))&&decide ((c:Int)≤1))=true
   rw [decide_eq_true (by omega),decide_eq_true (by omega)]; rfl
  generalize sumAt a b i/(2^64)^i=c at *
  generalize outAt a b i=out at *
  rcases Nat.lt_or_ge i b.length with hbl | hbl
  ·simp (disch:=omega) only [wadd,wadd1,wadd64,wsubn,wsub1,wmul64,ilt_t,ilt_f,ile_t,ile_f,igt_t,igt_f,ige_t,ige_f,ipos_t,ipos_f,igt0_t,igt0_f,nnn,beq0_t,beq0_f,bne0_t,bne0_f,Int.toNat_natCast,Int.toNat_zero,cond_true,cond_false,Bool.and_self,Bool.true_and,Bool.and_true,Bool.false_and,Bool.and_false,Bool.not_true,Bool.not_false,Bool.or_self,Bool.true_or,Bool.or_true,Bool.false_or,Bool.or_false,Wd_len,Wd_getD,hP _ _ c hc,hF,Wd_set]
   exact hgo
  ·have hbz:b.getD i 0=0:=by rw [List.getD_eq_getElem?_getD,List.getElem?_eq_none hbl]; rfl
   have hF0:S155.F (((a.getD i 0:Nat):Int),((0:Int),((c:Int),())))=((((a.getD i 0+b.getD i 0+c)%2^64:Nat):Int),(((a.getD i 0+b.getD i 0+c)/2^64:Nat):Int),()):=by rw [hbz]; rfl
   simp (disch:=omega) only [wadd,wadd1,wadd64,wsubn,wsub1,wmul64,ilt_t,ilt_f,ile_t,ile_f,igt_t,igt_f,ige_t,ige_f,ipos_t,ipos_f,igt0_t,igt0_f,nnn,beq0_t,beq0_f,bne0_t,bne0_f,Int.toNat_natCast,Int.toNat_zero,cond_true,cond_false,Bool.and_self,Bool.true_and,Bool.and_true,Bool.false_and,Bool.and_false,Bool.not_true,Bool.not_false,Bool.or_self,Bool.true_or,Bool.or_true,Bool.false_or,Bool.or_false,Wd_len,Wd_getD,hP _ _ c hc,hF0,Wd_set]
   exact hgo
 ·have e:i=a.length:=by omega
  subst e
  simp (disch:=omega) only [wadd,wadd1,wadd64,wsubn,wsub1,wmul64,ilt_t,ilt_f,ile_t,ile_f,igt_t,igt_f,ige_t,ige_f,ipos_t,ipos_f,igt0_t,igt0_f,nnn,beq0_t,beq0_f,bne0_t,bne0_f,Int.toNat_natCast,Int.toNat_zero,cond_true,cond_false,Bool.and_self,Bool.true_and,Bool.and_true,Bool.false_and,Bool.and_false,Bool.not_true,Bool.not_false,Bool.or_self,Bool.true_or,Bool.or_true,Bool.false_or,Bool.or_false]
theorem sum_end (a b:List Nat) (ha:∀ x∈a,x<2^64) (hb:∀ x∈b,x<2^64) (hab:b.length≤a.length) :
  (outAt a b a.length).set a.length (sumAt a b a.length/(2^64)^a.length)=pd (2^64) (a.length+1) (nv (2^64) a+nv (2^64) b)∧nv (2^64) a+nv (2^64) b<(2^64)^(a.length+1):=by
 have hp:0<(2^64)^a.length:=Nat.pow_pos (by decide)
 have hc:=carry_le ha hb a.length
 have hs:sumAt a b a.length=nv (2^64) a+nv (2^64) b:=by
  unfold sumAt; rw [List.take_length,List.take_of_length_le hab]
 have hdm:=Nat.div_add_mod (sumAt a b a.length) ((2^64)^a.length)
 refine ⟨?_,?_⟩
 ·have hd:(a++[0]).drop a.length=[0]:=by simp
  unfold outAt
  rw [hd,List.set_append_right _ _ (by rw [pd_len]; exact Nat.le_refl _),pd_len,Nat.sub_self,List.set_cons_zero,pd_snoc (Nat.mod_lt _ hp) (by omega),Nat.add_comm (sumAt a b a.length%(2^64)^a.length),hdm,hs]
 ·rw [← hs]
  have h1:=nv_take_lt ha a.length
  have h2:=nv_take_lt hb a.length
  unfold sumAt
  rw [Nat.pow_succ (2^64) a.length]
  omega
theorem add_len {a:List Nat}:List.take (List.replicate (a.length+1) (0:Int)).length (Wd a)++List.drop a.length (List.replicate (a.length+1) (0:Int))=Wd (outAt a ([]:List Nat) 0):=by
 rw [List.length_replicate,List.drop_replicate,Nat.add_sub_cancel_left,List.take_of_length_le (by rw [Wd_len]; omega)]
 unfold outAt
 simp [Wd,pd]
theorem out_zero (a b c:List Nat):outAt a b 0=outAt a c 0:=by unfold outAt; simp [pd]
theorem add_main (a b:List Nat) (ha:∀ x∈a,x<2^64) (hb:∀ x∈b,x<2^64) (hlen:a.length+1≤1000000) (hab:b.length≤a.length) :
  (bif decide (0≤IntKind.wrap .i64 ((a.length:Int)+1))&&decide (IntKind.wrap .i64 ((a.length:Int)+1)*8≤140737488355328) then
   obind (W143_8 (((a.length:Int),(Wd b,((0:Int),(Wd a,((0:Int),((),())))))),(List.take (List.replicate (Int.toNat (IntKind.wrap .i64 ((a.length:Int)+1))) (0:Int)).length (Wd a)++List.drop a.length (List.replicate (Int.toNat (IntKind.wrap .i64 ((a.length:Int)+1))) (0:Int)),()))) fun y4 =>
    obind2 y4 (fun y5=>bif decide (0≤((y5.1.1.length:Nat):Int))&&decide (((y5.1.1.length:Nat):Int)<((y5.2.1.length:Nat):Int)) then
     (bif S173.pre ((y5.2.1.set (Int.toNat ((y5.1.1.length:Nat):Int)) y5.1.2.1),()) then some (S173.F ((y5.2.1.set (Int.toNat ((y5.1.1.length:Nat):Int)) y5.1.2.1),())) else none) else none) fun _=>none
  else none:Option (DenS O143))=some (Dw (nv (2^64) a+nv (2^64) b),()):=by
 have hw:=W143_eq a b ha hb (by omega) 0 (Nat.zero_le _)
 have h0:sumAt a b 0/(2^64)^0=0:=by unfold sumAt; simp [nv]
 rw [h0,show ((0:Nat):Int)=0 from rfl,out_zero a b [],← add_len] at hw
 have e3:decide (((a.length+1:Nat):Int)*8≤140737488355328)=true:=decide_eq_true (by omega)
 rw [wadd1 _ (by omega),e3,nnn,Int.toNat_natCast,hw]
 obtain ⟨g1,g2⟩:=sum_end a b ha hb hab
 have hol:=out_len a b a.length (Nat.le_refl _)
 have p1:=T173_eq (pd (2^64) (a.length+1) (nv (2^64) a+nv (2^64) b)) (by rw [pd_len]; exact hlen)
 rw [trim_dg (by decide) _ (pd_lt (by decide) _ _),pd_nv (by decide) _ _ g2,← g1,← Wd_set] at p1
 generalize sumAt a b a.length/(2^64)^a.length=c at *
 generalize outAt a b a.length=out at *
 show (bif decide (0≤(((Wd a).length:Nat):Int))&&decide ((((Wd a).length:Nat):Int)<(((Wd out).length:Nat):Int)) then
     (bif S173.pre ((Wd out).set (Wd a).length (c:Int),()) then some (S173.F ((Wd out).set (Wd a).length (c:Int),())) else none) else none)=_
 simp (disch:=omega) only [wadd,wadd1,wadd64,wsubn,wsub1,wmul64,ilt_t,ilt_f,ile_t,ile_f,igt_t,igt_f,ige_t,ige_f,ipos_t,ipos_f,igt0_t,igt0_f,nnn,beq0_t,beq0_f,bne0_t,bne0_f,Int.toNat_natCast,Int.toNat_zero,cond_true,cond_false,Bool.and_self,Bool.true_and,Bool.and_true,Bool.false_and,Bool.and_false,Bool.not_true,Bool.not_false,Bool.or_self,Bool.true_or,Bool.or_true,Bool.false_or,Bool.or_false,Wd_len,pre173 p1,fun173 p1]
 rfl
theorem T143_eq (l m:List Nat) (hl:Ws l) (hm:Ws m) (hl2:(trimL l).length<1000000) (hm2:(trimL m).length<1000000):T143 (Wd l,Wd m,())=some (Dw (nv (2^64) l+nv (2^64) m),()):=by
 show t143 S155.pre S155.F S173.pre S173.F W143_8 (Wd l) (Wd m)=_
 unfold t143
 have p0:=T173_eq l hl.2
 have p1:=T173_eq m hm.2
 have h1:∀ x∈trimL l,x<2^64:=fun x hx=>hl.1 x (trim_mem hx)
 have h2:∀ x∈trimL m,x<2^64:=fun x hx=>hm.1 x (trim_mem hx)
 simp only [pre173 p0,fun173 p0,pre173 p1,fun173 p1,cond_true]
 rcases Nat.lt_or_ge (trimL l).length (trimL m).length with h | h
 ·rw [Wd_len,Wd_len,ilt_t _ _ h,cond_true]
  have:=add_main (trimL m) (trimL l) h2 h1 hm2 (by omega)
  rw [nv_trim (by decide) hl.1,nv_trim (by decide) hm.1,Nat.add_comm] at this
  exact this
 ·rw [Wd_len,Wd_len,ilt_f _ _ h,cond_false]
  have:=add_main (trimL l) (trimL m) h1 h2 hl2 (by omega)
  rw [nv_trim (by decide) hl.1,nv_trim (by decide) hm.1] at this
  exact this
theorem T146_eq (l:List Nat) (hl:Ws l):T146 (Wd l,())=some (Dw (nv (2^64) l),()):=by
 show t146 S173.pre S173.F (Wd l)=_
 unfold t146
 have p0:=T173_eq l hl.2
 have hle:=(trim_len l).1
 have h2:=hl.2
 have e3:decide ((((trimL l).length:Nat):Int)*8≤140737488355328)=true:=decide_eq_true (by omega)
 simp (disch:=omega) only [wadd,wadd1,wadd64,wsubn,wsub1,wmul64,ilt_t,ilt_f,ile_t,ile_f,igt_t,igt_f,ige_t,ige_f,ipos_t,ipos_f,igt0_t,igt0_f,nnn,beq0_t,beq0_f,bne0_t,bne0_f,Int.toNat_natCast,Int.toNat_zero,cond_true,cond_false,Bool.and_self,Bool.true_and,Bool.and_true,Bool.false_and,Bool.and_false,Bool.not_true,Bool.not_false,Bool.or_self,Bool.true_or,Bool.or_true,Bool.false_or,Bool.or_false,pre173 p0,fun173 p0,Wd_len,e3,List.length_replicate,List.drop_replicate,Nat.sub_self]
 rw [List.take_of_length_le (by rw [Wd_len]; exact Nat.le_refl _),List.replicate_zero,List.append_nil,trim_dg (by decide) l hl.1]
 rfl
theorem T102_eq (l:List Nat) (hl:Ws l):T102 (Wd l,())=some (Dw (nv (2^64) l),()):=by
 show t102 S146.pre S146.F (Wd l)=_
 unfold t102
 have p0:=T146_eq l hl
 simp only [pre146 p0,fun146 p0,cond_true]
end VL
namespace VL
open Go Vx
def Wi (n:Nat):Den (.pair (.int .u64) (.pair (.int .u64) .unit)):=(((n/2^64:Nat):Int),(((n%2^64:Nat):Int),()))
theorem W_le0 (k:Nat) (h:0<k):decide ((k:Int)≤0)=false:=decide_eq_false (by omega)
theorem aux1 {A q R P:Nat} (g1:A%2^64=R) (g2:q<P) (g4:R+P≤2^64):(A+q)%2^64=q+R:=by omega
theorem aux2 {X Y r:Nat} (h:X%2^64=Y) (hr:r<2^64):(2^64*X+r)%2^128=2^64*Y+r:=by omega
theorem aux3 {X h q R P:Nat} (e:X=2^64*h+R+q) (g2:q<P) (g4:R+P≤2^64):X/2^64=h∧X%2^64=q+R:=by omega
theorem T119_eq (n k:Nat) (hn:n<2^128):T119 (Wi n,(k:Int),())=some (Wi (n*2^k%2^128),()):=by
 show t119 (Wi n) k=_
 unfold t119
 rcases Nat.eq_zero_or_pos k with rfl | hk
 ·have e:n*2^0%2^128=n:=by rw [Nat.pow_zero,Nat.mul_one,Nat.mod_eq_of_lt hn]
  rw [e]; rfl
 rw [W_le0 k hk,cond_false]
 rcases Nat.lt_or_ge k 128 with h128 | h128
 ·rw [show decide ((k:Int)≥128)=false from decide_eq_false (by omega),cond_false]
  have hlo:(n%2^64)<2^64:=Nat.mod_lt _ (by decide)
  have hhi:n/2^64<2^64:=by omega
  have hsplit:n=2^64*(n/2^64)+n%2^64:=(Nat.div_add_mod n (2^64)).symm
  rcases Nat.lt_or_ge k 64 with h64 | h64
  ·have e8:IntKind.wrap .i64 (64-(k:Int))=((64-k:Nat):Int):=wsub 64 k (by omega) (by omega)
   rw [show decide ((k:Int)≥64)=false from decide_eq_false (by omega),cond_false,nnn,cond_true,e8,nnn,cond_true,cond_true]
   show some ((orI .u64 (shlI .u64 ((n/2^64:Nat):Int) k) (shrI .u64 ((n%2^64:Nat):Int) ((64-k:Nat):Int)),(shlI .u64 ((n%2^64:Nat):Int) k,())),())=_
   rw [shlN _ k (by omega),shlN _ k (by omega),shrN _ (64-k) (by omega)]
   have hp:=Nat.two_pow_pos k
   have hp2:=Nat.two_pow_pos (64-k)
   have h2:2^64=2^(64-k)*2^k:=by rw [← Nat.pow_add]; congr 1; omega
   generalize n/2^64=hi at *
   generalize n%2^64=lo at *
   have g1:hi*2^k%2^64=(hi%2^(64-k))*2^k:=by rw [h2,Nat.mul_mod_mul_right]
   have g2:lo/2^(64-k)<2^k:=by rw [Nat.div_lt_iff_lt_mul hp2,Nat.mul_comm,← h2]; exact hlo
   have g3:hi%2^(64-k)+1≤2^(64-k):=Nat.mod_lt _ hp2
   have g4:=Nat.mul_le_mul_right (2^k) g3
   rw [← h2,Nat.add_mul,Nat.one_mul] at g4
   have hor:orI .u64 ((hi*2^k%2^64:Nat):Int) ((lo/2^(64-k):Nat):Int)=((lo/2^(64-k)+(hi%2^(64-k))*2^k:Nat):Int):=by
    have:=orN g2 (b:=hi%2^(64-k)) (by omega)
    rw [g1]
    have hc:∀ a b:Nat,a<2^64→b<2^64→orI .u64 (a:Int) (b:Int)=orI .u64 (b:Int) (a:Int):=fun a b ha hb=>by
     rw [orN2 ha hb,orN2 hb ha,Nat.or_comm]
    rw [hc _ _ (by omega) (by omega)]
    exact this
   rw [hor]
   have hdm:=Nat.div_add_mod lo (2^(64-k))
   have v1:n*2^k=2^64*(hi*2^k+lo/2^(64-k))+lo*2^k%2^64:=by
    have g5:lo*2^k%2^64=(lo%2^(64-k))*2^k:=by rw [h2,Nat.mul_mod_mul_right]
    have g6:2^64*(lo/2^(64-k))=2^(64-k)*(lo/2^(64-k))*2^k:=by
     rw [Nat.mul_right_comm,← h2]
    rw [hsplit,Nat.add_mul,Nat.mul_add,Nat.mul_assoc,Nat.add_assoc,g6,g5,← Nat.add_mul,hdm]
   have v2:n*2^k%2^128=2^64*(lo/2^(64-k)+(hi%2^(64-k))*2^k)+lo*2^k%2^64:=by
    rw [v1]
    have hlo2:lo*2^k%2^64<2^64:=Nat.mod_lt _ (by decide)
    exact aux2 (aux1 g1 g2 g4) hlo2
   have hlo2:lo*2^k%2^64<2^64:=Nat.mod_lt _ (by decide)
   have e1:n*2^k%2^128/2^64=lo/2^(64-k)+(hi%2^(64-k))*2^k:=by rw [v2]; omega
   have e2:n*2^k%2^128%2^64=lo*2^k%2^64:=by rw [v2]; omega
   unfold Wi
   rw [e1,e2]
  ·have e8:IntKind.wrap .i64 ((k:Int)-64)=((k-64:Nat):Int):=wsub k 64 (by omega) (by omega)
   rw [show decide ((k:Int)≥64)=true from decide_eq_true (by omega),cond_true,e8,nnn,cond_true]
   show some ((shlI .u64 ((n%2^64:Nat):Int) ((k-64:Nat):Int),((0:Int),())),())=_
   rw [shlN _ (k-64) (by omega)]
   have v1:n*2^k%2^128=2^64*(n%2^64*2^(k-64)%2^64):=by
    have h2:2^k=2^(k-64)*2^64:=by rw [← Nat.pow_add]; congr 1; omega
    rw [h2,← Nat.mul_assoc,show 2^128=2^64*2^64 by decide,Nat.mul_mod_mul_right,Nat.mul_comm _ (2^64),Nat.mul_mod n (2^(k-64)),Nat.mul_mod (n%2^64) (2^(k-64)),Nat.mod_mod]
   have e1:n*2^k%2^128/2^64=n%2^64*2^(k-64)%2^64:=by rw [v1]; omega
   have e2:n*2^k%2^128%2^64=0:=by rw [v1]; omega
   unfold Wi
   rw [e1,e2]
   rfl
 ·rw [show decide ((k:Int)≥128)=true from decide_eq_true (by omega),cond_true]
  have e:n*2^k%2^128=0:=by
   rw [show k=(k-128)+128 by omega,Nat.pow_add,← Nat.mul_assoc]
   exact Nat.mul_mod_left _ _
  rw [e]
  rfl
theorem T120_eq (n k:Nat) (hn:n<2^128):T120 (Wi n,(k:Int),())=some (Wi (n/2^k),()):=by
 show t120 (Wi n) k=_
 unfold t120
 rcases Nat.eq_zero_or_pos k with rfl | hk
 ·have e:n/2^0=n:=by rw [Nat.pow_zero,Nat.div_one]
  rw [e]; rfl
 rw [W_le0 k hk,cond_false]
 rcases Nat.lt_or_ge k 128 with h128 | h128
 ·rw [show decide ((k:Int)≥128)=false from decide_eq_false (by omega),cond_false]
  have hlo:(n%2^64)<2^64:=Nat.mod_lt _ (by decide)
  have hhi:n/2^64<2^64:=by omega
  rcases Nat.lt_or_ge k 64 with h64 | h64
  ·have e8:IntKind.wrap .i64 (64-(k:Int))=((64-k:Nat):Int):=wsub 64 k (by omega) (by omega)
   rw [show decide ((k:Int)≥64)=false from decide_eq_false (by omega),cond_false,nnn,cond_true,e8,nnn,cond_true,cond_true]
   show some ((shrI .u64 ((n/2^64:Nat):Int) k,(orI .u64 (shrI .u64 ((n%2^64:Nat):Int) k) (shlI .u64 ((n/2^64:Nat):Int) ((64-k:Nat):Int)),())),())=_
   rw [shlN _ (64-k) (by omega),shrN _ k (by omega),shrN _ k (by omega)]
   have hp:=Nat.two_pow_pos k
   have hp2:=Nat.two_pow_pos (64-k)
   have h2:2^64=2^k*2^(64-k):=by rw [← Nat.pow_add]; congr 1; omega
   have hsplit:n=2^64*(n/2^64)+n%2^64:=(Nat.div_add_mod n (2^64)).symm
   generalize n/2^64=hi at *
   generalize n%2^64=lo at *
   have g1:hi*2^(64-k)%2^64=(hi%2^k)*2^(64-k):=by rw [h2,Nat.mul_mod_mul_right]
   have g2:lo/2^k<2^(64-k):=by rw [Nat.div_lt_iff_lt_mul hp,Nat.mul_comm,← h2]; exact hlo
   have g3:hi%2^k+1≤2^k:=Nat.mod_lt _ hp
   have g4:=Nat.mul_le_mul_right (2^(64-k)) g3
   rw [← h2,Nat.add_mul,Nat.one_mul] at g4
   rw [g1,orN g2 (by omega)]
   have v1:n/2^k=hi*2^(64-k)+lo/2^k:=by
    have:n=lo+2^k*(hi*2^(64-k)):=by rw [hsplit,h2,Nat.mul_assoc,Nat.mul_comm hi]; omega
    rw [this,Nat.add_mul_div_left _ _ hp,Nat.add_comm]
   have hdm:=Nat.div_add_mod hi (2^k)
   have v2:hi*2^(64-k)=2^64*(hi/2^k)+(hi%2^k)*2^(64-k):=by
    rw [h2,Nat.mul_right_comm,← Nat.add_mul,hdm]
   rw [v2] at v1
   obtain ⟨e1,e2⟩:=aux3 v1 g2 g4
   unfold Wi
   rw [e1,e2]
  ·have e8:IntKind.wrap .i64 ((k:Int)-64)=((k-64:Nat):Int):=wsub k 64 (by omega) (by omega)
   rw [show decide ((k:Int)≥64)=true from decide_eq_true (by omega),cond_true,e8,nnn,cond_true]
   show some (((0:Int),(shrI .u64 ((n/2^64:Nat):Int) ((k-64:Nat):Int),())),())=_
   rw [shrN _ (k-64) (by omega)]
   have v1:n/2^k=n/2^64/2^(k-64):=by
    rw [Nat.div_div_eq_div_mul,← Nat.pow_add]; congr 2; omega
   have hs:n/2^k<2^64:=by
    rw [v1]; exact Nat.lt_of_le_of_lt (Nat.div_le_self _ _) hhi
   have e1:n/2^k/2^64=0:=Nat.div_eq_of_lt hs
   have e2:n/2^k%2^64=n/2^64/2^(k-64):=by rw [← v1]; exact Nat.mod_eq_of_lt hs
   unfold Wi
   rw [e1,e2]
   rfl
 ·rw [show decide ((k:Int)≥128)=true from decide_eq_true (by omega),cond_true]
  have e:n/2^k=0:=Nat.div_eq_of_lt (Nat.lt_of_lt_of_le hn (Nat.pow_le_pow_right (by decide) h128))
  rw [e]
  rfl
theorem addF (x y c:Nat):S155.F ((x:Int),((y:Int),((c:Int),())))=(((((x+y+c)%2^64:Nat):Int)),((((x+y+c)/2^64:Nat):Int)),()):=rfl
theorem addP (x y:Int) (c:Nat) (h:c≤1):S155.pre (x,(y,((c:Int),())))=true:=by
 show (decide ((0:Int)≤(c:Int))&&decide ((c:Int)≤1))=true
 rw [decide_eq_true (by omega),decide_eq_true (by omega)]; rfl
theorem subF (x y c:Nat) (h:c≤1) (hx:x<2^64) (hy:y<2^64):S157.F ((x:Int),((y:Int),((c:Int),())))=(((((x+2^64-y-c)%2^64:Nat):Int)),((if x<y+c then 1 else 0:Nat):Int),()):=by
 show ((((x:Int)-y-c)%18446744073709551616:Int),((if (x:Int)<y+c then 1 else 0:Int)),())=_
 have e1:((x:Int)-y-c)%18446744073709551616=((x+2^64-y-c)%2^64:Nat):=by omega
 rw [e1]
 by_cases h:x<y+c
 ·rw [if_pos h,if_pos (by omega)]; rfl
 ·rw [if_neg h,if_neg (by omega)]; rfl
theorem subP (x y:Int) (c:Nat) (h:c≤1):S157.pre (x,(y,((c:Int),())))=true:=by
 show (decide ((0:Int)≤(c:Int))&&decide ((c:Int)≤1))=true
 rw [decide_eq_true (by omega),decide_eq_true (by omega)]; rfl
theorem T121_eq (n m:Nat) (h:n+m<2^128):T121 (Wi n,Wi m,())=some (Wi (n+m),0,()):=by
 show t121 S155.pre S155.F (Wi n) (Wi m)=_
 unfold t121
 have c1:(n%2^64+m%2^64+0)/2^64≤1:=by omega
 have p1:S155.pre ((Wi n).2.1,((Wi m).2.1,((0:Int),())))=true:=addP _ _ 0 (by decide)
 have q1:S155.F ((Wi n).2.1,((Wi m).2.1,((0:Int),())))=_:=addF (n%2^64) (m%2^64) 0
 rw [p1,q1,cond_true]
 have p2:S155.pre ((Wi n).1,((Wi m).1,((((n%2^64+m%2^64+0)/2^64:Nat):Int),())))=true:=addP _ _ _ c1
 have q2:S155.F ((Wi n).1,((Wi m).1,((((n%2^64+m%2^64+0)/2^64:Nat):Int),())))=_:=addF (n/2^64) (m/2^64) ((n%2^64+m%2^64+0)/2^64)
 dsimp only
 rw [p2,q2,cond_true]
 have e1:(n/2^64+m/2^64+(n%2^64+m%2^64+0)/2^64)%2^64=(n+m)/2^64:=by omega
 have e2:(n%2^64+m%2^64+0)%2^64=(n+m)%2^64:=by omega
 have e3:(n/2^64+m/2^64+(n%2^64+m%2^64+0)/2^64)/2^64=0:=by omega
 rw [e1,e2,e3]
 rfl
theorem T124_eq (n m:Nat) (hn:n<2^128) (h:m≤n):T124 (Wi n,Wi m,())=some (Wi (n-m),0,()):=by
 show t124 S157.pre S157.F (Wi n) (Wi m)=_
 unfold t124
 have p1:S157.pre ((Wi n).2.1,((Wi m).2.1,((0:Int),())))=true:=subP _ _ 0 (by decide)
 have q1:S157.F ((Wi n).2.1,((Wi m).2.1,((0:Int),())))=_:=subF (n%2^64) (m%2^64) 0 (by decide) (by omega) (by omega)
 rw [p1,q1,cond_true]
 have c1:(if n%2^64<m%2^64+0 then 1 else 0)≤1:=by split <;> omega
 have p2:S157.pre ((Wi n).1,((Wi m).1,(((if n%2^64<m%2^64+0 then 1 else 0:Nat):Int),())))=true:=subP _ _ _ c1
 have q2:S157.F ((Wi n).1,((Wi m).1,(((if n%2^64<m%2^64+0 then 1 else 0:Nat):Int),())))=_:=subF (n/2^64) (m/2^64) _ c1 (by omega) (by omega)
 dsimp only
 rw [p2,q2,cond_true]
 have e2:(n%2^64+2^64-m%2^64-0)%2^64=(n-m)%2^64:=by omega
 rw [e2]
 by_cases hb:n%2^64<m%2^64+0
 ·rw [if_pos hb,if_neg (by omega)]
  have e1:(n/2^64+2^64-m/2^64-1)%2^64=(n-m)/2^64:=by omega
  rw [e1]
  rfl
 ·rw [if_neg hb,if_neg (by omega)]
  have e1:(n/2^64+2^64-m/2^64-0)%2^64=(n-m)/2^64:=by omega
  rw [e1]
  rfl
theorem T123_eq (n m:Nat):T123 (Wi n,Wi m,())=some (if n=m then 0 else if n<m then -1 else 1,()):=by
 show t123 (Wi n) (Wi m)=_
 unfold t123
 show (bif (((n/2^64:Nat):Int)==((m/2^64:Nat):Int)&&((n%2^64:Nat):Int)==((m%2^64:Nat):Int)) then some ((0:Int),())
  else bif (decide (((n/2^64:Nat):Int)<((m/2^64:Nat):Int))||(((n/2^64:Nat):Int)==((m/2^64:Nat):Int)&&decide (((n%2^64:Nat):Int)<((m%2^64:Nat):Int)))) then some ((-1:Int),()) else some ((1:Int),()):Option (Int×Unit))=_
 rw [nbeq,nbeq,nlt,nlt]
 rcases Nat.lt_trichotomy n m with h | h | h
 ·have e1:(n/2^64==m/2^64&&n%2^64==m%2^64)=false:=by
   rw [Bool.and_eq_false_iff,beq_eq_false_iff_ne,beq_eq_false_iff_ne]; omega
  have e2:(decide (n/2^64<m/2^64)||(n/2^64==m/2^64&&decide (n%2^64<m%2^64)))=true:=by
   rw [Bool.or_eq_true,Bool.and_eq_true,decide_eq_true_eq,decide_eq_true_eq,beq_iff_eq]; omega
  rw [e1,e2,if_neg (by omega),if_pos h]; rfl
 ·subst h
  rw [if_pos rfl]
  simp
 ·have e1:(n/2^64==m/2^64&&n%2^64==m%2^64)=false:=by
   rw [Bool.and_eq_false_iff,beq_eq_false_iff_ne,beq_eq_false_iff_ne]; omega
  have e2:(decide (n/2^64<m/2^64)||(n/2^64==m/2^64&&decide (n%2^64<m%2^64)))=false:=by
   rw [Bool.or_eq_false_iff,Bool.and_eq_false_iff,decide_eq_false_iff_not,decide_eq_false_iff_not,beq_eq_false_iff_ne]; omega
  rw [e1,e2,if_neg (by omega),if_neg (by omega)]; rfl
end VL
namespace VL
open Go Vx
def furM (m:Int) (neg odd:Bool) (rest:Nat):Bool :=
 if m=4 then neg else if m=3 then !neg else if m=0 then (if rest=2 then odd else decide (2≤rest)) else if m=1 then decide (2≤rest) else if m=5 then !odd else false
theorem ibeq_f (a b:Int) (h:a≠b):(a==b)=false:=by simp [h]
theorem T177_eq (m:Int) (neg odd:Bool) (rest:Nat):T177 (m,neg,odd,(rest:Int),())=some (furM m neg odd rest,()):=by
 show t177 m neg odd (rest:Int)=_
 have e2:decide ((rest:Int)≥2)=decide (2≤rest):=by rw [Bool.eq_iff_iff,decide_eq_true_eq,decide_eq_true_eq]; omega
 have e3:((rest:Int)==2)=decide (rest=2):=by rw [Bool.eq_iff_iff,decide_eq_true_eq,beq_iff_eq]; omega
 unfold t177 furM
 rw [e2,e3]
 by_cases h4:m=4
 ·subst h4; cases neg <;> rfl
 rw [ibeq_f m 4 h4,cond_false,if_neg h4]
 by_cases h3:m=3
 ·subst h3; rfl
 rw [ibeq_f m 3 h3,cond_false,if_neg h3]
 by_cases h0:m=0
 ·subst h0
  by_cases hr:rest=2
  ·subst hr; rfl
  ·rw [decide_eq_false hr,if_pos rfl,if_neg hr]; rfl
 rw [ibeq_f m 0 h0,cond_false,if_neg h0]
 by_cases h1:m=1
 ·subst h1; rfl
 rw [ibeq_f m 1 h1,cond_false,if_neg h1]
 by_cases h5:m=5
 ·subst h5; rfl
 rw [ibeq_f m 5 h5,cond_false,if_neg h5]
def quoE (n:Nat) (e q:Int):Nat:=if q≤e then n*2^(e-q).toNat else n/2^(q-e).toNat
def clsR (r s:Nat):Nat:=if r=0 then 0 else if r<2^(s-1) then 1 else if r=2^(s-1) then 2 else 3
def rstE (n:Nat) (e q:Int):Nat:=if q≤e then 0 else clsR (n%2^(q-e).toNat) (q-e).toNat
def j4 (n:Nat) (e q:Int):Nat:=if 2≤q-e then jamN n (q-e-2).toNat else n*2^(2-(q-e)).toNat
theorem j4_eq (n:Nat) (e q:Int):j4 n e q/4=quoE n e q∧j4 n e q%4=rstE n e q:=by
 unfold j4 quoE rstE
 by_cases h2:2≤q-e
 ·rw [if_pos h2,if_neg (by omega),if_neg (by omega)]
  have es:(q-e).toNat=(q-e-2).toNat+2:=by omega
  rw [es]
  generalize (q-e-2).toNat=s
  have hp:=Nat.two_pow_pos s
  have e1:2^(s+2)=2^s*4:=by rw [Nat.pow_add]
  have e2:2^(s+2-1)=2^s*2:=by rw [show s+2-1=s+1 by omega,Nat.pow_succ]
  unfold jamN clsR
  rw [e2,e1,← Nat.div_div_eq_div_mul,Nat.mod_mul]
  have hr:=Nat.mod_lt n hp
  generalize n%2^s=r at *
  generalize n/2^s=u at *
  have h4:u%4=0∨u%4=1∨u%4=2∨u%4=3:=by omega
  constructor
  ·split <;> omega
  ·rcases h4 with h | h | h | h <;> rw [h] <;> by_cases hz:r=0
   ·rw [if_pos hz,if_pos (by omega)]; exact h
   ·rw [if_neg hz,if_neg (by omega),if_pos (by omega)]; omega
   ·rw [if_pos hz,if_neg (by omega),if_pos (by omega)]; exact h
   ·rw [if_neg hz,if_neg (by omega),if_pos (by omega)]; omega
   ·rw [if_pos hz,if_neg (by omega),if_neg (by omega),if_pos (by omega)]; exact h
   ·rw [if_neg hz,if_neg (by omega),if_neg (by omega),if_neg (by omega)]; omega
   ·rw [if_pos hz,if_neg (by omega),if_neg (by omega),if_neg (by omega)]; exact h
   ·rw [if_neg hz,if_neg (by omega),if_neg (by omega),if_neg (by omega)]; omega
 ·rw [if_neg h2]
  by_cases h1:q≤e
  ·rw [if_pos h1,if_pos h1,show (2-(q-e)).toNat=(e-q).toNat+2 by omega,Nat.pow_add,← Nat.mul_assoc]
   generalize n*2^(e-q).toNat=x
   omega
  ·rw [if_neg h1,if_neg h1,show (2-(q-e)).toNat=1 by omega,show (q-e).toNat=1 by omega]
   unfold clsR
   rcases Nat.mod_two_eq_zero_or_one n with h | h
   ·rw [show n%2^1=0 from h,if_pos rfl]; omega
   ·rw [show n%2^1=1 from h,if_neg (by omega),if_neg (by decide),if_pos (by decide)]; omega
def cutR (n:Nat) (e q:Int) (more:Bool):Nat:=if more then rstE n e q/2*2+1 else rstE n e q
def cutN (m:Int) (neg:Bool) (n:Nat) (e q:Int) (more:Bool):Nat :=
 if cutR n e q more≠0∧furM m neg (decide (quoE n e q%2=1)) (cutR n e q more)=true then quoE n e q+1 else quoE n e q
theorem Dw_zero:Dw 0=[]:=by unfold Dw; rw [dg_zero]; rfl
theorem Dw_len {n:Nat} (h:n≠0):0<(Dw n).length:=by
 unfold Dw; rw [Wd_len,dg_pos (by decide) (by omega)]; simp
theorem Dw_len_gt {n:Nat} (h:n≠0):decide ((((Dw n).length:Nat):Int)>0)=true:=decide_eq_true (by have:=Dw_len h; omega)
theorem Dw_len_pos {n:Nat} (h:n≠0):decide ((0:Int)<(((Dw n).length:Nat):Int))=true:=decide_eq_true (by have:=Dw_len h; omega)
theorem Dw_get (n:Nat):(Dw n).getD 0 0=((n%2^64:Nat):Int):=by
 unfold Dw; rw [Wd_getD]
 rcases Nat.eq_zero_or_pos n with rfl | h
 ·rw [dg_zero]; rfl
 ·rw [dg_pos (by decide) h]; rfl
theorem Dw_one:Dw 1=(1:Int)::[]:=by
 unfold Dw; rw [dg_pos (by decide) (by decide),dg_zero]; rfl
theorem Dw_guard (n:Nat):(decide ((0:Int)<(((Dw n).length:Nat):Int))||!decide ((((Dw n).length:Nat):Int)>0))=true:=by
 by_cases h:0<(Dw n).length
 ·rw [decide_eq_true (by omega)]; rfl
 ·rw [decide_eq_false (p:=(((Dw n).length:Nat):Int)>0) (by omega)]; simp
theorem and3 (n:Nat):andI .u64 ((n%2^64:Nat):Int) 3=((n%4:Nat):Int):=by
 have:=andI_mask (m:=n%2^64) (n:=2) (Nat.mod_lt _ (by decide)) (by decide)
 rw [show n%2^64%2^2=n%4 by omega] at this
 exact this
theorem and1 (n:Nat):andI .u64 ((n%2^64:Nat):Int) 1=((n%2:Nat):Int):=by
 have:=andI_mask (m:=n%2^64) (n:=1) (Nat.mod_lt _ (by decide)) (by decide)
 rw [show n%2^64%2^1=n%2 by omega] at this
 exact this
theorem or1 (n:Nat) (h:n<2^64):orI .u64 (n:Int) 1=((n/2*2+1:Nat):Int):=by
 have:=orN2 (a:=n) (b:=1) h (by decide)
 rw [or_one] at this
 exact this
theorem or01:orI .u64 0 1=1:=by decide
theorem odd_guard (u:Nat):(decide ((((Dw u).length:Nat):Int)>0)&&(andI .u64 ((Dw u).getD 0 0) 1==1))=decide (u%2=1):=by
 rw [Dw_get,and1]
 rcases Nat.eq_zero_or_pos u with rfl | h
 ·rw [Dw_zero]; rfl
 ·rw [Dw_len_gt (by omega),Bool.true_and,Bool.eq_iff_iff,decide_eq_true_eq,beq_iff_eq]; omega
theorem Dw_ws {n:Nat} (h:n<(2^64)^5000):Ws (dg (2^64) n):=by
 have:=dg_len_le (B:=2^64) (by decide) 5000 n h
 exact dg_ws n (by omega)
theorem nv_Dw (n:Nat):nv (2^64) (dg (2^64) n)=n:=nv_dg (by decide) n
theorem shr2 {j:Nat} (hj:Ws (dg (2^64) j)):T141 (Dw j,(2:Int),())=some (Dw (j/4),0,()):=by
 have:=T141_eq (dg (2^64) j) hj 2 (by decide)
 rw [nv_Dw] at this
 exact this
theorem add1 {u:Nat} (hu:Ws (dg (2^64) u)) (hl:(dg (2^64) u).length<1000000):T143 (Dw u,((1:Int)::[]),())=some (Dw (u+1),()):=by
 have:=T143_eq (dg (2^64) u) [1] hu ⟨by simp,by simp⟩ (by rw [dg_trim (by decide)]; exact hl) (by simp [trimL])
 rw [nv_Dw,show nv (2^64) [1]=1 by rfl] at this
 exact this
end VL
namespace VL
open Go Vx
theorem gt00:decide ((0:Int)>0)=false:=rfl
theorem T150_eq (m:Int) (neg:Bool) (n:Nat) (e q:Int) (more:Bool) (hn:n<(2^64)^2000) (hq:q-e≤10000000) (he:-1000000000≤e∧e≤1000000000) (hqb:-1000000000≤q∧q≤1000000000)
  (hs:q-e<2→2-(q-e)≤65536∧n*2^(2-(q-e)).toNat<(2^64)^1024) :
  T150 ((neg,Dw n,e,more,()),m,q,())=some (Dw (cutN m neg n e q more),decide (cutR n e q more≠0),()):=by
 show t150 _ _ _ _ _ _ _ _ _ _ (neg,Dw n,e,more,()) m q=_
 unfold t150
 have hnw:Ws (dg (2^64) n):=Dw_ws (Nat.lt_trans hn (Nat.pow_lt_pow_right (by decide) (by decide)))
 have e0:IntKind.wrap .i64 (q-e)=q-e:=wrapI (by omega)
 have hj4:=j4_eq n e q
 dsimp only
 rw [e0]
 by_cases h2:2≤q-e
 ·rw [show decide (q-e≥2)=true from decide_eq_true h2,cond_true]
  obtain ⟨s,hs⟩:=Int.eq_ofNat_of_zero_le (show 0≤q-e-2 by omega)
  have e1:IntKind.wrap .i64 (q-e-2)=(s:Int):=by rw [wrapI (by omega)]; exact hs
  have hj:j4 n e q=jamN n s:=by unfold j4; rw [if_pos h2]; congr 1; omega
  rw [hj] at hj4
  have hjn:jamN n s≤n+1:=by
   unfold jamN
   have:=Nat.div_le_self n (2^s)
   split <;> omega
  have p0:=T175_eq (dg (2^64) n) hnw s (by omega)
  rw [nv_Dw] at p0
  have hjl:jamN n s<(2^64)^5000:=by
   have h1:(2^64)^2000<(2^64)^5000:=Nat.pow_lt_pow_right (by decide) (by decide)
   generalize (2^64)^2000=A at *
   generalize (2^64)^5000=B at *
   omega
  clear hj
  generalize jamN n s=j at *
  have hj:Ws (dg (2^64) j):=Dw_ws hjl
  rw [e1]
  have p0:T175 (Dw n,(s:Int),())=some (Dw j,0,()):=p0
  have p1:=shr2 hj
  have hu:Ws (dg (2^64) (j/4)):=Dw_ws (Nat.lt_of_le_of_lt (Nat.div_le_self _ _) hjl)
  have hul:=dg_len_le (B:=2^64) (by decide) 5000 (j/4) (Nat.lt_of_le_of_lt (Nat.div_le_self _ _) hjl)
  have p3:=add1 hu (by omega)
  have h4:j%4<4:=Nat.mod_lt _ (by decide)
  unfold cutN cutR
  rw [← hj4.1,← hj4.2]
  rcases Nat.eq_zero_or_pos j with hj0 | hj0
  ·subst hj0
   have pz:T141 ([],(2:Int),())=some (Dw (0/4),0,()):=by rw [← Dw_zero]; exact p1
   cases more with
   | true =>
    have p2:T177 (m,neg,decide (0/4%2=1),(1:Int),())=some (furM m neg (decide (0/4%2=1)) 1,()):=T177_eq m neg _ 1
    simp only [pre175 p0,fun175 p0,cond_true,Dw_zero,List.length_nil,igt0_f,Int.natCast_zero,cond_false,Int.toNat_zero,gt00,or01,pre141 pz,fun141 pz,Dw_guard,odd_guard,pre177 p2,fun177 p2,Bool.true_or,Bool.or_true,Bool.true_and]
    cases hf:furM m neg (decide (0/4%2=1)) 1 with
    | true=>simp only [cond_true,pre143 p3,fun143 p3]; have hf:furM m neg false 1=true:=hf; simp [hf]
    | false=>simp only [cond_false]; have hf:furM m neg false 1=false:=hf; simp [hf]
   | false =>
    simp only [pre175 p0,fun175 p0,cond_true,Dw_zero,List.length_nil,Int.natCast_zero,cond_false,Int.toNat_zero,gt00,pre141 pz,fun141 pz,Dw_guard,Bool.or_true]
    simp
  ·have hjn:j≠0:=by omega
   cases more with
   | true =>
    have p2:=T177_eq m neg (decide (j/4%2=1)) (j%4/2*2+1)
    have hr:j%4/2*2+1≠0:=by omega
    simp only [pre175 p0,fun175 p0,cond_true,Dw_len_gt hjn,Dw_len_pos hjn,Int.toNat_zero,Dw_get j,and3,or1 (j%4) (by omega),pre141 p1,fun141 p1,Dw_guard,odd_guard,pre177 p2,fun177 p2,Bool.true_or,Bool.or_true,bne0_t _ hr,Bool.true_and]
    cases hf:furM m neg (decide (j/4%2=1)) (j%4/2*2+1) with
    | true=>simp only [cond_true,pre143 p3,fun143 p3]; simp [hf]
    | false=>simp only [cond_false]; simp [hf]
   | false =>
    have p2:=T177_eq m neg (decide (j/4%2=1)) (j%4)
    simp only [pre175 p0,fun175 p0,cond_true,cond_false,Dw_len_gt hjn,Dw_len_pos hjn,Int.toNat_zero,Dw_get j,and3,pre141 p1,fun141 p1,Dw_guard,odd_guard,pre177 p2,fun177 p2,Bool.true_or,Bool.or_true]
    rcases Nat.eq_zero_or_pos (j%4) with hz | hz
    ·rw [bne0_f _ hz,Bool.false_and,cond_false]
     simp [hz]
    ·have hr:j%4≠0:=by omega
     rw [bne0_t _ hr,Bool.true_and]
     cases hf:furM m neg (decide (j/4%2=1)) (j%4) with
     | true=>simp only [cond_true,pre143 p3,fun143 p3]; simp [hf,hr]
     | false=>simp only [cond_false]; simp [hf,hr]
 ·rw [show decide (q-e≥2)=false from decide_eq_false h2,cond_false]
  obtain ⟨s,hse⟩:=Int.eq_ofNat_of_zero_le (show 0≤2-(q-e) by omega)
  have e1:IntKind.wrap .i64 (2-(q-e))=(s:Int):=by rw [wrapI (by omega)]; exact hse
  have hj:j4 n e q=n*2^s:=by unfold j4; rw [if_neg h2]; congr 2; omega
  rw [hj] at hj4
  obtain ⟨hs1,hs2⟩:=hs (by omega)
  rw [show (2-(q-e)).toNat=s by omega] at hs2
  have p0:=T176_eq (dg (2^64) n) hnw s (by omega) (by rw [nv_Dw]; exact hs2)
  rw [nv_Dw] at p0
  have hjl:n*2^s<(2^64)^5000:=Nat.lt_trans hs2 (Nat.pow_lt_pow_right (by decide) (by decide))
  clear hj
  generalize n*2^s=j at *
  have hj:Ws (dg (2^64) j):=Dw_ws hjl
  rw [e1]
  have p0:T176 (Dw n,(s:Int),())=some (Dw j,0,()):=p0
  have p1:=shr2 hj
  have hu:Ws (dg (2^64) (j/4)):=Dw_ws (Nat.lt_of_le_of_lt (Nat.div_le_self _ _) hjl)
  have hul:=dg_len_le (B:=2^64) (by decide) 5000 (j/4) (Nat.lt_of_le_of_lt (Nat.div_le_self _ _) hjl)
  have p3:=add1 hu (by omega)
  have h4:j%4<4:=Nat.mod_lt _ (by decide)
  unfold cutN cutR
  rw [← hj4.1,← hj4.2]
  rcases Nat.eq_zero_or_pos j with hj0 | hj0
  ·subst hj0
   have pz:T141 ([],(2:Int),())=some (Dw (0/4),0,()):=by rw [← Dw_zero]; exact p1
   cases more with
   | true =>
    have p2:T177 (m,neg,decide (0/4%2=1),(1:Int),())=some (furM m neg (decide (0/4%2=1)) 1,()):=T177_eq m neg _ 1
    simp only [pre176 p0,fun176 p0,cond_true,Dw_zero,List.length_nil,igt0_f,Int.natCast_zero,cond_false,Int.toNat_zero,gt00,or01,pre141 pz,fun141 pz,Dw_guard,odd_guard,pre177 p2,fun177 p2,Bool.true_or,Bool.or_true,Bool.true_and]
    cases hf:furM m neg (decide (0/4%2=1)) 1 with
    | true=>simp only [cond_true,pre143 p3,fun143 p3]; have hf:furM m neg false 1=true:=hf; simp [hf]
    | false=>simp only [cond_false]; have hf:furM m neg false 1=false:=hf; simp [hf]
   | false =>
    simp only [pre176 p0,fun176 p0,cond_true,Dw_zero,List.length_nil,Int.natCast_zero,cond_false,Int.toNat_zero,gt00,pre141 pz,fun141 pz,Dw_guard,Bool.or_true]
    simp
  ·have hjn:j≠0:=by omega
   cases more with
   | true =>
    have p2:=T177_eq m neg (decide (j/4%2=1)) (j%4/2*2+1)
    have hr:j%4/2*2+1≠0:=by omega
    simp only [pre176 p0,fun176 p0,cond_true,Dw_len_gt hjn,Dw_len_pos hjn,Int.toNat_zero,Dw_get j,and3,or1 (j%4) (by omega),pre141 p1,fun141 p1,Dw_guard,odd_guard,pre177 p2,fun177 p2,Bool.true_or,Bool.or_true,bne0_t _ hr,Bool.true_and]
    cases hf:furM m neg (decide (j/4%2=1)) (j%4/2*2+1) with
    | true=>simp only [cond_true,pre143 p3,fun143 p3]; simp [hf]
    | false=>simp only [cond_false]; simp [hf]
   | false =>
    have p2:=T177_eq m neg (decide (j/4%2=1)) (j%4)
    simp only [pre176 p0,fun176 p0,cond_true,cond_false,Dw_len_gt hjn,Dw_len_pos hjn,Int.toNat_zero,Dw_get j,and3,pre141 p1,fun141 p1,Dw_guard,odd_guard,pre177 p2,fun177 p2,Bool.true_or,Bool.or_true]
    rcases Nat.eq_zero_or_pos (j%4) with hz | hz
    ·rw [bne0_f _ hz,Bool.false_and,cond_false]
     simp [hz]
    ·have hr:j%4≠0:=by omega
     rw [bne0_t _ hr,Bool.true_and]
     cases hf:furM m neg (decide (j/4%2=1)) (j%4) with
     | true=>simp only [cond_true,pre143 p3,fun143 p3]; simp [hf,hr]
     | false=>simp only [cond_false]; simp [hf,hr]
end VL
namespace VL
open Go Vx
def sgnF (f:Int) (neg:Bool):Nat:=if neg then 2^(fW f-1) else 0
def infB (f:Int) (neg:Bool):Nat:=(2^(fW f-fP f)-1)*2^(fP f-1)+sgnF f neg
def upw (m:Int) (neg:Bool):Bool:=((m==0||m==1)||(m==3&&!neg))||(m==4&&neg)
def beyB (f m:Int) (neg:Bool):Nat:=if upw m neg then infB f neg else infB f neg-1
theorem T97_ok {f:Int} (h:Fm f) (neg:Bool):T97 (f,neg,())=some ((infB f neg:Int),0,()):=by
 rcases Fm_cases h with rfl | rfl | rfl | rfl <;> cases neg <;> kernel_rfl
theorem T43_ok {f:Int} (h:Fm f) (neg:Bool):T43 (f,neg,())=some (((infB f neg-1:Nat):Int),0,()):=by
 rcases Fm_cases h with rfl | rfl | rfl | rfl <;> cases neg <;> kernel_rfl
theorem T118_ok {f:Int} (h:Fm f) (neg:Bool):T118 (f,neg,())=some ((sgnF f neg:Int),0,()):=by
 rcases Fm_cases h with rfl | rfl | rfl | rfl <;> cases neg <;> kernel_rfl
theorem T149_eq {f:Int} (h:Fm f) (m:Int) (neg:Bool):T149 (f,m,neg,())=some ((beyB f m neg:Int),()):=by
 show t149 S97.pre S97.F S43.pre S43.F f m neg=_
 have p0:=T97_ok h neg
 have p1:=T43_ok h neg
 unfold t149 beyB
 show (bif upw m neg then (bif S97.pre (f,neg,()) then some ((S97.F (f,neg,())).1,()) else none) else (bif S43.pre (f,neg,()) then some ((S43.F (f,neg,())).1,()) else none))=_
 rw [pre97 p0,fun97 p0,pre43 p1,fun43 p1]
 cases upw m neg <;> rfl
def topE (n:Nat) (e:Int):Int:=e+(blen n:Int)-1
theorem blen_bound {n k:Nat} (h:n<2^k):blen n≤k:=by
 rcases Nat.eq_zero_or_pos n with rfl | hn
 ·exact Nat.zero_le _
 ·have:=blen_le (n:=n) (by omega)
  have:blen n-1<k:=(Nat.pow_lt_pow_iff_right (a:=2) (by decide)).1 (Nat.lt_of_le_of_lt this h)
  omega
theorem blen_pos {n:Nat} (h:n≠0):1≤blen n:=by unfold blen; rw [if_neg h]; omega
theorem big_blen {n:Nat} (h:n<(2^64)^2000):blen n≤128000:=by
 apply blen_bound
 rw [pow64] at h
 exact h
theorem T151_Dw {n:Nat} (h:n<(2^64)^5000):T151 (Dw n,())=some ((blen n:Int),()):=by
 have:=T151_eq _ (Dw_ws h)
 rw [nv_Dw] at this
 exact this
theorem lt5000 {n:Nat} (h:n<(2^64)^2000):n<(2^64)^5000:=Nat.lt_trans h (Nat.pow_lt_pow_right (by decide) (by decide))
theorem T148_eq (neg:Bool) (n:Nat) (e:Int) (more:Bool) (hn:n<(2^64)^2000) (he:-1000000≤e∧e≤1000000):T148 ((neg,Dw n,e,more,()),())=some (topE n e,()):=by
 show t148 S151.pre S151.F (neg,Dw n,e,more,())=_
 unfold t148
 have p0:=T151_Dw (lt5000 hn)
 have hb:=big_blen hn
 simp only [pre151 p0,fun151 p0,cond_true]
 rw [wrapI (n:=e+(blen n:Int)) (by omega),wrapI (by omega)]
 rfl
theorem quo_lt {n:Nat} {e q:Int} {p:Nat} (h:topE n e-p+1≤q):quoE n e q<2^p:=by
 unfold topE at h
 unfold quoE
 have hb:=blen_lt n
 by_cases hq:q≤e
 ·rw [if_pos hq]
  have h1:n*2^(e-q).toNat<2^blen n*2^(e-q).toNat:=Nat.mul_lt_mul_of_pos_right hb (Nat.two_pow_pos _)
  rw [← Nat.pow_add] at h1
  exact Nat.lt_of_lt_of_le h1 (Nat.pow_le_pow_right (by decide) (by omega))
 ·rw [if_neg hq,Nat.div_lt_iff_lt_mul (Nat.two_pow_pos _),← Nat.pow_add]
  exact Nat.lt_of_lt_of_le hb (Nat.pow_le_pow_right (by decide) (by omega))
theorem cut_le {m:Int} {neg:Bool} {n:Nat} {e q:Int} {more:Bool} {p:Nat} (h:topE n e-p+1≤q):cutN m neg n e q more≤2^p:=by
 have:=quo_lt h
 unfold cutN
 split <;> omega
theorem T150_ok (m:Int) (neg:Bool) (n:Nat) (e q:Int) (more:Bool) (hn:n<(2^64)^2000) (he:-1000000≤e∧e≤1000000) {p:Nat} (hp:p≤60) (h1:topE n e-p+1≤q) (h2:q≤topE n e∨q≤1000) :
  T150 ((neg,Dw n,e,more,()),m,q,())=some (Dw (cutN m neg n e q more),decide (cutR n e q more≠0),()):=by
 have hb:=big_blen hn
 unfold topE at h1 h2
 refine T150_eq m neg n e q more hn (by omega) (by omega) (by omega) fun hs=>?_
 refine ⟨by omega,?_⟩
 have hl:=blen_lt n
 have h3:n*2^(2-(q-e)).toNat<2^blen n*2^(2-(q-e)).toNat:=Nat.mul_lt_mul_of_pos_right hl (Nat.two_pow_pos _)
 rw [← Nat.pow_add] at h3
 rw [pow64]
 exact Nat.lt_of_lt_of_le h3 (Nat.pow_le_pow_right (by decide) (by omega))
theorem T152_eq (neg:Bool) (n:Nat) (e:Int) (more:Bool) (f m:Int) (hf:Fm f) (hn:n<(2^64)^2000) (he:-1000000≤e∧e≤1000000) :
  T152 ((neg,Dw n,e,more,()),rowOf f,m,topE n e,())=some (decide (topE n e<1-(fX f:Int)∧topE n e-fP f+blen (cutN m neg n e (topE n e-fP f+1) more)<1-(fX f:Int)),()):=by
 show t152 S150.pre S150.F S151.pre S151.F (neg,Dw n,e,more,()) ((fW f:Int),((fP f:Int),((1-(fX f:Int)),((fX f:Int),())))) m (topE n e)=_
 unfold t152
 have hb:=big_blen hn
 have hp:=fP_lt hf
 have hw:=fW_le hf
 have hx:=fX_le hf
 have hp8:=fP_ge hf
 have ht:topE n e=e+(blen n:Int)-1:=rfl
 have p0:=T150_ok m neg n e (topE n e-fP f+1) more hn he (p:=fP f) (by omega) (by omega) (by omega)
 have hc:=cut_le (m:=m) (neg:=neg) (more:=more) (n:=n) (e:=e) (q:=topE n e-fP f+1) (p:=fP f) (by omega)
 generalize cutN m neg n e (topE n e-fP f+1) more=u at *
 have hu:u<(2^64)^5000:=by
  rw [pow64]
  exact Nat.lt_of_le_of_lt hc (Nat.pow_lt_pow_right (by decide) (by omega))
 have hub:blen u≤fP f+1:=blen_bound (Nat.lt_of_le_of_lt hc (Nat.pow_lt_pow_right (by decide) (by omega)))
 have p1:=T151_Dw hu
 have e1:IntKind.wrap .i64 (topE n e-(fP f:Int))=topE n e-(fP f:Int):=wrapI (by omega)
 have e2:IntKind.wrap .i64 (topE n e-(fP f:Int)+1)=topE n e-(fP f:Int)+1:=wrapI (by omega)
 have e3:IntKind.wrap .i64 (topE n e-(fP f:Int)+(blen u:Int))=topE n e-(fP f:Int)+(blen u:Int):=wrapI (by omega)
 dsimp only
 rw [e1,e2]
 by_cases h:topE n e≥1-(fX f:Int)
 ·rw [decide_eq_true h,cond_true,decide_eq_false (by omega)]
 ·rw [decide_eq_false h,cond_false]
  simp only [pre150 p0,fun150 p0,cond_true,pre151 p1,fun151 p1,e3]
  have:(topE n e<1-(fX f:Int)):=by omega
  simp only [this,true_and]
end VL
namespace VL
open Go Vx
def lowE (f:Int) (t:Int):Int:=(if 1-(fX f:Int)>t then 1-(fX f:Int) else t)-fP f+1
def isTiny (f m:Int) (neg:Bool) (n:Nat) (e:Int) (more:Bool):Prop:=topE n e<1-(fX f:Int)∧topE n e-fP f+blen (cutN m neg n e (topE n e-fP f+1) more)<1-(fX f:Int)
instance (f m:Int) (neg:Bool) (n:Nat) (e:Int) (more:Bool):Decidable (isTiny f m neg n e more):=by unfold isTiny; infer_instance
def rndN (f m:Int) (neg:Bool) (n:Nat) (e:Int) (more:Bool):Nat×Nat :=
 if topE n e>fX f then (beyB f m neg,20)
 else
  let q:=lowE f (topE n e)
  let u:=cutN m neg n e q more
  if q+blen u-1>fX f then (beyB f m neg,20)
  else ((q-(1-(fX f:Int)-fP f+1)).toNat*2^(fP f-1)+u+sgnF f neg,
   if cutR n e q more=0 then 0 else if isTiny f m neg n e more then 24 else 16)
theorem half_eq {f:Int} (hf:Fm f):(2*fX f-1)*2^(fP f-1)+2^fP f+2^(fP f-1)=2^(fW f-1):=by
 rcases Fm_cases hf with rfl | rfl | rfl | rfl <;> decide
theorem fX_ge {f:Int} (hf:Fm f):15≤fX f:=by
 rcases Fm_cases hf with rfl | rfl | rfl | rfl <;> decide
theorem T107_eq (neg:Bool) (n:Nat) (e:Int) (more:Bool) (f m:Int) (hf:Fm f) (hn:n<(2^64)^2000) (he:-1000000≤e∧e≤1000000) :
  T107 ((neg,Dw n,e,more,()),f,rowOf f,m,())=some (((rndN f m neg n e more).1:Int),((rndN f m neg n e more).2:Int),()):=by
 show t107 _ _ _ _ _ _ _ _ _ _ (neg,Dw n,e,more,()) f ((fW f:Int),((fP f:Int),((1-(fX f:Int)),((fX f:Int),())))) m=_
 unfold t107 rndN
 have hb:=big_blen hn
 have hp:=fP_lt hf
 have hp8:=fP_ge hf
 have hw:=fW_le hf
 have hx:=fX_le hf
 have hx15:=fX_ge hf
 have ht:topE n e=e+(blen n:Int)-1:=rfl
 have pt:=T148_eq neg n e more hn he
 have pb:=T149_eq hf m neg
 have py:=T152_eq neg n e more f m hf hn he
 have hrow:rowOf f=((fW f:Int),((fP f:Int),((1-(fX f:Int)),((fX f:Int),())))):=rfl
 rw [hrow] at py
 simp only [pre148 pt,fun148 pt,cond_true]
 by_cases h1:topE n e>(fX f:Int)
 ·rw [if_pos h1,decide_eq_true h1,cond_true]
  simp only [pre149 pb,fun149 pb,cond_true]
  rfl
 rw [if_neg h1,decide_eq_false h1,cond_false]
 have hM:∃ M:Int,(if 1-(fX f:Int)>topE n e then 1-(fX f:Int) else topE n e)=M∧topE n e≤M∧1-(fX f:Int)≤M∧M≤fX f∧(M=topE n e∨M=1-(fX f:Int)):=by
  refine ⟨_,rfl,?_⟩
  split <;> omega
 obtain ⟨M,hMe,m1,m2,m3,m4⟩:=hM
 have hq:lowE f (topE n e)=M-fP f+1:=by unfold lowE; rw [hMe]
 simp only [hMe,hq]
 have e1:IntKind.wrap .i64 (M-(fP f:Int))=M-(fP f:Int):=wrapI (by omega)
 have e2:IntKind.wrap .i64 (M-(fP f:Int)+1)=M-(fP f:Int)+1:=wrapI (by omega)
 simp only [e1,e2]
 have p0:=T150_ok m neg n e (M-(fP f:Int)+1) more hn he (p:=fP f) (by omega) (by omega) (by omega)
 have hc:=cut_le (m:=m) (neg:=neg) (more:=more) (n:=n) (e:=e) (q:=M-(fP f:Int)+1) (p:=fP f) (by omega)
 generalize cutN m neg n e (M-(fP f:Int)+1) more=u at *
 generalize cutR n e (M-(fP f:Int)+1) more=r at *
 have hP60:2^fP f≤2^60:=Nat.pow_le_pow_right (by decide) (by omega)
 have hu:u<(2^64)^5000:=by
  rw [pow64]
  exact Nat.lt_of_le_of_lt hc (Nat.pow_lt_pow_right (by decide) (by omega))
 have hub:blen u≤fP f+1:=blen_bound (Nat.lt_of_le_of_lt hc (Nat.pow_lt_pow_right (by decide) (by omega)))
 have p1:=T151_Dw hu
 have e3:IntKind.wrap .i64 ((fP f:Int)-1)=((fP f-1:Nat):Int):=wsub1 _ (by omega)
 have e4:IntKind.wrap .i64 ((fW f:Int)-1)=((fW f-1:Nat):Int):=wsub1 _ (by omega)
 have e5:IntKind.wrap .i64 (M-(fP f:Int)+1+(blen u:Int))=M-(fP f:Int)+1+(blen u:Int):=wrapI (by omega)
 have e6:IntKind.wrap .i64 (M-(fP f:Int)+1+(blen u:Int)-1)=M-(fP f:Int)+1+(blen u:Int)-1:=wrapI (by omega)
 have e7:IntKind.wrap .i64 (1-(fX f:Int)-(fP f:Int))=1-(fX f:Int)-(fP f:Int):=wrapI (by omega)
 have e8:IntKind.wrap .i64 (1-(fX f:Int)-(fP f:Int)+1)=1-(fX f:Int)-(fP f:Int)+1:=wrapI (by omega)
 obtain ⟨k,hk⟩:=Int.eq_ofNat_of_zero_le (show 0≤M-(fP f:Int)+1-(1-(fX f:Int)-(fP f:Int)+1) by omega)
 have e9:IntKind.wrap .i64 (M-(fP f:Int)+1-(1-(fX f:Int)-(fP f:Int)+1))=(k:Int):=by rw [wrapI (by omega)]; exact hk
 have e10:IntKind.wrap .u64 (k:Int)=(k:Int):=wrapU (by omega)
 have hkn:(M-(fP f:Int)+1-(1-(fX f:Int)-(fP f:Int)+1)).toNat=k:=by omega
 have hhalf:=half_eq hf
 have hk2:k≤2*fX f-1:=by omega
 have hk3:=Nat.mul_le_mul_right (2^(fP f-1)) hk2
 have hW64:2^(fW f-1)≤2^63:=Nat.pow_le_pow_right (by decide) (by omega)
 have hpp:=Nat.two_pow_pos (fP f-1)
 have e11:shlI .u64 (k:Int) ((fP f-1:Nat):Int)=((k*2^(fP f-1):Nat):Int):=by
  rw [shlN _ _ (by omega),Nat.mod_eq_of_lt (by omega)]
 have e12:shlI .u64 1 ((fW f-1:Nat):Int)=((1*2^(fW f-1):Nat):Int):=by rw [shlI_one (by omega),Nat.one_mul]
 generalize hA:k*2^(fP f-1)=A at *
 have hbits:A+u<2^(fW f-1):=by omega
 have e13:IntKind.wrap .u64 ((A:Int)+((u%2^64:Nat):Int))=((A+u:Nat):Int):=by
  rw [Nat.mod_eq_of_lt (by omega),wrapU (by omega)]; omega
 have hor:∀ b:Nat,b<2^(fW f-1)→orI .u64 (b:Int) ((1*2^(fW f-1):Nat):Int)=((b+2^(fW f-1):Nat):Int):=fun b hb=>by
  have:=orN (a:=b) (b:=1) (k:=fW f-1) hb (by omega)
  rw [Nat.one_mul] at this ⊢
  exact this
 have hsg:sgnF f neg=if neg then 2^(fW f-1) else 0:=rfl
 have htd:decide (topE n e<1-(fX f:Int)∧topE n e-fP f+blen (cutN m neg n e (topE n e-fP f+1) more)<1-(fX f:Int))=decide (isTiny f m neg n e more):=by
  unfold isTiny; rfl
 rw [htd] at py
 simp only [pre150 p0,fun150 p0,cond_true,e3,nnn,pre151 p1,fun151 p1,e5,e6,e7,e8,e9,e10,e11,e4,e12,hkn,hA]
 rcases Nat.eq_zero_or_pos u with hu0 | hu0
 ·subst hu0
  have hl0:decide ((((Dw 0).length:Nat):Int)>0)=false:=by rw [Dw_zero]; rfl
  rw [hl0,cond_false]
  by_cases h2:M-(fP f:Int)+1+(blen 0:Int)-1>(fX f:Int)
  ·rw [decide_eq_true h2,cond_true,if_pos h2]
   simp only [pre149 pb,fun149 pb,cond_true]
   rfl
  ·rw [decide_eq_false h2,cond_false,if_neg h2]
   have hbi:=hor (A) (by omega)
   rw [hbi]
   by_cases hr:r=0
   ·rw [if_pos hr,decide_eq_false (p:=r≠0) (by omega)]
    simp only [Bool.not_false,cond_true]
    cases neg <;> rfl
   ·rw [if_neg hr,decide_eq_true (p:=r≠0) hr]
    simp only [Bool.not_true,cond_false,pre152 py,fun152 py,cond_true]
    by_cases hti:isTiny f m neg n e more
    ·rw [if_pos hti,decide_eq_true hti]
     cases neg <;> rfl
    ·rw [if_neg hti,decide_eq_false hti]
     cases neg <;> rfl
 ·have hun:u≠0:=by omega
  simp only [Dw_len_gt hun,Dw_len_pos hun,cond_true,Int.toNat_zero,Dw_get,e13]
  by_cases h2:M-(fP f:Int)+1+(blen u:Int)-1>(fX f:Int)
  ·rw [decide_eq_true h2,cond_true,if_pos h2]
   simp only [pre149 pb,fun149 pb,cond_true]
   rfl
  ·rw [decide_eq_false h2,cond_false,if_neg h2]
   have hbi:=hor (A+u) (by omega)
   rw [hbi]
   by_cases hr:r=0
   ·rw [if_pos hr,decide_eq_false (p:=r≠0) (by omega)]
    simp only [Bool.not_false,cond_true]
    cases neg <;> rfl
   ·rw [if_neg hr,decide_eq_true (p:=r≠0) hr]
    simp only [Bool.not_true,cond_false,pre152 py,fun152 py,cond_true]
    by_cases hti:isTiny f m neg n e more
    ·rw [if_pos hti,decide_eq_true hti]
     cases neg <;> rfl
    ·rw [if_neg hti,decide_eq_false hti]
     cases neg <;> rfl
theorem T105_ok {f m:Int} (hf:Fm f) (hm:0≤m∧m≤5):T105 (f,m,())=some (rowOf f,0,()):=by
 show t105 S69.pre S69.F S147.pre S147.F f m=_
 unfold t105
 have p0:=T69_ok hf
 have p1:T147 (m,())=some (0,()):=by
  show t147 m=_
  unfold t147
  rw [decide_eq_false (show ¬ m<0 by omega),decide_eq_false (show ¬ m>5 by omega)]; rfl
 simp only [pre69 p0,fun69 p0,cond_true,pre147 p1,fun147 p1]
 rfl
theorem T156_ok {f:Int} (h:Fm f) (neg:Bool):T156 (f,neg,())=some ((sgnF f neg:Int),0,0,()):=by
 show t156 S118.pre S118.F f neg=_
 unfold t156
 have p0:=T118_ok h neg
 simp only [pre118 p0,fun118 p0,cond_true]
theorem two_words (s:Nat) (hs:s<2^128):(Wi s).2.1::(Wi s).1::[]=Wd [s%2^64,s/2^64]∧Ws [s%2^64,s/2^64]∧nv (2^64) [s%2^64,s/2^64]=s:=by
 refine ⟨rfl,⟨?_,by simp⟩,?_⟩
 ·intro x hx
  have:x=s%2^64∨x=s/2^64:=by simpa using hx
  omega
 ·simp only [nv]; omega
theorem T122_eq {f m:Int} (hf:Fm f) (hm:0≤m∧m≤5) (neg:Bool) (s:Nat) (hs:s<2^128) (e:Int) (he:-40000≤e∧e≤40000) (more:Bool) (hmore:more=true→fP f+2≤blen s) :
  T122 (f,m,neg,Wi s,e,more,())=some (if s=0 then ((sgnF f neg:Int),0,0,()) else (((rndN f m neg s e more).1:Int),((rndN f m neg s e more).2:Int),0,())):=by
 show t122 _ _ _ _ _ _ _ _ _ _ f m neg (Wi s) e more=_
 unfold t122
 obtain ⟨w1,w2,w3⟩:=two_words s hs
 have hP:=fP_lt hf
 have hW:=fW_le hf
 have p0:=T105_ok hf hm
 have p1:=T102_eq _ w2
 rw [← w1,w3] at p1
 have hs2:s<(2^64)^2000:=by
  rw [pow64]
  exact Nat.lt_of_lt_of_le hs (Nat.pow_le_pow_right (by decide) (by decide))
 have p2:=T151_Dw (lt5000 hs2)
 have p3:=T156_ok hf neg
 have p4:=T107_eq neg s e more f m hf hs2 (by omega)
 have e1:decide (e < -40000)=false:=decide_eq_false (by omega)
 have e2:decide (e>40000)=false:=decide_eq_false (by omega)
 have e3:IntKind.wrap .i64 ((rowOf f).2.1+2)=((fP f+2:Nat):Int):=by
  show IntKind.wrap .i64 ((fP f:Int)+2)=_
  rw [wrapI (by omega)]; rfl
 have e4:(more&&decide ((blen s:Int)<((fP f+2:Nat):Int)))=false:=by
  cases more with
  | false=>rfl
  | true=>rw [decide_eq_false (by have:=hmore rfl; omega)]; rfl
 have z0:((0:Int) != 0)=false:=rfl
 simp only [pre105 p0,fun105 p0,cond_true,z0,cond_false,pre102 p1,fun102 p1,e1,e2,Bool.or_self,pre151 p2,fun151 p2,Bool.true_or,e3,e4]
 by_cases h0:s=0
 ·rw [if_pos h0]
  subst h0
  rw [show ((((Dw 0).length:Nat):Int)==0)=true by rw [Dw_zero]; rfl,cond_true]
  simp only [pre156 p3,fun156 p3,cond_true]
 ·rw [if_neg h0,beq0_f _ (by have:=Dw_len h0; omega),cond_false]
  simp only [pre107 p4,fun107 p4,cond_true]
end VL
namespace VL
open Go Vx
theorem cls_more {r k s ρ:Nat} (hρ:0<ρ) (hρ2:ρ<2^k) (hs:1≤s):clsR (ρ+2^k*r) (k+s)=clsR r s/2*2+1:=by
 unfold clsR
 have hp:2^(k+s-1)=2^k*2^(s-1):=by rw [← Nat.pow_add]; congr 1; omega
 rw [hp]
 have hh:=Nat.two_pow_pos (s-1)
 generalize 2^(s-1)=h at *
 generalize 2^k=K at *
 rw [if_neg (by omega)]
 rcases Nat.lt_trichotomy r h with h1 | h1 | h1
 ·have:K*(r+1)≤K*h:=Nat.mul_le_mul_left _ h1
  rw [Nat.mul_add,Nat.mul_one] at this
  rw [if_pos (by omega)]
  by_cases hr:r=0
  ·rw [if_pos hr]
  ·rw [if_neg hr,if_pos h1]
 ·subst h1
  rw [if_neg (by omega),if_neg (by omega),if_neg (by omega),if_neg (by omega),if_pos rfl]
 ·have:K*(h+1)≤K*r:=Nat.mul_le_mul_left _ h1
  rw [Nat.mul_add,Nat.mul_one] at this
  rw [if_neg (by omega),if_neg (by omega),if_neg (by omega),if_neg (by omega),if_neg (by omega)]
theorem cls_scale {r k s:Nat} (hs:1≤s):clsR (2^k*r) (k+s)=clsR r s:=by
 unfold clsR
 have hp:2^(k+s-1)=2^k*2^(s-1):=by rw [← Nat.pow_add]; congr 1; omega
 rw [hp]
 have hk:=Nat.two_pow_pos k
 generalize 2^(s-1)=h at *
 generalize 2^k=K at *
 have h1:K*r=0↔r=0:=by
  constructor
  ·intro h; rcases Nat.mul_eq_zero.1 h with h | h <;> omega
  ·intro h; rw [h,Nat.mul_zero]
 have h2:K*r<K*h↔r<h:=Nat.mul_lt_mul_left hk
 have h3:K*r=K*h↔r=h:=Nat.mul_right_inj (by omega)
 simp only [h1,h2,h3]
theorem mod_split (N k s:Nat):N%2^(k+s)=N%2^k+2^k*(N/2^k%2^s):=by
 rw [Nat.pow_add,Nat.mod_mul]
theorem quoE_lo {n:Nat} {e q:Int} (h:q≤e):quoE n e q=n*2^(e-q).toNat:=if_pos h
theorem quoE_hi {n:Nat} {e q:Int} (h:e<q):quoE n e q=n/2^(q-e).toNat:=if_neg (by omega)
theorem rstE_lo {n:Nat} {e q:Int} (h:q≤e):rstE n e q=0:=if_pos h
theorem rstE_hi {n:Nat} {e q:Int} (h:e<q):rstE n e q=clsR (n%2^(q-e).toNat) (q-e).toNat:=if_neg (by omega)
theorem cutR_f (n:Nat) (e q:Int):cutR n e q false=rstE n e q:=rfl
theorem cutR_t (n:Nat) (e q:Int):cutR n e q true=rstE n e q/2*2+1:=rfl
theorem cut_trunc {N k:Nat} {E q:Int} (hq:N%2^k≠0→E+k<q) :
  quoE (N/2^k) (E+k) q=quoE N E q∧cutR (N/2^k) (E+k) q (decide (N%2^k≠0))=cutR N E q false:=by
 have hk:=Nat.two_pow_pos k
 have hdm:=Nat.div_add_mod N (2^k)
 by_cases h1:E+k<q
 ·have es:(q-E).toNat=k+(q-(E+k)).toNat:=by omega
  have hs:1≤(q-(E+k)).toNat:=by omega
  rw [quoE_hi h1,quoE_hi (by omega),cutR_f,rstE_hi (e:=E) (by omega),es]
  have hrs:=rstE_hi (n:=N/2^k) h1
  generalize (q-(E+k)).toNat=s at *
  refine ⟨by rw [Nat.div_div_eq_div_mul,← Nat.pow_add],?_⟩
  rw [mod_split]
  by_cases hr:N%2^k=0
  ·rw [hr,Nat.zero_add,cls_scale hs,show decide ((0:Nat)≠0)=false by decide,cutR_f,hrs]
  ·have hρ:0<N%2^k:=by omega
   rw [cls_more hρ (Nat.mod_lt _ hk) hs,decide_eq_true hr,cutR_t,hrs]
 ·have hr:N%2^k=0:=by
   by_cases h:N%2^k=0
   ·exact h
   ·exact absurd (hq h) h1
  rw [hr,Nat.add_zero] at hdm
  rw [hr]
  clear hq hr
  generalize N/2^k=n at *
  subst hdm
  have hz:decide ((0:Nat)≠0)=false:=by decide
  rw [hz,quoE_lo (by omega),cutR_f,cutR_f,rstE_lo (by omega)]
  by_cases h2:q≤E
  ·rw [quoE_lo h2,rstE_lo h2,show (E+k-q).toNat=k+(E-q).toNat by omega,Nat.pow_add,Nat.mul_comm (2^k) n,Nat.mul_assoc]
   exact ⟨rfl,rfl⟩
  ·rw [quoE_hi (by omega),rstE_hi (by omega)]
   have ek:k=(q-E).toNat+(E+k-q).toNat:=by omega
   generalize (q-E).toNat=s at *
   generalize (E+k-q).toNat=t at *
   have:2^k*n=2^s*(2^t*n):=by rw [ek,Nat.pow_add,Nat.mul_assoc]
   rw [this,Nat.mul_div_cancel_left _ (Nat.two_pow_pos s),Nat.mul_mod_right]
   exact ⟨Nat.mul_comm _ _,rfl⟩
theorem cutN_trunc {m:Int} {neg:Bool} {N k:Nat} {E q:Int} (hq:N%2^k≠0→E+k<q):cutN m neg (N/2^k) (E+k) q (decide (N%2^k≠0))=cutN m neg N E q false:=by
 obtain ⟨h1,h2⟩:=cut_trunc hq
 unfold cutN
 rw [h1,h2]
theorem top_trunc {N k:Nat} {E:Int} (hn:N/2^k≠0):topE (N/2^k) (E+k)=topE N E:=by
 have hk:=Nat.two_pow_pos k
 have h1:2^k≤N:=by
  rcases Nat.lt_or_ge N (2^k) with h | h
  ·exact absurd (Nat.div_eq_of_lt h) hn
  ·exact h
 have:=blen_shift h1
 unfold topE
 omega
theorem rnd_trunc {f m:Int} {neg:Bool} {N k:Nat} {E:Int} (hf:Fm f) (hn:N/2^k≠0) (hm:N%2^k≠0→fP f+2≤blen (N/2^k)):rndN f m neg (N/2^k) (E+k) (decide (N%2^k≠0))=rndN f m neg N E false:=by
 have ht:=top_trunc (E:=E) hn
 have htd:topE (N/2^k) (E+k)=E+k+(blen (N/2^k):Int)-1:=rfl
 have hq1:N%2^k≠0→E+k<lowE f (topE N E):=fun h=>by
  have:=hm h
  unfold lowE
  split <;> omega
 have hq2:N%2^k≠0→E+k<topE N E-fP f+1:=fun h=>by
  have:=hm h
  omega
 have hti:isTiny f m neg (N/2^k) (E+k) (decide (N%2^k≠0))=isTiny f m neg N E false:=by
  unfold isTiny
  rw [ht,cutN_trunc hq2]
 unfold rndN
 simp only [ht,cutN_trunc hq1,(cut_trunc hq1).2,hti]
theorem rnd_scale {f m:Int} {neg:Bool} (hf:Fm f) {n:Nat} (hn:n≠0) (k:Nat) (e:Int):rndN f m neg (n*2^k) e false=rndN f m neg n (e+k) false:=by
 have hk:=Nat.two_pow_pos k
 have:=rnd_trunc (f:=f) (m:=m) (neg:=neg) (N:=n*2^k) (k:=k) (E:=e) hf (by rw [Nat.mul_div_cancel _ hk]; exact hn) (by rw [Nat.mul_mod_left]; omega)
 rw [Nat.mul_div_cancel _ hk,Nat.mul_mod_left] at this
 exact this.symm
end VL
namespace VL
open Go Vx
noncomputable def tail71 (f m:Int) (nx:Bool) (X ex:Int) (ny:Bool) (Y ey:Int):Option (DenS O71) :=
 bif (S119.pre (((0:Int),(X,())),((if ((70:Int)<(Go.IntKind.wrap Go.IntKind.i64 (ex-ey))) then (70:Int) else (Go.IntKind.wrap Go.IntKind.i64 (ex-ey))),()))) then
  (bif (S120.pre (((0:Int),(Y,())),((Go.IntKind.wrap Go.IntKind.i64 ((Go.IntKind.wrap Go.IntKind.i64 (ex-(if ((70:Int)<(Go.IntKind.wrap Go.IntKind.i64 (ex-ey))) then (70:Int) else (Go.IntKind.wrap Go.IntKind.i64 (ex-ey)))))-ey)),()))) then
   (bif (S119.pre ((S120.F (((0:Int),(Y,())),((Go.IntKind.wrap Go.IntKind.i64 ((Go.IntKind.wrap Go.IntKind.i64 (ex-(if ((70:Int)<(Go.IntKind.wrap Go.IntKind.i64 (ex-ey))) then (70:Int) else (Go.IntKind.wrap Go.IntKind.i64 (ex-ey)))))-ey)),()))).1,((Go.IntKind.wrap Go.IntKind.i64 ((Go.IntKind.wrap Go.IntKind.i64 (ex-(if ((70:Int)<(Go.IntKind.wrap Go.IntKind.i64 (ex-ey))) then (70:Int) else (Go.IntKind.wrap Go.IntKind.i64 (ex-ey)))))-ey)),()))) then
    (bif (S120.pre (((0:Int),(Y,())),((Go.IntKind.wrap Go.IntKind.i64 ((Go.IntKind.wrap Go.IntKind.i64 (ex-(if ((70:Int)<(Go.IntKind.wrap Go.IntKind.i64 (ex-ey))) then (70:Int) else (Go.IntKind.wrap Go.IntKind.i64 (ex-ey)))))-ey)),()))) then
     (bif (nx==ny) then
      (bif (S121.pre ((S119.F (((0:Int),(X,())),((if ((70:Int)<(Go.IntKind.wrap Go.IntKind.i64 (ex-ey))) then (70:Int) else (Go.IntKind.wrap Go.IntKind.i64 (ex-ey))),()))).1,(S120.F (((0:Int),(Y,())),((Go.IntKind.wrap Go.IntKind.i64 ((Go.IntKind.wrap Go.IntKind.i64 (ex-(if ((70:Int)<(Go.IntKind.wrap Go.IntKind.i64 (ex-ey))) then (70:Int) else (Go.IntKind.wrap Go.IntKind.i64 (ex-ey)))))-ey)),()))))) then
       (bif (S122.pre (f,(m,(nx,((S121.F ((S119.F (((0:Int),(X,())),((if ((70:Int)<(Go.IntKind.wrap Go.IntKind.i64 (ex-ey))) then (70:Int) else (Go.IntKind.wrap Go.IntKind.i64 (ex-ey))),()))).1,(S120.F (((0:Int),(Y,())),((Go.IntKind.wrap Go.IntKind.i64 ((Go.IntKind.wrap Go.IntKind.i64 (ex-(if ((70:Int)<(Go.IntKind.wrap Go.IntKind.i64 (ex-ey))) then (70:Int) else (Go.IntKind.wrap Go.IntKind.i64 (ex-ey)))))-ey)),()))))).1,((Go.IntKind.wrap Go.IntKind.i64 (ex-(if ((70:Int)<(Go.IntKind.wrap Go.IntKind.i64 (ex-ey))) then (70:Int) else (Go.IntKind.wrap Go.IntKind.i64 (ex-ey))))),(((!(((S119.F ((S120.F (((0:Int),(Y,())),((Go.IntKind.wrap Go.IntKind.i64 ((Go.IntKind.wrap Go.IntKind.i64 (ex-(if ((70:Int)<(Go.IntKind.wrap Go.IntKind.i64 (ex-ey))) then (70:Int) else (Go.IntKind.wrap Go.IntKind.i64 (ex-ey)))))-ey)),()))).1,((Go.IntKind.wrap Go.IntKind.i64 ((Go.IntKind.wrap Go.IntKind.i64 (ex-(if ((70:Int)<(Go.IntKind.wrap Go.IntKind.i64 (ex-ey))) then (70:Int) else (Go.IntKind.wrap Go.IntKind.i64 (ex-ey)))))-ey)),()))).1.1==(0:Int))&&((S119.F ((S120.F (((0:Int),(Y,())),((Go.IntKind.wrap Go.IntKind.i64 ((Go.IntKind.wrap Go.IntKind.i64 (ex-(if ((70:Int)<(Go.IntKind.wrap Go.IntKind.i64 (ex-ey))) then (70:Int) else (Go.IntKind.wrap Go.IntKind.i64 (ex-ey)))))-ey)),()))).1,((Go.IntKind.wrap Go.IntKind.i64 ((Go.IntKind.wrap Go.IntKind.i64 (ex-(if ((70:Int)<(Go.IntKind.wrap Go.IntKind.i64 (ex-ey))) then (70:Int) else (Go.IntKind.wrap Go.IntKind.i64 (ex-ey)))))-ey)),()))).1.2.1==Y)))||((decide ((Go.IntKind.wrap Go.IntKind.i64 ((Go.IntKind.wrap Go.IntKind.i64 (ex-(if ((70:Int)<(Go.IntKind.wrap Go.IntKind.i64 (ex-ey))) then (70:Int) else (Go.IntKind.wrap Go.IntKind.i64 (ex-ey)))))-ey))>(63:Int)))&&(Y != (0:Int)))),()))))))) then
        (some (S122.F (f,(m,(nx,((S121.F ((S119.F (((0:Int),(X,())),((if ((70:Int)<(Go.IntKind.wrap Go.IntKind.i64 (ex-ey))) then (70:Int) else (Go.IntKind.wrap Go.IntKind.i64 (ex-ey))),()))).1,(S120.F (((0:Int),(Y,())),((Go.IntKind.wrap Go.IntKind.i64 ((Go.IntKind.wrap Go.IntKind.i64 (ex-(if ((70:Int)<(Go.IntKind.wrap Go.IntKind.i64 (ex-ey))) then (70:Int) else (Go.IntKind.wrap Go.IntKind.i64 (ex-ey)))))-ey)),()))))).1,((Go.IntKind.wrap Go.IntKind.i64 (ex-(if ((70:Int)<(Go.IntKind.wrap Go.IntKind.i64 (ex-ey))) then (70:Int) else (Go.IntKind.wrap Go.IntKind.i64 (ex-ey))))),(((!(((S119.F ((S120.F (((0:Int),(Y,())),((Go.IntKind.wrap Go.IntKind.i64 ((Go.IntKind.wrap Go.IntKind.i64 (ex-(if ((70:Int)<(Go.IntKind.wrap Go.IntKind.i64 (ex-ey))) then (70:Int) else (Go.IntKind.wrap Go.IntKind.i64 (ex-ey)))))-ey)),()))).1,((Go.IntKind.wrap Go.IntKind.i64 ((Go.IntKind.wrap Go.IntKind.i64 (ex-(if ((70:Int)<(Go.IntKind.wrap Go.IntKind.i64 (ex-ey))) then (70:Int) else (Go.IntKind.wrap Go.IntKind.i64 (ex-ey)))))-ey)),()))).1.1==(0:Int))&&((S119.F ((S120.F (((0:Int),(Y,())),((Go.IntKind.wrap Go.IntKind.i64 ((Go.IntKind.wrap Go.IntKind.i64 (ex-(if ((70:Int)<(Go.IntKind.wrap Go.IntKind.i64 (ex-ey))) then (70:Int) else (Go.IntKind.wrap Go.IntKind.i64 (ex-ey)))))-ey)),()))).1,((Go.IntKind.wrap Go.IntKind.i64 ((Go.IntKind.wrap Go.IntKind.i64 (ex-(if ((70:Int)<(Go.IntKind.wrap Go.IntKind.i64 (ex-ey))) then (70:Int) else (Go.IntKind.wrap Go.IntKind.i64 (ex-ey)))))-ey)),()))).1.2.1==Y)))||((decide ((Go.IntKind.wrap Go.IntKind.i64 ((Go.IntKind.wrap Go.IntKind.i64 (ex-(if ((70:Int)<(Go.IntKind.wrap Go.IntKind.i64 (ex-ey))) then (70:Int) else (Go.IntKind.wrap Go.IntKind.i64 (ex-ey)))))-ey))>(63:Int)))&&(Y != (0:Int)))),()))))))))
       else none)
      else none)
     else bif (S123.pre ((S119.F (((0:Int),(X,())),((if ((70:Int)<(Go.IntKind.wrap Go.IntKind.i64 (ex-ey))) then (70:Int) else (Go.IntKind.wrap Go.IntKind.i64 (ex-ey))),()))).1,(S120.F (((0:Int),(Y,())),((Go.IntKind.wrap Go.IntKind.i64 ((Go.IntKind.wrap Go.IntKind.i64 (ex-(if ((70:Int)<(Go.IntKind.wrap Go.IntKind.i64 (ex-ey))) then (70:Int) else (Go.IntKind.wrap Go.IntKind.i64 (ex-ey)))))-ey)),()))))) then
      (bif (decide ((S123.F ((S119.F (((0:Int),(X,())),((if ((70:Int)<(Go.IntKind.wrap Go.IntKind.i64 (ex-ey))) then (70:Int) else (Go.IntKind.wrap Go.IntKind.i64 (ex-ey))),()))).1,(S120.F (((0:Int),(Y,())),((Go.IntKind.wrap Go.IntKind.i64 ((Go.IntKind.wrap Go.IntKind.i64 (ex-(if ((70:Int)<(Go.IntKind.wrap Go.IntKind.i64 (ex-ey))) then (70:Int) else (Go.IntKind.wrap Go.IntKind.i64 (ex-ey)))))-ey)),()))))).1<(0:Int))) then
       (bif (S124.pre ((S120.F (((0:Int),(Y,())),((Go.IntKind.wrap Go.IntKind.i64 ((Go.IntKind.wrap Go.IntKind.i64 (ex-(if ((70:Int)<(Go.IntKind.wrap Go.IntKind.i64 (ex-ey))) then (70:Int) else (Go.IntKind.wrap Go.IntKind.i64 (ex-ey)))))-ey)),()))).1,(S119.F (((0:Int),(X,())),((if ((70:Int)<(Go.IntKind.wrap Go.IntKind.i64 (ex-ey))) then (70:Int) else (Go.IntKind.wrap Go.IntKind.i64 (ex-ey))),()))))) then
        (bif ((!(((S119.F ((S120.F (((0:Int),(Y,())),((Go.IntKind.wrap Go.IntKind.i64 ((Go.IntKind.wrap Go.IntKind.i64 (ex-(if ((70:Int)<(Go.IntKind.wrap Go.IntKind.i64 (ex-ey))) then (70:Int) else (Go.IntKind.wrap Go.IntKind.i64 (ex-ey)))))-ey)),()))).1,((Go.IntKind.wrap Go.IntKind.i64 ((Go.IntKind.wrap Go.IntKind.i64 (ex-(if ((70:Int)<(Go.IntKind.wrap Go.IntKind.i64 (ex-ey))) then (70:Int) else (Go.IntKind.wrap Go.IntKind.i64 (ex-ey)))))-ey)),()))).1.1==(0:Int))&&((S119.F ((S120.F (((0:Int),(Y,())),((Go.IntKind.wrap Go.IntKind.i64 ((Go.IntKind.wrap Go.IntKind.i64 (ex-(if ((70:Int)<(Go.IntKind.wrap Go.IntKind.i64 (ex-ey))) then (70:Int) else (Go.IntKind.wrap Go.IntKind.i64 (ex-ey)))))-ey)),()))).1,((Go.IntKind.wrap Go.IntKind.i64 ((Go.IntKind.wrap Go.IntKind.i64 (ex-(if ((70:Int)<(Go.IntKind.wrap Go.IntKind.i64 (ex-ey))) then (70:Int) else (Go.IntKind.wrap Go.IntKind.i64 (ex-ey)))))-ey)),()))).1.2.1==Y)))||((decide ((Go.IntKind.wrap Go.IntKind.i64 ((Go.IntKind.wrap Go.IntKind.i64 (ex-(if ((70:Int)<(Go.IntKind.wrap Go.IntKind.i64 (ex-ey))) then (70:Int) else (Go.IntKind.wrap Go.IntKind.i64 (ex-ey)))))-ey))>(63:Int)))&&(Y != (0:Int)))) then
         (bif (S124.pre ((S124.F ((S120.F (((0:Int),(Y,())),((Go.IntKind.wrap Go.IntKind.i64 ((Go.IntKind.wrap Go.IntKind.i64 (ex-(if ((70:Int)<(Go.IntKind.wrap Go.IntKind.i64 (ex-ey))) then (70:Int) else (Go.IntKind.wrap Go.IntKind.i64 (ex-ey)))))-ey)),()))).1,(S119.F (((0:Int),(X,())),((if ((70:Int)<(Go.IntKind.wrap Go.IntKind.i64 (ex-ey))) then (70:Int) else (Go.IntKind.wrap Go.IntKind.i64 (ex-ey))),()))))).1,(((0:Int),((1:Int),())),()))) then
          (bif ((((S124.F ((S124.F ((S120.F (((0:Int),(Y,())),((Go.IntKind.wrap Go.IntKind.i64 ((Go.IntKind.wrap Go.IntKind.i64 (ex-(if ((70:Int)<(Go.IntKind.wrap Go.IntKind.i64 (ex-ey))) then (70:Int) else (Go.IntKind.wrap Go.IntKind.i64 (ex-ey)))))-ey)),()))).1,(S119.F (((0:Int),(X,())),((if ((70:Int)<(Go.IntKind.wrap Go.IntKind.i64 (ex-ey))) then (70:Int) else (Go.IntKind.wrap Go.IntKind.i64 (ex-ey))),()))))).1,(((0:Int),((1:Int),())),()))).1.1==(0:Int))&&((S124.F ((S124.F ((S120.F (((0:Int),(Y,())),((Go.IntKind.wrap Go.IntKind.i64 ((Go.IntKind.wrap Go.IntKind.i64 (ex-(if ((70:Int)<(Go.IntKind.wrap Go.IntKind.i64 (ex-ey))) then (70:Int) else (Go.IntKind.wrap Go.IntKind.i64 (ex-ey)))))-ey)),()))).1,(S119.F (((0:Int),(X,())),((if ((70:Int)<(Go.IntKind.wrap Go.IntKind.i64 (ex-ey))) then (70:Int) else (Go.IntKind.wrap Go.IntKind.i64 (ex-ey))),()))))).1,(((0:Int),((1:Int),())),()))).1.2.1==(0:Int)))&&(!((!(((S119.F ((S120.F (((0:Int),(Y,())),((Go.IntKind.wrap Go.IntKind.i64 ((Go.IntKind.wrap Go.IntKind.i64 (ex-(if ((70:Int)<(Go.IntKind.wrap Go.IntKind.i64 (ex-ey))) then (70:Int) else (Go.IntKind.wrap Go.IntKind.i64 (ex-ey)))))-ey)),()))).1,((Go.IntKind.wrap Go.IntKind.i64 ((Go.IntKind.wrap Go.IntKind.i64 (ex-(if ((70:Int)<(Go.IntKind.wrap Go.IntKind.i64 (ex-ey))) then (70:Int) else (Go.IntKind.wrap Go.IntKind.i64 (ex-ey)))))-ey)),()))).1.1==(0:Int))&&((S119.F ((S120.F (((0:Int),(Y,())),((Go.IntKind.wrap Go.IntKind.i64 ((Go.IntKind.wrap Go.IntKind.i64 (ex-(if ((70:Int)<(Go.IntKind.wrap Go.IntKind.i64 (ex-ey))) then (70:Int) else (Go.IntKind.wrap Go.IntKind.i64 (ex-ey)))))-ey)),()))).1,((Go.IntKind.wrap Go.IntKind.i64 ((Go.IntKind.wrap Go.IntKind.i64 (ex-(if ((70:Int)<(Go.IntKind.wrap Go.IntKind.i64 (ex-ey))) then (70:Int) else (Go.IntKind.wrap Go.IntKind.i64 (ex-ey)))))-ey)),()))).1.2.1==Y)))||((decide ((Go.IntKind.wrap Go.IntKind.i64 ((Go.IntKind.wrap Go.IntKind.i64 (ex-(if ((70:Int)<(Go.IntKind.wrap Go.IntKind.i64 (ex-ey))) then (70:Int) else (Go.IntKind.wrap Go.IntKind.i64 (ex-ey)))))-ey))>(63:Int)))&&(Y != (0:Int)))))) then
           (bif (S118.pre (f,((m==(4:Int)),()))) then
            (some ((S118.F (f,((m==(4:Int)),()))).1,((0:Int),((0:Int),()))))
           else none)
          else bif (S122.pre (f,(m,(ny,((S124.F ((S124.F ((S120.F (((0:Int),(Y,())),((Go.IntKind.wrap Go.IntKind.i64 ((Go.IntKind.wrap Go.IntKind.i64 (ex-(if ((70:Int)<(Go.IntKind.wrap Go.IntKind.i64 (ex-ey))) then (70:Int) else (Go.IntKind.wrap Go.IntKind.i64 (ex-ey)))))-ey)),()))).1,(S119.F (((0:Int),(X,())),((if ((70:Int)<(Go.IntKind.wrap Go.IntKind.i64 (ex-ey))) then (70:Int) else (Go.IntKind.wrap Go.IntKind.i64 (ex-ey))),()))))).1,(((0:Int),((1:Int),())),()))).1,((Go.IntKind.wrap Go.IntKind.i64 (ex-(if ((70:Int)<(Go.IntKind.wrap Go.IntKind.i64 (ex-ey))) then (70:Int) else (Go.IntKind.wrap Go.IntKind.i64 (ex-ey))))),(((!(((S119.F ((S120.F (((0:Int),(Y,())),((Go.IntKind.wrap Go.IntKind.i64 ((Go.IntKind.wrap Go.IntKind.i64 (ex-(if ((70:Int)<(Go.IntKind.wrap Go.IntKind.i64 (ex-ey))) then (70:Int) else (Go.IntKind.wrap Go.IntKind.i64 (ex-ey)))))-ey)),()))).1,((Go.IntKind.wrap Go.IntKind.i64 ((Go.IntKind.wrap Go.IntKind.i64 (ex-(if ((70:Int)<(Go.IntKind.wrap Go.IntKind.i64 (ex-ey))) then (70:Int) else (Go.IntKind.wrap Go.IntKind.i64 (ex-ey)))))-ey)),()))).1.1==(0:Int))&&((S119.F ((S120.F (((0:Int),(Y,())),((Go.IntKind.wrap Go.IntKind.i64 ((Go.IntKind.wrap Go.IntKind.i64 (ex-(if ((70:Int)<(Go.IntKind.wrap Go.IntKind.i64 (ex-ey))) then (70:Int) else (Go.IntKind.wrap Go.IntKind.i64 (ex-ey)))))-ey)),()))).1,((Go.IntKind.wrap Go.IntKind.i64 ((Go.IntKind.wrap Go.IntKind.i64 (ex-(if ((70:Int)<(Go.IntKind.wrap Go.IntKind.i64 (ex-ey))) then (70:Int) else (Go.IntKind.wrap Go.IntKind.i64 (ex-ey)))))-ey)),()))).1.2.1==Y)))||((decide ((Go.IntKind.wrap Go.IntKind.i64 ((Go.IntKind.wrap Go.IntKind.i64 (ex-(if ((70:Int)<(Go.IntKind.wrap Go.IntKind.i64 (ex-ey))) then (70:Int) else (Go.IntKind.wrap Go.IntKind.i64 (ex-ey)))))-ey))>(63:Int)))&&(Y != (0:Int)))),()))))))) then
           (some (S122.F (f,(m,(ny,((S124.F ((S124.F ((S120.F (((0:Int),(Y,())),((Go.IntKind.wrap Go.IntKind.i64 ((Go.IntKind.wrap Go.IntKind.i64 (ex-(if ((70:Int)<(Go.IntKind.wrap Go.IntKind.i64 (ex-ey))) then (70:Int) else (Go.IntKind.wrap Go.IntKind.i64 (ex-ey)))))-ey)),()))).1,(S119.F (((0:Int),(X,())),((if ((70:Int)<(Go.IntKind.wrap Go.IntKind.i64 (ex-ey))) then (70:Int) else (Go.IntKind.wrap Go.IntKind.i64 (ex-ey))),()))))).1,(((0:Int),((1:Int),())),()))).1,((Go.IntKind.wrap Go.IntKind.i64 (ex-(if ((70:Int)<(Go.IntKind.wrap Go.IntKind.i64 (ex-ey))) then (70:Int) else (Go.IntKind.wrap Go.IntKind.i64 (ex-ey))))),(((!(((S119.F ((S120.F (((0:Int),(Y,())),((Go.IntKind.wrap Go.IntKind.i64 ((Go.IntKind.wrap Go.IntKind.i64 (ex-(if ((70:Int)<(Go.IntKind.wrap Go.IntKind.i64 (ex-ey))) then (70:Int) else (Go.IntKind.wrap Go.IntKind.i64 (ex-ey)))))-ey)),()))).1,((Go.IntKind.wrap Go.IntKind.i64 ((Go.IntKind.wrap Go.IntKind.i64 (ex-(if ((70:Int)<(Go.IntKind.wrap Go.IntKind.i64 (ex-ey))) then (70:Int) else (Go.IntKind.wrap Go.IntKind.i64 (ex-ey)))))-ey)),()))).1.1==(0:Int))&&((S119.F ((S120.F (((0:Int),(Y,())),((Go.IntKind.wrap Go.IntKind.i64 ((Go.IntKind.wrap Go.IntKind.i64 (ex-(if ((70:Int)<(Go.IntKind.wrap Go.IntKind.i64 (ex-ey))) then (70:Int) else (Go.IntKind.wrap Go.IntKind.i64 (ex-ey)))))-ey)),()))).1,((Go.IntKind.wrap Go.IntKind.i64 ((Go.IntKind.wrap Go.IntKind.i64 (ex-(if ((70:Int)<(Go.IntKind.wrap Go.IntKind.i64 (ex-ey))) then (70:Int) else (Go.IntKind.wrap Go.IntKind.i64 (ex-ey)))))-ey)),()))).1.2.1==Y)))||((decide ((Go.IntKind.wrap Go.IntKind.i64 ((Go.IntKind.wrap Go.IntKind.i64 (ex-(if ((70:Int)<(Go.IntKind.wrap Go.IntKind.i64 (ex-ey))) then (70:Int) else (Go.IntKind.wrap Go.IntKind.i64 (ex-ey)))))-ey))>(63:Int)))&&(Y != (0:Int)))),()))))))))
          else none)
         else none)
        else bif ((((S124.F ((S120.F (((0:Int),(Y,())),((Go.IntKind.wrap Go.IntKind.i64 ((Go.IntKind.wrap Go.IntKind.i64 (ex-(if ((70:Int)<(Go.IntKind.wrap Go.IntKind.i64 (ex-ey))) then (70:Int) else (Go.IntKind.wrap Go.IntKind.i64 (ex-ey)))))-ey)),()))).1,(S119.F (((0:Int),(X,())),((if ((70:Int)<(Go.IntKind.wrap Go.IntKind.i64 (ex-ey))) then (70:Int) else (Go.IntKind.wrap Go.IntKind.i64 (ex-ey))),()))))).1.1==(0:Int))&&((S124.F ((S120.F (((0:Int),(Y,())),((Go.IntKind.wrap Go.IntKind.i64 ((Go.IntKind.wrap Go.IntKind.i64 (ex-(if ((70:Int)<(Go.IntKind.wrap Go.IntKind.i64 (ex-ey))) then (70:Int) else (Go.IntKind.wrap Go.IntKind.i64 (ex-ey)))))-ey)),()))).1,(S119.F (((0:Int),(X,())),((if ((70:Int)<(Go.IntKind.wrap Go.IntKind.i64 (ex-ey))) then (70:Int) else (Go.IntKind.wrap Go.IntKind.i64 (ex-ey))),()))))).1.2.1==(0:Int)))&&(!((!(((S119.F ((S120.F (((0:Int),(Y,())),((Go.IntKind.wrap Go.IntKind.i64 ((Go.IntKind.wrap Go.IntKind.i64 (ex-(if ((70:Int)<(Go.IntKind.wrap Go.IntKind.i64 (ex-ey))) then (70:Int) else (Go.IntKind.wrap Go.IntKind.i64 (ex-ey)))))-ey)),()))).1,((Go.IntKind.wrap Go.IntKind.i64 ((Go.IntKind.wrap Go.IntKind.i64 (ex-(if ((70:Int)<(Go.IntKind.wrap Go.IntKind.i64 (ex-ey))) then (70:Int) else (Go.IntKind.wrap Go.IntKind.i64 (ex-ey)))))-ey)),()))).1.1==(0:Int))&&((S119.F ((S120.F (((0:Int),(Y,())),((Go.IntKind.wrap Go.IntKind.i64 ((Go.IntKind.wrap Go.IntKind.i64 (ex-(if ((70:Int)<(Go.IntKind.wrap Go.IntKind.i64 (ex-ey))) then (70:Int) else (Go.IntKind.wrap Go.IntKind.i64 (ex-ey)))))-ey)),()))).1,((Go.IntKind.wrap Go.IntKind.i64 ((Go.IntKind.wrap Go.IntKind.i64 (ex-(if ((70:Int)<(Go.IntKind.wrap Go.IntKind.i64 (ex-ey))) then (70:Int) else (Go.IntKind.wrap Go.IntKind.i64 (ex-ey)))))-ey)),()))).1.2.1==Y)))||((decide ((Go.IntKind.wrap Go.IntKind.i64 ((Go.IntKind.wrap Go.IntKind.i64 (ex-(if ((70:Int)<(Go.IntKind.wrap Go.IntKind.i64 (ex-ey))) then (70:Int) else (Go.IntKind.wrap Go.IntKind.i64 (ex-ey)))))-ey))>(63:Int)))&&(Y != (0:Int)))))) then
         (bif (S118.pre (f,((m==(4:Int)),()))) then
          (some ((S118.F (f,((m==(4:Int)),()))).1,((0:Int),((0:Int),()))))
         else none)
        else bif (S122.pre (f,(m,(ny,((S124.F ((S120.F (((0:Int),(Y,())),((Go.IntKind.wrap Go.IntKind.i64 ((Go.IntKind.wrap Go.IntKind.i64 (ex-(if ((70:Int)<(Go.IntKind.wrap Go.IntKind.i64 (ex-ey))) then (70:Int) else (Go.IntKind.wrap Go.IntKind.i64 (ex-ey)))))-ey)),()))).1,(S119.F (((0:Int),(X,())),((if ((70:Int)<(Go.IntKind.wrap Go.IntKind.i64 (ex-ey))) then (70:Int) else (Go.IntKind.wrap Go.IntKind.i64 (ex-ey))),()))))).1,((Go.IntKind.wrap Go.IntKind.i64 (ex-(if ((70:Int)<(Go.IntKind.wrap Go.IntKind.i64 (ex-ey))) then (70:Int) else (Go.IntKind.wrap Go.IntKind.i64 (ex-ey))))),(((!(((S119.F ((S120.F (((0:Int),(Y,())),((Go.IntKind.wrap Go.IntKind.i64 ((Go.IntKind.wrap Go.IntKind.i64 (ex-(if ((70:Int)<(Go.IntKind.wrap Go.IntKind.i64 (ex-ey))) then (70:Int) else (Go.IntKind.wrap Go.IntKind.i64 (ex-ey)))))-ey)),()))).1,((Go.IntKind.wrap Go.IntKind.i64 ((Go.IntKind.wrap Go.IntKind.i64 (ex-(if ((70:Int)<(Go.IntKind.wrap Go.IntKind.i64 (ex-ey))) then (70:Int) else (Go.IntKind.wrap Go.IntKind.i64 (ex-ey)))))-ey)),()))).1.1==(0:Int))&&((S119.F ((S120.F (((0:Int),(Y,())),((Go.IntKind.wrap Go.IntKind.i64 ((Go.IntKind.wrap Go.IntKind.i64 (ex-(if ((70:Int)<(Go.IntKind.wrap Go.IntKind.i64 (ex-ey))) then (70:Int) else (Go.IntKind.wrap Go.IntKind.i64 (ex-ey)))))-ey)),()))).1,((Go.IntKind.wrap Go.IntKind.i64 ((Go.IntKind.wrap Go.IntKind.i64 (ex-(if ((70:Int)<(Go.IntKind.wrap Go.IntKind.i64 (ex-ey))) then (70:Int) else (Go.IntKind.wrap Go.IntKind.i64 (ex-ey)))))-ey)),()))).1.2.1==Y)))||((decide ((Go.IntKind.wrap Go.IntKind.i64 ((Go.IntKind.wrap Go.IntKind.i64 (ex-(if ((70:Int)<(Go.IntKind.wrap Go.IntKind.i64 (ex-ey))) then (70:Int) else (Go.IntKind.wrap Go.IntKind.i64 (ex-ey)))))-ey))>(63:Int)))&&(Y != (0:Int)))),()))))))) then
         (some (S122.F (f,(m,(ny,((S124.F ((S120.F (((0:Int),(Y,())),((Go.IntKind.wrap Go.IntKind.i64 ((Go.IntKind.wrap Go.IntKind.i64 (ex-(if ((70:Int)<(Go.IntKind.wrap Go.IntKind.i64 (ex-ey))) then (70:Int) else (Go.IntKind.wrap Go.IntKind.i64 (ex-ey)))))-ey)),()))).1,(S119.F (((0:Int),(X,())),((if ((70:Int)<(Go.IntKind.wrap Go.IntKind.i64 (ex-ey))) then (70:Int) else (Go.IntKind.wrap Go.IntKind.i64 (ex-ey))),()))))).1,((Go.IntKind.wrap Go.IntKind.i64 (ex-(if ((70:Int)<(Go.IntKind.wrap Go.IntKind.i64 (ex-ey))) then (70:Int) else (Go.IntKind.wrap Go.IntKind.i64 (ex-ey))))),(((!(((S119.F ((S120.F (((0:Int),(Y,())),((Go.IntKind.wrap Go.IntKind.i64 ((Go.IntKind.wrap Go.IntKind.i64 (ex-(if ((70:Int)<(Go.IntKind.wrap Go.IntKind.i64 (ex-ey))) then (70:Int) else (Go.IntKind.wrap Go.IntKind.i64 (ex-ey)))))-ey)),()))).1,((Go.IntKind.wrap Go.IntKind.i64 ((Go.IntKind.wrap Go.IntKind.i64 (ex-(if ((70:Int)<(Go.IntKind.wrap Go.IntKind.i64 (ex-ey))) then (70:Int) else (Go.IntKind.wrap Go.IntKind.i64 (ex-ey)))))-ey)),()))).1.1==(0:Int))&&((S119.F ((S120.F (((0:Int),(Y,())),((Go.IntKind.wrap Go.IntKind.i64 ((Go.IntKind.wrap Go.IntKind.i64 (ex-(if ((70:Int)<(Go.IntKind.wrap Go.IntKind.i64 (ex-ey))) then (70:Int) else (Go.IntKind.wrap Go.IntKind.i64 (ex-ey)))))-ey)),()))).1,((Go.IntKind.wrap Go.IntKind.i64 ((Go.IntKind.wrap Go.IntKind.i64 (ex-(if ((70:Int)<(Go.IntKind.wrap Go.IntKind.i64 (ex-ey))) then (70:Int) else (Go.IntKind.wrap Go.IntKind.i64 (ex-ey)))))-ey)),()))).1.2.1==Y)))||((decide ((Go.IntKind.wrap Go.IntKind.i64 ((Go.IntKind.wrap Go.IntKind.i64 (ex-(if ((70:Int)<(Go.IntKind.wrap Go.IntKind.i64 (ex-ey))) then (70:Int) else (Go.IntKind.wrap Go.IntKind.i64 (ex-ey)))))-ey))>(63:Int)))&&(Y != (0:Int)))),()))))))))
        else none)
       else none)
      else bif (S124.pre ((S119.F (((0:Int),(X,())),((if ((70:Int)<(Go.IntKind.wrap Go.IntKind.i64 (ex-ey))) then (70:Int) else (Go.IntKind.wrap Go.IntKind.i64 (ex-ey))),()))).1,(S120.F (((0:Int),(Y,())),((Go.IntKind.wrap Go.IntKind.i64 ((Go.IntKind.wrap Go.IntKind.i64 (ex-(if ((70:Int)<(Go.IntKind.wrap Go.IntKind.i64 (ex-ey))) then (70:Int) else (Go.IntKind.wrap Go.IntKind.i64 (ex-ey)))))-ey)),()))))) then
       (bif ((!(((S119.F ((S120.F (((0:Int),(Y,())),((Go.IntKind.wrap Go.IntKind.i64 ((Go.IntKind.wrap Go.IntKind.i64 (ex-(if ((70:Int)<(Go.IntKind.wrap Go.IntKind.i64 (ex-ey))) then (70:Int) else (Go.IntKind.wrap Go.IntKind.i64 (ex-ey)))))-ey)),()))).1,((Go.IntKind.wrap Go.IntKind.i64 ((Go.IntKind.wrap Go.IntKind.i64 (ex-(if ((70:Int)<(Go.IntKind.wrap Go.IntKind.i64 (ex-ey))) then (70:Int) else (Go.IntKind.wrap Go.IntKind.i64 (ex-ey)))))-ey)),()))).1.1==(0:Int))&&((S119.F ((S120.F (((0:Int),(Y,())),((Go.IntKind.wrap Go.IntKind.i64 ((Go.IntKind.wrap Go.IntKind.i64 (ex-(if ((70:Int)<(Go.IntKind.wrap Go.IntKind.i64 (ex-ey))) then (70:Int) else (Go.IntKind.wrap Go.IntKind.i64 (ex-ey)))))-ey)),()))).1,((Go.IntKind.wrap Go.IntKind.i64 ((Go.IntKind.wrap Go.IntKind.i64 (ex-(if ((70:Int)<(Go.IntKind.wrap Go.IntKind.i64 (ex-ey))) then (70:Int) else (Go.IntKind.wrap Go.IntKind.i64 (ex-ey)))))-ey)),()))).1.2.1==Y)))||((decide ((Go.IntKind.wrap Go.IntKind.i64 ((Go.IntKind.wrap Go.IntKind.i64 (ex-(if ((70:Int)<(Go.IntKind.wrap Go.IntKind.i64 (ex-ey))) then (70:Int) else (Go.IntKind.wrap Go.IntKind.i64 (ex-ey)))))-ey))>(63:Int)))&&(Y != (0:Int)))) then
        (bif (S124.pre ((S124.F ((S119.F (((0:Int),(X,())),((if ((70:Int)<(Go.IntKind.wrap Go.IntKind.i64 (ex-ey))) then (70:Int) else (Go.IntKind.wrap Go.IntKind.i64 (ex-ey))),()))).1,(S120.F (((0:Int),(Y,())),((Go.IntKind.wrap Go.IntKind.i64 ((Go.IntKind.wrap Go.IntKind.i64 (ex-(if ((70:Int)<(Go.IntKind.wrap Go.IntKind.i64 (ex-ey))) then (70:Int) else (Go.IntKind.wrap Go.IntKind.i64 (ex-ey)))))-ey)),()))))).1,(((0:Int),((1:Int),())),()))) then
         (bif ((((S124.F ((S124.F ((S119.F (((0:Int),(X,())),((if ((70:Int)<(Go.IntKind.wrap Go.IntKind.i64 (ex-ey))) then (70:Int) else (Go.IntKind.wrap Go.IntKind.i64 (ex-ey))),()))).1,(S120.F (((0:Int),(Y,())),((Go.IntKind.wrap Go.IntKind.i64 ((Go.IntKind.wrap Go.IntKind.i64 (ex-(if ((70:Int)<(Go.IntKind.wrap Go.IntKind.i64 (ex-ey))) then (70:Int) else (Go.IntKind.wrap Go.IntKind.i64 (ex-ey)))))-ey)),()))))).1,(((0:Int),((1:Int),())),()))).1.1==(0:Int))&&((S124.F ((S124.F ((S119.F (((0:Int),(X,())),((if ((70:Int)<(Go.IntKind.wrap Go.IntKind.i64 (ex-ey))) then (70:Int) else (Go.IntKind.wrap Go.IntKind.i64 (ex-ey))),()))).1,(S120.F (((0:Int),(Y,())),((Go.IntKind.wrap Go.IntKind.i64 ((Go.IntKind.wrap Go.IntKind.i64 (ex-(if ((70:Int)<(Go.IntKind.wrap Go.IntKind.i64 (ex-ey))) then (70:Int) else (Go.IntKind.wrap Go.IntKind.i64 (ex-ey)))))-ey)),()))))).1,(((0:Int),((1:Int),())),()))).1.2.1==(0:Int)))&&(!((!(((S119.F ((S120.F (((0:Int),(Y,())),((Go.IntKind.wrap Go.IntKind.i64 ((Go.IntKind.wrap Go.IntKind.i64 (ex-(if ((70:Int)<(Go.IntKind.wrap Go.IntKind.i64 (ex-ey))) then (70:Int) else (Go.IntKind.wrap Go.IntKind.i64 (ex-ey)))))-ey)),()))).1,((Go.IntKind.wrap Go.IntKind.i64 ((Go.IntKind.wrap Go.IntKind.i64 (ex-(if ((70:Int)<(Go.IntKind.wrap Go.IntKind.i64 (ex-ey))) then (70:Int) else (Go.IntKind.wrap Go.IntKind.i64 (ex-ey)))))-ey)),()))).1.1==(0:Int))&&((S119.F ((S120.F (((0:Int),(Y,())),((Go.IntKind.wrap Go.IntKind.i64 ((Go.IntKind.wrap Go.IntKind.i64 (ex-(if ((70:Int)<(Go.IntKind.wrap Go.IntKind.i64 (ex-ey))) then (70:Int) else (Go.IntKind.wrap Go.IntKind.i64 (ex-ey)))))-ey)),()))).1,((Go.IntKind.wrap Go.IntKind.i64 ((Go.IntKind.wrap Go.IntKind.i64 (ex-(if ((70:Int)<(Go.IntKind.wrap Go.IntKind.i64 (ex-ey))) then (70:Int) else (Go.IntKind.wrap Go.IntKind.i64 (ex-ey)))))-ey)),()))).1.2.1==Y)))||((decide ((Go.IntKind.wrap Go.IntKind.i64 ((Go.IntKind.wrap Go.IntKind.i64 (ex-(if ((70:Int)<(Go.IntKind.wrap Go.IntKind.i64 (ex-ey))) then (70:Int) else (Go.IntKind.wrap Go.IntKind.i64 (ex-ey)))))-ey))>(63:Int)))&&(Y != (0:Int)))))) then
          (bif (S118.pre (f,((m==(4:Int)),()))) then
           (some ((S118.F (f,((m==(4:Int)),()))).1,((0:Int),((0:Int),()))))
          else none)
         else bif (S122.pre (f,(m,(nx,((S124.F ((S124.F ((S119.F (((0:Int),(X,())),((if ((70:Int)<(Go.IntKind.wrap Go.IntKind.i64 (ex-ey))) then (70:Int) else (Go.IntKind.wrap Go.IntKind.i64 (ex-ey))),()))).1,(S120.F (((0:Int),(Y,())),((Go.IntKind.wrap Go.IntKind.i64 ((Go.IntKind.wrap Go.IntKind.i64 (ex-(if ((70:Int)<(Go.IntKind.wrap Go.IntKind.i64 (ex-ey))) then (70:Int) else (Go.IntKind.wrap Go.IntKind.i64 (ex-ey)))))-ey)),()))))).1,(((0:Int),((1:Int),())),()))).1,((Go.IntKind.wrap Go.IntKind.i64 (ex-(if ((70:Int)<(Go.IntKind.wrap Go.IntKind.i64 (ex-ey))) then (70:Int) else (Go.IntKind.wrap Go.IntKind.i64 (ex-ey))))),(((!(((S119.F ((S120.F (((0:Int),(Y,())),((Go.IntKind.wrap Go.IntKind.i64 ((Go.IntKind.wrap Go.IntKind.i64 (ex-(if ((70:Int)<(Go.IntKind.wrap Go.IntKind.i64 (ex-ey))) then (70:Int) else (Go.IntKind.wrap Go.IntKind.i64 (ex-ey)))))-ey)),()))).1,((Go.IntKind.wrap Go.IntKind.i64 ((Go.IntKind.wrap Go.IntKind.i64 (ex-(if ((70:Int)<(Go.IntKind.wrap Go.IntKind.i64 (ex-ey))) then (70:Int) else (Go.IntKind.wrap Go.IntKind.i64 (ex-ey)))))-ey)),()))).1.1==(0:Int))&&((S119.F ((S120.F (((0:Int),(Y,())),((Go.IntKind.wrap Go.IntKind.i64 ((Go.IntKind.wrap Go.IntKind.i64 (ex-(if ((70:Int)<(Go.IntKind.wrap Go.IntKind.i64 (ex-ey))) then (70:Int) else (Go.IntKind.wrap Go.IntKind.i64 (ex-ey)))))-ey)),()))).1,((Go.IntKind.wrap Go.IntKind.i64 ((Go.IntKind.wrap Go.IntKind.i64 (ex-(if ((70:Int)<(Go.IntKind.wrap Go.IntKind.i64 (ex-ey))) then (70:Int) else (Go.IntKind.wrap Go.IntKind.i64 (ex-ey)))))-ey)),()))).1.2.1==Y)))||((decide ((Go.IntKind.wrap Go.IntKind.i64 ((Go.IntKind.wrap Go.IntKind.i64 (ex-(if ((70:Int)<(Go.IntKind.wrap Go.IntKind.i64 (ex-ey))) then (70:Int) else (Go.IntKind.wrap Go.IntKind.i64 (ex-ey)))))-ey))>(63:Int)))&&(Y != (0:Int)))),()))))))) then
          (some (S122.F (f,(m,(nx,((S124.F ((S124.F ((S119.F (((0:Int),(X,())),((if ((70:Int)<(Go.IntKind.wrap Go.IntKind.i64 (ex-ey))) then (70:Int) else (Go.IntKind.wrap Go.IntKind.i64 (ex-ey))),()))).1,(S120.F (((0:Int),(Y,())),((Go.IntKind.wrap Go.IntKind.i64 ((Go.IntKind.wrap Go.IntKind.i64 (ex-(if ((70:Int)<(Go.IntKind.wrap Go.IntKind.i64 (ex-ey))) then (70:Int) else (Go.IntKind.wrap Go.IntKind.i64 (ex-ey)))))-ey)),()))))).1,(((0:Int),((1:Int),())),()))).1,((Go.IntKind.wrap Go.IntKind.i64 (ex-(if ((70:Int)<(Go.IntKind.wrap Go.IntKind.i64 (ex-ey))) then (70:Int) else (Go.IntKind.wrap Go.IntKind.i64 (ex-ey))))),(((!(((S119.F ((S120.F (((0:Int),(Y,())),((Go.IntKind.wrap Go.IntKind.i64 ((Go.IntKind.wrap Go.IntKind.i64 (ex-(if ((70:Int)<(Go.IntKind.wrap Go.IntKind.i64 (ex-ey))) then (70:Int) else (Go.IntKind.wrap Go.IntKind.i64 (ex-ey)))))-ey)),()))).1,((Go.IntKind.wrap Go.IntKind.i64 ((Go.IntKind.wrap Go.IntKind.i64 (ex-(if ((70:Int)<(Go.IntKind.wrap Go.IntKind.i64 (ex-ey))) then (70:Int) else (Go.IntKind.wrap Go.IntKind.i64 (ex-ey)))))-ey)),()))).1.1==(0:Int))&&((S119.F ((S120.F (((0:Int),(Y,())),((Go.IntKind.wrap Go.IntKind.i64 ((Go.IntKind.wrap Go.IntKind.i64 (ex-(if ((70:Int)<(Go.IntKind.wrap Go.IntKind.i64 (ex-ey))) then (70:Int) else (Go.IntKind.wrap Go.IntKind.i64 (ex-ey)))))-ey)),()))).1,((Go.IntKind.wrap Go.IntKind.i64 ((Go.IntKind.wrap Go.IntKind.i64 (ex-(if ((70:Int)<(Go.IntKind.wrap Go.IntKind.i64 (ex-ey))) then (70:Int) else (Go.IntKind.wrap Go.IntKind.i64 (ex-ey)))))-ey)),()))).1.2.1==Y)))||((decide ((Go.IntKind.wrap Go.IntKind.i64 ((Go.IntKind.wrap Go.IntKind.i64 (ex-(if ((70:Int)<(Go.IntKind.wrap Go.IntKind.i64 (ex-ey))) then (70:Int) else (Go.IntKind.wrap Go.IntKind.i64 (ex-ey)))))-ey))>(63:Int)))&&(Y != (0:Int)))),()))))))))
         else none)
        else none)
       else bif ((((S124.F ((S119.F (((0:Int),(X,())),((if ((70:Int)<(Go.IntKind.wrap Go.IntKind.i64 (ex-ey))) then (70:Int) else (Go.IntKind.wrap Go.IntKind.i64 (ex-ey))),()))).1,(S120.F (((0:Int),(Y,())),((Go.IntKind.wrap Go.IntKind.i64 ((Go.IntKind.wrap Go.IntKind.i64 (ex-(if ((70:Int)<(Go.IntKind.wrap Go.IntKind.i64 (ex-ey))) then (70:Int) else (Go.IntKind.wrap Go.IntKind.i64 (ex-ey)))))-ey)),()))))).1.1==(0:Int))&&((S124.F ((S119.F (((0:Int),(X,())),((if ((70:Int)<(Go.IntKind.wrap Go.IntKind.i64 (ex-ey))) then (70:Int) else (Go.IntKind.wrap Go.IntKind.i64 (ex-ey))),()))).1,(S120.F (((0:Int),(Y,())),((Go.IntKind.wrap Go.IntKind.i64 ((Go.IntKind.wrap Go.IntKind.i64 (ex-(if ((70:Int)<(Go.IntKind.wrap Go.IntKind.i64 (ex-ey))) then (70:Int) else (Go.IntKind.wrap Go.IntKind.i64 (ex-ey)))))-ey)),()))))).1.2.1==(0:Int)))&&(!((!(((S119.F ((S120.F (((0:Int),(Y,())),((Go.IntKind.wrap Go.IntKind.i64 ((Go.IntKind.wrap Go.IntKind.i64 (ex-(if ((70:Int)<(Go.IntKind.wrap Go.IntKind.i64 (ex-ey))) then (70:Int) else (Go.IntKind.wrap Go.IntKind.i64 (ex-ey)))))-ey)),()))).1,((Go.IntKind.wrap Go.IntKind.i64 ((Go.IntKind.wrap Go.IntKind.i64 (ex-(if ((70:Int)<(Go.IntKind.wrap Go.IntKind.i64 (ex-ey))) then (70:Int) else (Go.IntKind.wrap Go.IntKind.i64 (ex-ey)))))-ey)),()))).1.1==(0:Int))&&((S119.F ((S120.F (((0:Int),(Y,())),((Go.IntKind.wrap Go.IntKind.i64 ((Go.IntKind.wrap Go.IntKind.i64 (ex-(if ((70:Int)<(Go.IntKind.wrap Go.IntKind.i64 (ex-ey))) then (70:Int) else (Go.IntKind.wrap Go.IntKind.i64 (ex-ey)))))-ey)),()))).1,((Go.IntKind.wrap Go.IntKind.i64 ((Go.IntKind.wrap Go.IntKind.i64 (ex-(if ((70:Int)<(Go.IntKind.wrap Go.IntKind.i64 (ex-ey))) then (70:Int) else (Go.IntKind.wrap Go.IntKind.i64 (ex-ey)))))-ey)),()))).1.2.1==Y)))||((decide ((Go.IntKind.wrap Go.IntKind.i64 ((Go.IntKind.wrap Go.IntKind.i64 (ex-(if ((70:Int)<(Go.IntKind.wrap Go.IntKind.i64 (ex-ey))) then (70:Int) else (Go.IntKind.wrap Go.IntKind.i64 (ex-ey)))))-ey))>(63:Int)))&&(Y != (0:Int)))))) then
        (bif (S118.pre (f,((m==(4:Int)),()))) then
         (some ((S118.F (f,((m==(4:Int)),()))).1,((0:Int),((0:Int),()))))
        else none)
       else bif (S122.pre (f,(m,(nx,((S124.F ((S119.F (((0:Int),(X,())),((if ((70:Int)<(Go.IntKind.wrap Go.IntKind.i64 (ex-ey))) then (70:Int) else (Go.IntKind.wrap Go.IntKind.i64 (ex-ey))),()))).1,(S120.F (((0:Int),(Y,())),((Go.IntKind.wrap Go.IntKind.i64 ((Go.IntKind.wrap Go.IntKind.i64 (ex-(if ((70:Int)<(Go.IntKind.wrap Go.IntKind.i64 (ex-ey))) then (70:Int) else (Go.IntKind.wrap Go.IntKind.i64 (ex-ey)))))-ey)),()))))).1,((Go.IntKind.wrap Go.IntKind.i64 (ex-(if ((70:Int)<(Go.IntKind.wrap Go.IntKind.i64 (ex-ey))) then (70:Int) else (Go.IntKind.wrap Go.IntKind.i64 (ex-ey))))),(((!(((S119.F ((S120.F (((0:Int),(Y,())),((Go.IntKind.wrap Go.IntKind.i64 ((Go.IntKind.wrap Go.IntKind.i64 (ex-(if ((70:Int)<(Go.IntKind.wrap Go.IntKind.i64 (ex-ey))) then (70:Int) else (Go.IntKind.wrap Go.IntKind.i64 (ex-ey)))))-ey)),()))).1,((Go.IntKind.wrap Go.IntKind.i64 ((Go.IntKind.wrap Go.IntKind.i64 (ex-(if ((70:Int)<(Go.IntKind.wrap Go.IntKind.i64 (ex-ey))) then (70:Int) else (Go.IntKind.wrap Go.IntKind.i64 (ex-ey)))))-ey)),()))).1.1==(0:Int))&&((S119.F ((S120.F (((0:Int),(Y,())),((Go.IntKind.wrap Go.IntKind.i64 ((Go.IntKind.wrap Go.IntKind.i64 (ex-(if ((70:Int)<(Go.IntKind.wrap Go.IntKind.i64 (ex-ey))) then (70:Int) else (Go.IntKind.wrap Go.IntKind.i64 (ex-ey)))))-ey)),()))).1,((Go.IntKind.wrap Go.IntKind.i64 ((Go.IntKind.wrap Go.IntKind.i64 (ex-(if ((70:Int)<(Go.IntKind.wrap Go.IntKind.i64 (ex-ey))) then (70:Int) else (Go.IntKind.wrap Go.IntKind.i64 (ex-ey)))))-ey)),()))).1.2.1==Y)))||((decide ((Go.IntKind.wrap Go.IntKind.i64 ((Go.IntKind.wrap Go.IntKind.i64 (ex-(if ((70:Int)<(Go.IntKind.wrap Go.IntKind.i64 (ex-ey))) then (70:Int) else (Go.IntKind.wrap Go.IntKind.i64 (ex-ey)))))-ey))>(63:Int)))&&(Y != (0:Int)))),()))))))) then
        (some (S122.F (f,(m,(nx,((S124.F ((S119.F (((0:Int),(X,())),((if ((70:Int)<(Go.IntKind.wrap Go.IntKind.i64 (ex-ey))) then (70:Int) else (Go.IntKind.wrap Go.IntKind.i64 (ex-ey))),()))).1,(S120.F (((0:Int),(Y,())),((Go.IntKind.wrap Go.IntKind.i64 ((Go.IntKind.wrap Go.IntKind.i64 (ex-(if ((70:Int)<(Go.IntKind.wrap Go.IntKind.i64 (ex-ey))) then (70:Int) else (Go.IntKind.wrap Go.IntKind.i64 (ex-ey)))))-ey)),()))))).1,((Go.IntKind.wrap Go.IntKind.i64 (ex-(if ((70:Int)<(Go.IntKind.wrap Go.IntKind.i64 (ex-ey))) then (70:Int) else (Go.IntKind.wrap Go.IntKind.i64 (ex-ey))))),(((!(((S119.F ((S120.F (((0:Int),(Y,())),((Go.IntKind.wrap Go.IntKind.i64 ((Go.IntKind.wrap Go.IntKind.i64 (ex-(if ((70:Int)<(Go.IntKind.wrap Go.IntKind.i64 (ex-ey))) then (70:Int) else (Go.IntKind.wrap Go.IntKind.i64 (ex-ey)))))-ey)),()))).1,((Go.IntKind.wrap Go.IntKind.i64 ((Go.IntKind.wrap Go.IntKind.i64 (ex-(if ((70:Int)<(Go.IntKind.wrap Go.IntKind.i64 (ex-ey))) then (70:Int) else (Go.IntKind.wrap Go.IntKind.i64 (ex-ey)))))-ey)),()))).1.1==(0:Int))&&((S119.F ((S120.F (((0:Int),(Y,())),((Go.IntKind.wrap Go.IntKind.i64 ((Go.IntKind.wrap Go.IntKind.i64 (ex-(if ((70:Int)<(Go.IntKind.wrap Go.IntKind.i64 (ex-ey))) then (70:Int) else (Go.IntKind.wrap Go.IntKind.i64 (ex-ey)))))-ey)),()))).1,((Go.IntKind.wrap Go.IntKind.i64 ((Go.IntKind.wrap Go.IntKind.i64 (ex-(if ((70:Int)<(Go.IntKind.wrap Go.IntKind.i64 (ex-ey))) then (70:Int) else (Go.IntKind.wrap Go.IntKind.i64 (ex-ey)))))-ey)),()))).1.2.1==Y)))||((decide ((Go.IntKind.wrap Go.IntKind.i64 ((Go.IntKind.wrap Go.IntKind.i64 (ex-(if ((70:Int)<(Go.IntKind.wrap Go.IntKind.i64 (ex-ey))) then (70:Int) else (Go.IntKind.wrap Go.IntKind.i64 (ex-ey)))))-ey))>(63:Int)))&&(Y != (0:Int)))),()))))))))
       else none)
      else none)
     else none)
    else none)
   else none)
  else none)
 else none
theorem t71_tail (f m:Int) (nx:Bool) (X ex:Int) (ny:Bool) (Y ey:Int):T71 (f,m,(nx,X,ex,()),(ny,Y,ey,()),()) =
 (bif ((X==0)&&(Y==0))&&(nx==ny) then (bif S118.pre (f,nx,()) then some ((S118.F (f,nx,())).1,0,0,()) else none)
 else bif (X==0)||((Y != 0)&&decide (ex<ey)) then (bif X==0 then tail71 f m ny Y ey nx X ey else tail71 f m ny Y ey nx X ex)
 else bif Y==0 then tail71 f m nx X ex ny Y ex else tail71 f m nx X ex ny Y ey):=by kernel_rfl
theorem Wi_pair {n:Nat} (h:n<2^64):((0:Int),((n:Int),()))=Wi n:=by
 unfold Wi
 rw [Nat.div_eq_of_lt h,Nat.mod_eq_of_lt h]; rfl
theorem Wi_one:((0:Int),((1:Int),()))=Wi 1:=rfl
theorem Wi_zero {n:Nat} (h:n<2^128):(((Wi n).1==0)&&((Wi n).2.1==0))=decide (n=0):=by
 show (((n/2^64:Nat):Int)==0&&((n%2^64:Nat):Int)==0)=_
 rw [nbeq0,nbeq0,Bool.eq_iff_iff,Bool.and_eq_true,beq_iff_eq,beq_iff_eq,decide_eq_true_eq]
 omega
theorem more_eq {Y dn:Nat} (hY:Y<2^64):((!(((Wi (Y/2^dn*2^dn)).1==0)&&((Wi (Y/2^dn*2^dn)).2.1==(Y:Int))))||(decide ((dn:Int)>63)&&((Y:Int) != 0)))=decide (Y%2^dn≠0):=by
 have hdm:=Nat.div_add_mod Y (2^dn)
 rw [Nat.mul_comm] at hdm
 generalize hL:Y/2^dn*2^dn=L at *
 show ((!(((L/2^64:Nat):Int)==0&&((L%2^64:Nat):Int)==(Y:Int)))||(decide ((dn:Int)>63)&&((Y:Int) != 0)))=_
 rw [nbeq0,nbeq,nbne0]
 by_cases h:Y%2^dn=0
 ·rw [decide_eq_false (p:=Y%2^dn≠0) (by omega)]
  rw [show (L/2^64==0)=true by rw [beq_iff_eq]; omega,show (L%2^64==Y)=true by rw [beq_iff_eq]; omega]
  by_cases hy:Y=0
  ·rw [hy]; simp
  ·have:¬ (dn:Int)>63:=fun hd=>by
    have h1:Y<2^dn:=Nat.lt_of_lt_of_le hY (Nat.pow_le_pow_right (by decide) (by omega))
    rw [Nat.mod_eq_of_lt h1] at h
    exact hy h
   rw [decide_eq_false this]; rfl
 ·rw [decide_eq_true (p:=Y%2^dn≠0) h]
  rw [show (L%2^64==Y)=false by rw [beq_eq_false_iff_ne]; omega]
  simp
theorem blen_ge {n k:Nat} (h:2^k≤n):k+1≤blen n:=by
 have h1:=blen_lt n
 have:k<blen n:=(Nat.pow_lt_pow_iff_right (a:=2) (by decide)).1 (Nat.lt_of_le_of_lt h h1)
 omega
def sumBits (f m:Int) (nx:Bool) (X:Nat) (ex:Int) (ny:Bool) (Y:Nat) (ey:Int):Nat×Nat :=
 let e:=if ex≤ey then ex else ey
 let a:=X*2^(ex-e).toNat
 let b:=Y*2^(ey-e).toNat
 if nx=ny then (if a+b=0 then (sgnF f nx,0) else rndN f m nx (a+b) e false)
 else if a=b then (sgnF f (m==4),0) else if b<a then rndN f m nx (a-b) e false else rndN f m ny (b-a) e false
theorem sum_at {f m:Int} {nx:Bool} {X:Nat} {ey:Int} {ny:Bool} {Y:Nat} (D:Nat) :
  sumBits f m nx X (ey+D) ny Y ey=if nx=ny then (if X*2^D+Y=0 then (sgnF f nx,0) else rndN f m nx (X*2^D+Y) ey false)
   else if X*2^D=Y then (sgnF f (m==4),0) else if Y<X*2^D then rndN f m nx (X*2^D-Y) ey false else rndN f m ny (Y-X*2^D) ey false:=by
 unfold sumBits
 have he:(if ey+(D:Int)≤ey then ey+(D:Int) else ey)=ey:=by split <;> omega
 simp only [he]
 rw [show (ey+(D:Int)-ey).toNat=D by omega,show (ey-ey).toNat=0 by omega,Nat.pow_zero,Nat.mul_one]
theorem sum_comm (f m:Int) (nx:Bool) (X:Nat) (ex:Int) (ny:Bool) (Y:Nat) (ey:Int):sumBits f m nx X ex ny Y ey=sumBits f m ny Y ey nx X ex:=by
 unfold sumBits
 have he:(if ex≤ey then ex else ey)=(if ey≤ex then ey else ex):=by split <;> split <;> omega
 simp only [he]
 generalize (if ey≤ex then ey else ex)=e
 generalize X*2^(ex-e).toNat=a
 generalize Y*2^(ey-e).toNat=b
 by_cases hn:nx=ny
 ·subst hn
  rw [if_pos rfl,if_pos rfl,Nat.add_comm]
 ·rw [if_neg hn,if_neg (Ne.symm hn)]
  rcases Nat.lt_trichotomy a b with h | h | h
  ·rw [if_neg (by omega),if_neg (by omega),if_neg (by omega),if_pos h]
  ·rw [if_pos h,if_pos h.symm]
  ·rw [if_neg (by omega),if_pos h,if_neg (by omega),if_neg (by omega)]
theorem sum_zero {f m:Int} (hf:Fm f) (nx:Bool) (X:Nat) (ex:Int) (ny:Bool) (ey:Int):sumBits f m nx X ex ny 0 ey=if X=0 then (if nx=ny then (sgnF f nx,0) else (sgnF f (m==4),0)) else rndN f m nx X ex false:=by
 rcases Int.le_total ex ey with h | h
 ·obtain ⟨D,hD⟩:=Int.eq_ofNat_of_zero_le (show 0≤ey-ex by omega)
  have:ey=ex+D:=by omega
  subst this
  rw [sum_comm,sum_at,Nat.zero_mul,Nat.zero_add]
  by_cases hn:nx=ny
  ·subst hn
   simp only [↓reduceIte]
  ·rw [if_neg (Ne.symm hn),if_neg hn]
   by_cases hx:X=0
   ·subst hx
    simp only [↓reduceIte]
   ·rw [if_neg (by omega),if_neg (by omega),if_neg hx,Nat.sub_zero]
 ·obtain ⟨D,hD⟩:=Int.eq_ofNat_of_zero_le (show 0≤ex-ey by omega)
  have:ex=ey+D:=by omega
  subst this
  rw [sum_at,Nat.add_zero]
  by_cases hx:X=0
  ·subst hx
   rw [if_pos rfl,Nat.zero_mul,if_pos rfl,if_pos rfl]
  ·have hp:=Nat.two_pow_pos D
   have hpos:0<X*2^D:=Nat.mul_pos (by omega) hp
   rw [if_neg hx]
   by_cases hn:nx=ny
   ·rw [if_pos hn,if_neg (by omega),rnd_scale hf hx]
   ·rw [if_neg hn,if_neg (by omega),if_pos hpos,Nat.sub_zero,rnd_scale hf hx]
theorem tail_eq {f m:Int} (hf:Fm f) (hm:0≤m∧m≤5) (nx:Bool) (X D:Nat) (ny:Bool) (Y:Nat) (ey:Int) (hX:X<2^53) (hY:Y<2^53) (he:-2000≤ey∧ey+D≤2000) (h0:X≠0∨(Y=0∧nx≠ny)) :
  tail71 f m nx X (ey+D) ny Y ey=some (((sumBits f m nx X (ey+D) ny Y ey).1:Int),((sumBits f m nx X (ey+D) ny Y ey).2:Int),0,()):=by
 rw [sum_at]
 have hW:=fW_le hf
 have hP:=fP_lt hf
 have hU:∃ U dn:Nat,(if (70:Int)<(D:Int) then (70:Int) else (D:Int))=(U:Int)∧D=U+dn∧U≤70∧(dn≠0→U=70):=by
  by_cases h:70<D
  ·exact ⟨70,D-70,by rw [if_pos (by omega)]; rfl,by omega,by omega,fun _=>rfl⟩
  ·exact ⟨D,0,by rw [if_neg (by omega)],by omega,by omega,fun h=>absurd rfl h⟩
 obtain ⟨U,dn,hU1,hU2,hU3,hU4⟩:=hU
 have e1:IntKind.wrap .i64 (ey+(D:Int)-ey)=(D:Int):=by rw [wrapI (by omega)]; omega
 have e2:IntKind.wrap .i64 (ey+(D:Int)-(U:Int))=ey+(dn:Int):=by rw [wrapI (by omega)]; omega
 have e3:IntKind.wrap .i64 (ey+(dn:Int)-ey)=(dn:Int):=by rw [wrapI (by omega)]; omega
 have hpU:=Nat.two_pow_pos U
 have hpd:=Nat.two_pow_pos dn
 have hU70:2^U≤2^70:=Nat.pow_le_pow_right (by decide) hU3
 have hH:X*2^U<2^123:=by
  have h1:X*2^U≤X*2^70:=Nat.mul_le_mul_left _ hU70
  have h2:X*2^70<2^53*2^70:=Nat.mul_lt_mul_of_pos_right hX (by decide)
  omega
 have hXD:X*2^D=X*2^U*2^dn:=by rw [hU2,Nat.pow_add,Nat.mul_assoc]
 have hbig:Y%2^dn≠0→2^70≤X*2^U∧X≠0:=fun h=>by
  have hd:dn≠0:=fun h1=>by rw [h1,Nat.pow_zero,Nat.mod_one] at h; exact h rfl
  have hy:Y≠0:=fun h1=>by rw [h1,Nat.zero_mod] at h; exact h rfl
  have hx:X≠0:=by
   rcases h0 with h | h
   ·exact h
   ·exact absurd h.1 hy
  refine ⟨?_,hx⟩
  rw [hU4 hd]
  exact Nat.le_mul_of_pos_left _ (by omega)
 have hYL:Y/2^dn≤Y:=Nat.div_le_self _ _
 have hLd:Y/2^dn*2^dn≤Y:=Nat.div_mul_le_self _ _
 have p1:T119 (((0:Int),((X:Int),())),((U:Int),()))=some (Wi (X*2^U),()):=by
  rw [Wi_pair (by omega),T119_eq _ _ (by omega),Nat.mod_eq_of_lt (by omega)]
 have p2:T120 (((0:Int),((Y:Int),())),((dn:Int),()))=some (Wi (Y/2^dn),()):=by
  rw [Wi_pair (by omega),T120_eq _ _ (by omega)]
 have p3:T119 (Wi (Y/2^dn),((dn:Int),()))=some (Wi (Y/2^dn*2^dn),()):=by
  rw [T119_eq _ _ (by omega),Nat.mod_eq_of_lt (by omega)]
 have p4:=T121_eq (X*2^U) (Y/2^dn) (by omega)
 have p5:=T123_eq (X*2^U) (Y/2^dn)
 have pz:=T118_ok hf (m==4)
 unfold tail71
 simp only [e1,hU1,e2,e3,pre119 p1,fun119 p1,pre120 p2,fun120 p2,pre119 p3,fun119 p3,cond_true,pre121 p4,fun121 p4,pre123 p5,fun123 p5,more_eq (show Y<2^64 by omega)]
 have hdm:=Nat.div_add_mod Y (2^dn)
 have hml:=Nat.mod_lt Y hpd
 have hX0H:X=0→X*2^U=0:=fun h=>by rw [h,Nat.zero_mul]
 have hXb:X≠0→dn≠0→2^70≤X*2^U:=fun h1 h2=>by rw [hU4 h2]; exact Nat.le_mul_of_pos_left _ (by omega)
 have hHp:X≠0→0<X*2^U:=fun h=>Nat.mul_pos (by omega) hpU
 clear e1 e2 e3 p1 p2 p3
 rw [Nat.mul_comm] at hdm
 generalize hHe:X*2^U=H at *
 generalize hLe:Y/2^dn=L at *
 generalize hRe:Y%2^dn=R at *
 by_cases hn:nx=ny
 ·subst hn
  rw [if_pos rfl,show (nx==nx)=true by cases nx <;> rfl,cond_true]
  have hX0:X≠0:=by
   rcases h0 with h | h
   ·exact h
   ·exact absurd rfl h.2
  have hHp:=hHp hX0
  have hN:X*2^D+Y=Y+H*2^dn:=by rw [hXD,Nat.add_comm]
  have hNd:(X*2^D+Y)/2^dn=H+L:=by rw [hN,Nat.add_mul_div_right _ _ hpd,hLe,Nat.add_comm]
  have hNm:(X*2^D+Y)%2^dn=R:=by rw [hN,Nat.add_mul_mod_self_right,hRe]
  have hbl:R≠0→fP f+2≤blen (H+L):=fun h=>by
   have h1:=(hbig h).1
   have:=blen_ge (n:=H+L) (k:=70) (by omega)
   omega
  have p6:=T122_eq hf hm nx (H+L) (by omega) (ey+(dn:Int)) (by omega) (decide (R≠0)) (fun h=>hbl (by simpa using h))
  rw [if_neg (by omega)] at p6
  simp only [pre122 p6,fun122 p6,cond_true]
  have htr:=rnd_trunc (f:=f) (m:=m) (neg:=nx) (N:=X*2^D+Y) (k:=dn) (E:=ey) hf (by rw [hNd]; omega) (by rw [hNd,hNm]; exact hbl)
  rw [hNd,hNm] at htr
  have hpp:0<H*2^dn:=Nat.mul_pos hHp hpd
  rw [htr,if_neg (by rw [hXD]; omega)]
 ·rw [if_neg hn,show (nx==ny)=false by cases nx <;> cases ny <;> first | rfl | exact absurd rfl hn,cond_false]
  by_cases hlt:H<L
  ·-- low is the greater: nothing is lost
   have hm0:R=0:=by
    by_cases h:R=0
    ·exact h
    ·have:=(hbig h).1; omega
   have hdn:dn=0:=by
    by_cases h:dn=0
    ·exact h
    ·exfalso
     rcases h0 with h1 | h1
     ·have h2:=hXb h1 h
      omega
     ·have:=h1.1; omega
   subst hdn
   have hY1:Y=L:=by rw [← hLe]; simp
   subst hY1
   have hXD1:X*2^D=H:=by rw [hXD]; simp
   rw [hm0,hXD1]
   have p7:=T124_eq Y H (by omega) (by omega)
   have p6:=T122_eq hf hm ny (Y-H) (by omega) (ey+((0:Nat):Int)) (by omega) false (fun h=>by cases h)
   rw [if_neg (by omega)] at p6
   have z1:decide ((if H=Y then (0:Int) else if H<Y then -1 else 1)<0)=true:=by
    rw [if_neg (by omega),if_pos hlt]; rfl
   have z2:decide ((0:Nat)≠0)=false:=by decide
   have z3:=Wi_zero (n:=Y-H) (by omega)
   rw [decide_eq_false (p:=Y-H=0) (by omega)] at z3
   simp only [z1,z2,cond_true,cond_false,pre124 p7,fun124 p7,z3,Bool.false_and,pre122 p6,fun122 p6]
   rw [if_neg (by omega),if_neg (by omega),Int.natCast_zero,Int.add_zero]
  ·have hge:L≤H:=by omega
   have p7:=T124_eq H L (by omega) hge
   have z1:decide ((if H=L then (0:Int) else if H<L then -1 else 1)<0)=false:=by
    by_cases h:H=L
    ·rw [if_pos h]; rfl
    ·rw [if_neg h,if_neg hlt]; rfl
   simp only [z1,cond_false,pre124 p7,fun124 p7,cond_true]
   by_cases hm0:R=0
   ·rw [hm0,show decide ((0:Nat)≠0)=false by decide,cond_false]
    have hYe:Y=L*2^dn:=by omega
    have z3:=Wi_zero (n:=H-L) (by omega)
    rw [z3]
    by_cases hz:H-L=0
    ·have heq:X*2^D=Y:=by rw [hXD,hYe,show H=L by omega]
     rw [decide_eq_true hz,if_pos heq]
     simp only [Bool.not_false,Bool.and_self,cond_true,pre118 pz,fun118 pz]
     rfl
    ·rw [decide_eq_false hz]
     have p6:=T122_eq hf hm nx (H-L) (by omega) (ey+(dn:Int)) (by omega) false (fun h=>by cases h)
     rw [if_neg hz] at p6
     simp only [Bool.false_and,cond_false,pre122 p6,fun122 p6,cond_true]
     have hN:X*2^D-Y=(H-L)*2^dn:=by rw [hXD,Nat.sub_mul,← hYe]
     have hpp:0<(H-L)*2^dn:=Nat.mul_pos (by omega) hpd
     have hlt2:Y<X*2^D:=by omega
     rw [if_neg (by omega),if_pos hlt2,hN,rnd_scale hf hz]
   ·rw [decide_eq_true (p:=R≠0) hm0,cond_true]
    obtain ⟨hb1,hX0⟩:=hbig hm0
    have p8:=T124_eq (H-L) 1 (by omega) (by omega)
    rw [← Wi_one] at p8
    have hbl:fP f+2≤blen (H-L-1):=by
     have:=blen_ge (n:=H-L-1) (k:=69) (by omega)
     omega
    have p6:=T122_eq hf hm nx (H-L-1) (by omega) (ey+(dn:Int)) (by omega) true (fun _=>hbl)
    rw [if_neg (by omega)] at p6
    simp only [pre124 p8,fun124 p8,cond_true,Bool.not_true,Bool.and_false,cond_false,pre122 p6,fun122 p6]
    have h2:(L+1+(H-L-1))*2^dn=H*2^dn:=by rw [show L+1+(H-L-1)=H by omega]
    rw [Nat.add_mul,Nat.add_mul,Nat.one_mul] at h2
    have hN:X*2^D-Y=(2^dn-R)+(H-L-1)*2^dn:=by rw [hXD]; omega
    have hlt2:Y<X*2^D:=by omega
    have hNd:(X*2^D-Y)/2^dn=H-L-1:=by
     rw [hN,Nat.add_mul_div_right _ _ hpd,Nat.div_eq_of_lt (by omega),Nat.zero_add]
    have hNm:(X*2^D-Y)%2^dn=2^dn-R:=by
     rw [hN,Nat.add_mul_mod_self_right,Nat.mod_eq_of_lt (by omega)]
    have htr:=rnd_trunc (f:=f) (m:=m) (neg:=nx) (N:=X*2^D-Y) (k:=dn) (E:=ey) hf (by rw [hNd]; omega) (fun _=>by rw [hNd]; exact hbl)
    rw [hNd,hNm,decide_eq_true (p:=2^dn-R≠0) (by omega)] at htr
    rw [htr,if_neg (by omega),if_pos hlt2]
theorem T71_eq {f m:Int} (hf:Fm f) (hm:0≤m∧m≤5) (nx:Bool) (X:Nat) (ex:Int) (ny:Bool) (Y:Nat) (ey:Int) (hX:X<2^53) (hY:Y<2^53) (hex:-2000≤ex∧ex≤2000) (hey:-2000≤ey∧ey≤2000) :
  T71 (f,m,(nx,(X:Int),ex,()),(ny,(Y:Int),ey,()),())=some (((sumBits f m nx X ex ny Y ey).1:Int),((sumBits f m nx X ex ny Y ey).2:Int),0,()):=by
 rw [t71_tail]
 by_cases hX0:X=0
 ·subst hX0
  by_cases hYn:Y=0∧nx=ny
  ·obtain ⟨rfl,rfl⟩:=hYn
   have p0:=T118_ok hf nx
   rw [show ((((0:Nat):Int)==0)&&(((0:Nat):Int)==0)&&(nx==nx))=true by cases nx <;> rfl,cond_true]
   simp only [pre118 p0,fun118 p0,cond_true]
   rw [sum_zero hf,if_pos rfl,if_pos rfl]
   rfl
  ·have hg:((((0:Nat):Int)==0)&&(((Y:Nat):Int)==0)&&(nx==ny))=false:=by
    by_cases hy:Y=0
    ·have:nx≠ny:=fun h=>hYn ⟨hy,h⟩
     subst hy
     cases nx <;> cases ny <;> first | rfl | exact absurd rfl this
    ·rw [beq0_f Y hy,Bool.and_false,Bool.false_and]
   have h1:(((0:Nat):Int)==0)=true:=rfl
   rw [hg,cond_false,h1,Bool.true_or,cond_true,cond_true]
   have ht:=tail_eq hf hm ny Y 0 nx 0 ey hY hX (by omega) (by
    by_cases hy:Y=0
    ·exact .inr ⟨rfl,fun h=>hYn ⟨hy,h.symm⟩⟩
    ·exact .inl hy)
   rw [Int.natCast_zero,Int.add_zero] at ht
   rw [Int.natCast_zero,ht,sum_comm f m nx 0 ex,sum_zero hf,sum_zero hf]
 ·have hx0:((X:Int)==0)=false:=beq0_f _ hX0
  rw [hx0,Bool.false_and,Bool.false_and,cond_false,Bool.false_or,cond_false]
  by_cases hY0:Y=0
  ·subst hY0
   have ht:=tail_eq hf hm nx X 0 ny 0 ex hX hY (by omega) (.inl hX0)
   rw [Int.natCast_zero,Int.add_zero] at ht
   rw [show (((0:Nat):Int) != 0)=false by rfl,Bool.false_and,cond_false,show (((0:Nat):Int)==0)=true by rfl,cond_true,Int.natCast_zero,ht,sum_zero hf,sum_zero hf]
  ·rw [bne0_t _ hY0,Bool.true_and,beq0_f _ hY0,cond_false]
   by_cases hlt:ex<ey
   ·rw [decide_eq_true hlt,cond_true]
    obtain ⟨D,hD⟩:=Int.eq_ofNat_of_zero_le (show 0≤ey-ex by omega)
    have hee:ey=ex+D:=by omega
    subst hee
    rw [tail_eq hf hm ny Y D nx X ex hY hX (by omega) (.inl hY0),sum_comm f m ny Y]
   ·rw [decide_eq_false hlt,cond_false]
    obtain ⟨D,hD⟩:=Int.eq_ofNat_of_zero_le (show 0≤ex-ey by omega)
    have hee:ex=ey+D:=by omega
    subst hee
    rw [tail_eq hf hm nx X D ny Y ey hX hY (by omega) (.inl hX0)]
end VL
namespace VL
open Go Vx
def Hs (l:List Nat):Prop:=(∀ x∈l,x<2^32)∧l.length≤1000000
theorem Hs.dg {n:Nat} (h:n<2^100000):Hs (dg (2^32) n):=by
 refine ⟨dg_lt (by decide) n,?_⟩
 have:n<(2^32)^3125:=by rw [← Nat.pow_mul]; exact h
 have:=dg_len_le (B:=2^32) (by decide) 3125 n this
 omega
theorem wu_id (n:Nat) (h:n<2^64):IntKind.wrap .u64 (n:Int)=(n:Int):=wrapU (by omega)
theorem wu_mul (a b:Nat) (h:a*b<2^64):IntKind.wrap .u64 ((a:Int)*(b:Int))=((a*b:Nat):Int):=by
 rw [← Int.natCast_mul,wu_id _ h]
theorem wu_add (a b:Nat) (h:a+b<2^64):IntKind.wrap .u64 ((a:Int)+(b:Int))=((a+b:Nat):Int):=by
 rw [← Int.natCast_add,wu_id _ h]
theorem app_lt {B:Nat} {l:List Nat} {v:Nat} (h:∀ x∈l,x<B) (hv:v<B):∀ x∈l++[v],x<B:=fun x hx=>by
 rcases List.mem_append.1 hx with hx | hx
 ·exact h x hx
 ·have:x=v:=by simpa using hx
  rw [this]; exact hv
theorem nv_snoc (B:Nat) (l:List Nat) (v:Nat):nv B (l++[v])=nv B l+B^l.length*v:=by
 rw [nv_append]; simp [nv]
theorem nv_rep (B n:Nat):nv B (List.replicate n 0)=0:=by
 induction n with
 | zero=>rfl
 | succ n ih=>rw [List.replicate_succ]; simp [nv,ih]
end VL
namespace VL
open Go Vx
theorem nv_drop_next (B:Nat) (l:List Nat) (i:Nat) (h:i<l.length):nv B (l.drop i)=l.getD i 0+B*nv B (l.drop (i+1)):=by
 rw [List.drop_eq_getElem_cons h,List.getD_eq_getElem?_getD,List.getElem?_eq_getElem h]; rfl
theorem take_lt {B:Nat} (hB:2≤B) {l:List Nat} (h:∀ x∈l,x<B) (i:Nat):nv B (l.take i)<B^i:=by
 have:=nv_lt hB (l.take i) fun x hx=>h x (List.mem_of_mem_take hx)
 refine Nat.lt_of_lt_of_le this (Nat.pow_le_pow_right (by omega) ?_)
 rw [List.length_take]
 exact Nat.min_le_left _ _
theorem split_lt {P A A' X Y:Nat} (h:A<P) (hxy:X<Y):A+P*X<A'+P*Y:=by
 have:P*(X+1)≤P*Y:=Nat.mul_le_mul_left _ hxy
 rw [Nat.mul_add,Nat.mul_one] at this
 omega
theorem row_lt {B:Nat} (hB:2≤B) {a b:List Nat} (ha:∀ x∈a,x<B) {i:Nat} (hia:i<a.length) (hib:i<b.length) (hd:nv B (a.drop (i+1))=nv B (b.drop (i+1))) (h:a.getD i 0<b.getD i 0):nv B a<nv B b:=by
 rw [nv_split B a i (by omega),nv_split B b i (by omega),nv_drop_next B a i hia,nv_drop_next B b i hib,hd]
 exact split_lt (take_lt hB ha i) (by omega)
theorem dg_len_lt {B:Nat} (hB:2≤B) {x y:Nat} (h:(dg B x).length<(dg B y).length):x<y:=by
 have h1:=dg_len_gt hB x
 rcases Nat.lt_or_ge x y with h2 | h2
 ·exact h2
 ·have:=dg_len_le hB (dg B x).length y (by omega)
  omega
theorem minus_step {P B A A' O a b c c' v:Nat} (h:A+P*c=A'+O) (h2:a+B*c'=b+c+v):A+P*a+P*B*c'=A'+P*b+(O+P*v):=by
 have h3:P*(a+B*c')=P*(b+c+v):=by rw [h2]
 rw [Nat.mul_add,Nat.mul_add,Nat.mul_add,← Nat.mul_assoc] at h3
 omega
theorem dg_len_mono {B:Nat} (hB:2≤B) {x y:Nat} (h:y≤x):(dg B y).length≤(dg B x).length:=by
 rcases Nat.lt_or_ge (dg B x).length (dg B y).length with h1 | h1
 ·have:=dg_len_lt hB h1; omega
 ·exact h1
theorem Hs.len {n:Nat} (h:n<2^100000):(VL.dg (2^32) n).length≤3125:=by
 have:n<(2^32)^3125:=by rw [← Nat.pow_mul]; exact h
 exact dg_len_le (B:=2^32) (by decide) 3125 n this
theorem quoM (x m:Nat) (h:x<2^64) (hm:0<m):quoI .u64 (x:Int) (m:Int)=((x/m:Nat):Int):=by
 unfold quoI
 have e:(x:Int).tdiv (m:Int)=((x/m:Nat):Int):=rfl
 have:=Nat.div_le_self x m
 generalize x/m=q at *
 rw [e,wrapU (by omega)]
end VL
namespace VL
open Go Vx
theorem fP_le {f:Int} (hf:Fm f):fP f≤53:=by
 rcases Fm_cases hf with rfl | rfl | rfl | rfl <;> decide
theorem mode_cases {m:Int} (hm:0≤m∧m≤5):m=0∨m=1∨m=2∨m=3∨m=4∨m=5:=by omega
theorem cut_lt_big {f m:Int} (hf:Fm f) {neg:Bool} {n:Nat} {e q:Int} (h:topE n e-fP f+1≤q):cutN m neg n e q false≤2^fP f:=cut_le h
end VL
namespace VL
open Go Vx
def mant (f:Int) (a:Nat):Nat:=if eF f a=0 then mF f a else mF f a+2^(fP f-1)
def xpn (f:Int) (a:Nat):Int:=1-(fX f:Int)-(fP f:Int)+1+(if eF f a=0 then 0 else (eF f a:Int)-1)
theorem mF_lt (f:Int) (a:Nat):mF f a<2^(fP f-1):=Nat.mod_lt _ (Nat.two_pow_pos _)
theorem mant_lt {f:Int} (hf:Fm f) (a:Nat):mant f a<2^53:=by
 have h1:=mF_lt f a
 have h2:=fP_ge hf
 have h3:=fP_lt hf
 have h4:=fW_le hf
 have h5:2^(fP f-1)≤2^52:=Nat.pow_le_pow_right (by decide) (by rcases Fm_cases hf with rfl | rfl | rfl | rfl <;> decide)
 unfold mant
 split <;> omega
theorem eF_lt {f:Int} (hf:Fm f) (a:Nat):eF f a<2048:=by
 have:2^(fW f-fP f)≤2^11:=Nat.pow_le_pow_right (by decide) (by rcases Fm_cases hf with rfl | rfl | rfl | rfl <;> decide)
 have h:eF f a<2^(fW f-fP f):=Nat.mod_lt _ (Nat.two_pow_pos _)
 omega
theorem xpn_bound {f:Int} (hf:Fm f) (a:Nat):-2000≤xpn f a∧xpn f a≤2000:=by
 have h1:=eF_lt hf a
 have h2:=fX_le hf
 have h3:=fP_le hf
 have h4:=fX_ge hf
 have h5:=fP_ge hf
 have h6:(eF f a:Int)≤2*fX f+1:=by
  have:eF f a<2^(fW f-fP f):=Nat.mod_lt _ (Nat.two_pow_pos _)
  have:=fX_eq hf
  omega
 unfold xpn
 split <;> omega
def isInf (f:Int) (a:Nat):Bool:=eF f a==fullF f&&mF f a==0
def addR (f m:Int) (a b:Nat):Int×Int×Int×Unit :=
 bif snan f a||snan f b then ((nanF f:Int),1,0,())
 else bif nan f a||nan f b then ((nanF f:Int),0,0,())
 else bif (isInf f a&&isInf f b)&&!(sF f a==sF f b) then ((nanF f:Int),1,0,())
 else bif isInf f a then ((a:Int),0,0,())
 else bif isInf f b then ((b:Int),0,0,())
 else (((sumBits f m (sF f a) (mant f a) (xpn f a) (sF f b) (mant f b) (xpn f b)).1:Int),((sumBits f m (sF f a) (mant f a) (xpn f a) (sF f b) (mant f b) (xpn f b)).2:Int),0,())
def addA (f m:Int) (a b:Nat):Int×Int×Int×Unit :=
 if Fm f then (if 0≤m∧m≤5 then (if chk f a=0∧chk f b=0 then addR f m a b else (0,0,4,())) else (0,0,3,())) else (0,0,2,())
theorem full_vals {f:Int} {a:Nat} (h:eF f a=fullF f):nan f a=(!(mF f a==0))∧snan f a=(!(mF f a==0)&&(mF f a/2^(fP f-2)==0))∧isInf f a=(mF f a==0):=by
 unfold snan nan isInf
 rw [h]
 simp [bne]
theorem part_vals {f:Int} {a:Nat} (h:eF f a≠fullF f):nan f a=false∧snan f a=false∧isInf f a=false:=by
 unfold snan nan isInf
 simp [h]
def subA (f m:Int) (a b:Nat):Int×Int×Int×Unit:=addA f m a (if chk f b=0 then negF f b else b)
theorem neg_pat {f:Int} {b:Nat} (h:chk f b=0):negF f b<2^64:=pat_lt (neg_chk (chk_zero h).1 b)
end VL
namespace VL
open Go Vx
theorem T98_ok {f:Int} {a:Nat} (h:chk f a=0):T98 (f,(a:Int),())=some (sF f a,(eF f a:Int),(mF f a:Int),0,()):=by
 obtain ⟨hf,h0⟩:=chk_zero h
 have ha:=pat_lt h
 show t98 S66.pre S66.F S90.pre S90.F f a=_
 unfold t98
 have p0:=T66_eq f a ha
 have p2:=T90_eq hf a ha
 have hr1:decide (0≤f)=true:=decide_eq_true hf.1
 have hr2:decide (f<((4:Nat):Int))=true:=decide_eq_true hf.2
 simp only [row_at hf,hr1,hr2,pre66 p0,fun66 p0,pre90 p2,fun90 p2,h,cond_true,bne_self_eq_false,cond_false]
theorem T72_ok {f:Int} {a:Nat} (h:chk f a=0):T72 (f,rowOf f,(a:Int),())=some ((sF f a,(mant f a:Int),xpn f a,()),()):=by
 obtain ⟨hf,h0⟩:=chk_zero h
 show t72 S98.pre S98.F f (rowOf f) a=_
 unfold t72
 have h1:=fP_ge hf
 have h3:=fP_le hf
 have h4:=fX_le hf
 have hE:=eF_lt hf a
 have hM:=mF_lt f a
 have hPp:2^(fP f-1)≤2^52:=Nat.pow_le_pow_right (by decide) (by omega)
 have p0:=T98_ok h
 have r1:(rowOf f).2.1=(fP f:Int):=rfl
 have r2:(rowOf f).2.2.1=1-(fX f:Int):=rfl
 have e0:IntKind.wrap .i64 ((fP f:Int)-1)=((fP f-1:Nat):Int):=wsub1 _ (by omega)
 have e1:IntKind.wrap .i64 (IntKind.wrap .i64 ((1-(fX f:Int))-(fP f:Int))+1)=1-(fX f:Int)-(fP f:Int)+1:=by
  rw [wrapI (n:=_-(fP f:Int)) (by omega),wrapI (by omega)]
 have e2:IntKind.wrap .i64 (eF f a:Int)=(eF f a:Int):=wrapI (by omega)
 have e3:shlI .u64 1 ((fP f-1:Nat):Int)=((2^(fP f-1):Nat):Int):=shlI_one (by omega)
 have e4:orI .u64 (mF f a:Int) ((2^(fP f-1):Nat):Int)=((mF f a+2^(fP f-1):Nat):Int):=by
  have:=orN (a:=mF f a) (b:=1) (k:=fP f-1) hM (by omega)
  rwa [Nat.one_mul] at this
 simp only [pre98 p0,fun98 p0,cond_true,r1,r2,e0,e1,e2,e3,e4,nnn]
 by_cases hz:eF f a=0
 ·have hg:decide ((eF f a:Int)>0)=false:=decide_eq_false (by omega)
  have hm:mant f a=mF f a:=by unfold mant; rw [if_pos hz]
  have hx:xpn f a=1-(fX f:Int)-(fP f:Int)+1:=by unfold xpn; rw [if_pos hz,Int.add_zero]
  rw [hg,cond_false,hm,hx]
 ·have hg:decide ((eF f a:Int)>0)=true:=decide_eq_true (by omega)
  have hm:mant f a=mF f a+2^(fP f-1):=by unfold mant; rw [if_neg hz]
  have hx:IntKind.wrap .i64 ((1-(fX f:Int)-(fP f:Int)+1)+IntKind.wrap .i64 ((eF f a:Int)-1))=xpn f a:=by
   unfold xpn; rw [if_neg hz,wrapI (n:=(eF f a:Int)-1) (by omega),wrapI (by omega)]
  rw [hg,cond_true,hm,hx]
theorem cls_isInf (f:Int) (a:Nat):(cls f a==2||cls f a==9)=isInf f a:=by
 unfold cls isInf
 cases eF f a==fullF f <;> cases eF f a==0 <;> cases mF f a==0 <;> cases sF f a <;> cases mF f a/2^(fP f-2) != 0 <;> rfl
theorem cls_signs (f:Int) (a b:Nat):((isInf f a&&isInf f b)&&(cls f a != cls f b))=((isInf f a&&isInf f b)&&!(sF f a==sF f b)):=by
 unfold cls isInf
 cases eF f a==fullF f <;> cases mF f a==0 <;> cases eF f b==fullF f <;> cases mF f b==0 <;> first | rfl | (cases sF f a <;> cases sF f b <;> rfl)
theorem T27_eq (f m:Int) {a b:Nat} (ha:a<2^64) (hb:b<2^64):T27 (f,m,(a:Int),(b:Int),())=some (addA f m a b):=by
 show t27 S69.pre S69.F S65.pre S65.F S70.pre S70.F S72.pre S72.F S71.pre S71.F f m a b=_
 unfold t27 addA
 by_cases hf:Fm f
 ·rw [if_pos hf]
  have p0:=T69_ok hf
  simp only [pre69 p0,fun69 p0,cond_true,bne_self_eq_false,cond_false]
  by_cases hm:0≤m∧m≤5
  ·have hmm:(decide (m<0)||decide (m>5))=false:=by
    rw [decide_eq_false (p:=m<0) (by omega),decide_eq_false (p:=m>5) (by omega)]; rfl
   rw [if_pos hm,hmm,cond_false]
   have c4:∀ x:Nat,chk f x≠0→chk f x=4:=fun x h=>by
    unfold chk at h ⊢
    rw [if_pos hf] at h ⊢
    split at h
    ·exact absurd rfl h
    ·rename_i h1; rw [if_neg h1]
   by_cases hca:chk f a=0
   ·have p1:=T65_ok ha hca
    by_cases hcb:chk f b=0
    ·have p2:=T65_ok hb hcb
     rw [if_pos ⟨hca,hcb⟩]
     have p3:=T70_ok hf
     have p4:=T72_ok hca
     have p5:=T72_ok hcb
     have p6:=T71_eq hf hm (sF f a) (mant f a) (xpn f a) (sF f b) (mant f b) (xpn f b) (mant_lt hf a) (mant_lt hf b) (xpn_bound hf a) (xpn_bound hf b)
     simp only [pre65 p1,fun65 p1,pre65 p2,fun65 p2,cond_true,bne_self_eq_false,cond_false,pre70 p3,fun70 p3,pre72 p4,fun72 p4,pre72 p5,fun72 p5,pre71 p6,fun71 p6,cls_isInf,cls_signs]
     unfold addR
     rw [← cls_snan,← cls_snan,← cls_nan,← cls_nan]
     generalize ((isInf f a&&isInf f b)&&!(sF f a==sF f b))=w1
     generalize isInf f a=w2
     generalize isInf f b=w3
     generalize (cls f a==0)=x1
     generalize (cls f b==0)=x2
     generalize (cls f a==1)=x3
     generalize (cls f b==1)=x4
     cases x1 <;> cases x2 <;> cases x3 <;> cases x4 <;> cases w1 <;> cases w2 <;> cases w3 <;> rfl
    ·have p2:=T65_bad hb hcb
     rw [if_neg (fun h=>hcb h.2)]
     have hne:(chk f b != 0)=true:=by simpa using hcb
     simp only [pre65 p1,fun65 p1,pre65 p2,fun65 p2,cond_true,bne_self_eq_false,cond_false,hne]
     rw [c4 b hcb]
   ·have p1:=T65_bad ha hca
    rw [if_neg (fun h=>hca h.1)]
    have hne:(chk f a != 0)=true:=by simpa using hca
    simp only [pre65 p1,fun65 p1,cond_true,hne]
    rw [c4 a hca]
  ·rw [if_neg hm]
   have:(decide (m<0)||decide (m>5))=true:=by
    by_cases h:m<0
    ·rw [decide_eq_true h]; rfl
    ·rw [decide_eq_true (p:=m>5) (by omega),Bool.or_true]
   rw [this]; rfl
 ·rw [if_neg hf]
  have p0:=T69_bad hf
  simp only [pre69 p0,fun69 p0]
  rfl
theorem T25_eq (f m:Int) {a b:Nat} (ha:a<2^64) (hb:b<2^64):T25 (f,m,(a:Int),(b:Int),())=some (subA f m a b):=by
 show t25 S66.pre S66.F S64.pre S64.F S27.pre S27.F f m a b=_
 unfold t25 subA
 have p0:=T66_eq f b hb
 by_cases h:chk f b=0
 ·have p1:=T64_ok h
  have p2:=T27_eq f m ha (neg_pat h)
  rw [if_pos h]
  simp only [pre66 p0,fun66 p0,h,beq_self_eq_true,cond_true,pre64 p1,fun64 p1,pre27 p2,fun27 p2]
 ·have p2:=T27_eq f m ha hb
  have hne:(chk f b==0)=false:=by simpa using h
  rw [if_neg h]
  simp only [pre66 p0,fun66 p0,cond_true,hne,cond_false,pre27 p2,fun27 p2]
end VL
namespace VL
open Go Vx
theorem infB_eq (f:Int) (neg:Bool):infB f neg=infF f+sgnF f neg:=by
 unfold infB infF fullF; rw [Nat.mul_comm]
theorem add_sgn (f:Int) (s:Bool) (x:Nat):x+sgnF f s=mkF f s x:=by
 unfold mkF sgnF; cases s <;> rfl
theorem inf_ge {f:Int} (hf:Fm f):infF f=(2*fX f+1)*2^(fP f-1):=by
 unfold infF fullF; rw [← fX_eq hf,Nat.mul_comm]
theorem nan_of_le {f:Int} (hf:Fm f) {a:Nat} (h:absF f a≤infF f):nan f a=false:=by
 unfold nan
 rw [eF_abs hf,mF_abs hf]
 by_cases he:absF f a/2^(fP f-1)=fullF f
 ·have hdm:=Nat.div_add_mod (absF f a) (2^(fP f-1))
  rw [he] at hdm
  unfold infF at h
  have:absF f a%2^(fP f-1)=0:=by omega
  rw [this]; simp
 ·simp [he]
def rndM (f m:Int) (neg:Bool) (n:Nat) (e:Int):Nat×Nat :=
 if topE n e>fX f then ((if upw m neg then infF f else infF f-1),20)
 else
  let q:=lowE f (topE n e)
  let u:=cutN m neg n e q false
  if q+blen u-1>fX f then ((if upw m neg then infF f else infF f-1),20)
  else ((q-(1-(fX f:Int)-fP f+1)).toNat*2^(fP f-1)+u,
   if cutR n e q false=0 then 0 else if isTiny f m neg n e false then 24 else 16)
theorem infF_pos {f:Int} (hf:Fm f):1≤infF f:=by
 rw [inf_ge hf]
 exact Nat.mul_pos (by omega) (Nat.two_pow_pos _)
theorem bey_M {f m:Int} (hf:Fm f) (neg:Bool):beyB f m neg=mkF f neg (if upw m neg then infF f else infF f-1):=by
 have:=infF_pos hf
 unfold beyB
 rw [infB_eq,← add_sgn]
 split <;> omega
theorem rnd_M {f:Int} (hf:Fm f) (m:Int) (neg:Bool) (n:Nat) (e:Int):rndN f m neg n e false=(mkF f neg (rndM f m neg n e).1,(rndM f m neg n e).2):=by
 unfold rndN rndM
 by_cases h:topE n e>fX f
 ·rw [if_pos h,if_pos h,bey_M hf]
 ·rw [if_neg h,if_neg h]
  dsimp only
  by_cases h2:lowE f (topE n e)+(blen (cutN m neg n e (lowE f (topE n e)) false):Int)-1>fX f
  ·rw [if_pos h2,if_pos h2,bey_M hf]
  ·rw [if_neg h2,if_neg h2]
   dsimp only
   rw [add_sgn]
theorem low_facts (f:Int) (hf:Fm f) (t:Int) (ht:¬ t>fX f):t-(fP f:Int)+1≤lowE f t∧1-(fX f:Int)-(fP f:Int)+1≤lowE f t∧lowE f t≤(fX f:Int)-(fP f:Int)+1:=by
 have:=fX_ge hf
 unfold lowE; split <;> refine ⟨?_,?_,?_⟩ <;> omega
theorem rndM_lt {f m:Int} (hf:Fm f) {neg:Bool} {n:Nat} {e:Int} (h1:¬ topE n e>fX f) (h2:¬ lowE f (topE n e)+(blen (cutN m neg n e (lowE f (topE n e)) false):Int)-1>fX f) :
  (lowE f (topE n e)-(1-(fX f:Int)-fP f+1)).toNat*2^(fP f-1)+cutN m neg n e (lowE f (topE n e)) false<infF f:=by
 obtain ⟨g1,g2,g3⟩:=low_facts f hf _ h1
 have hu:=cut_lt_big (m:=m) (neg:=neg) hf g1
 generalize lowE f (topE n e)=q at *
 generalize cutN m neg n e q false=u at *
 have hP:=fP_ge hf
 have hX:=fX_ge hf
 have hpp:=Nat.two_pow_pos (fP f-1)
 have h2p:2^fP f=2*2^(fP f-1):=by rw [← Nat.pow_succ',Nat.succ_eq_add_one,Nat.sub_add_cancel (by omega)]
 rw [inf_ge hf]
 obtain ⟨k,hk⟩:=Int.eq_ofNat_of_zero_le (show 0≤q-(1-(fX f:Int)-(fP f:Int)+1) by omega)
 rw [hk,Int.toNat_natCast]
 rcases Nat.lt_or_ge u (2^fP f) with h | h
 ·have hk2:k+2≤2*fX f+1:=by omega
  have:=Nat.mul_le_mul_right (2^(fP f-1)) hk2
  rw [Nat.add_mul] at this
  omega
 ·have hb:fP f+1≤blen u:=blen_ge h
  have hk2:k+3≤2*fX f+1:=by omega
  have:=Nat.mul_le_mul_right (2^(fP f-1)) hk2
  rw [Nat.add_mul] at this
  omega
theorem rndM_le {f:Int} (hf:Fm f) (m:Int) (neg:Bool) (n:Nat) (e:Int):(rndM f m neg n e).1≤infF f:=by
 unfold rndM
 by_cases h:topE n e>fX f
 ·rw [if_pos h]; dsimp only; split <;> omega
 ·rw [if_neg h]
  dsimp only
  by_cases h2:lowE f (topE n e)+(blen (cutN m neg n e (lowE f (topE n e)) false):Int)-1>fX f
  ·rw [if_pos h2]; dsimp only; split <;> omega
  ·rw [if_neg h2]
   exact Nat.le_of_lt (rndM_lt hf h h2)
theorem infF_lt {f:Int} (hf:Fm f):infF f<2^(fW f-1):=by have:=inf_room hf; omega
theorem mk_place {f:Int} (s:Bool) {x:Nat} (hx:x<2^(fW f-1)):place f (mkF f s x)=bif s then -(x:Int) else x:=by
 unfold place
 rw [mk_abs s hx,mk_sgn s hx]
theorem rnd_self {f m:Int} (hf:Fm f) {a:Nat} (h:chk f a=0) (hfin:eF f a≠fullF f) (h0:mant f a≠0):rndN f m (sF f a) (mant f a) (xpn f a) false=(a,0):=by
 have hP:=fP_ge hf
 have hX:=fX_ge hf
 have hpp:=Nat.two_pow_pos (fP f-1)
 have h2p:2^fP f=2*2^(fP f-1):=by rw [← Nat.pow_succ',Nat.succ_eq_add_one,Nat.sub_add_cancel (by omega)]
 have hM:=mF_lt f a
 have hEl:eF f a<fullF f:=Nat.lt_of_le_of_ne (e_le a) hfin
 have hfull:fullF f=2*fX f+1:=by unfold fullF; rw [← fX_eq hf]
 have habs:=abs_eq hf a
 have hpat:=pat_mk h
 rw [rnd_M hf]
 have key:rndM f m (sF f a) (mant f a) (xpn f a)=(absF f a,0):=by
  have hbits:∃ t,topE (mant f a) (xpn f a)=t∧t≤fX f∧lowE f t=xpn f a∧xpn f a+(blen (mant f a):Int)-1=t:=by
   refine ⟨_,rfl,?_,?_,rfl⟩
   ·unfold topE xpn
    by_cases he:eF f a=0
    ·have hm:mant f a=mF f a:=by unfold mant; rw [if_pos he]
     have:=blen_bound (n:=mant f a) (k:=fP f-1) (by rw [hm]; exact hM)
     rw [if_pos he]; omega
    ·have hm:mant f a=mF f a+2^(fP f-1):=by unfold mant; rw [if_neg he]
     have:=blen_bound (n:=mant f a) (k:=fP f) (by rw [hm]; omega)
     rw [if_neg he]; omega
   ·unfold lowE topE xpn
    by_cases he:eF f a=0
    ·have hm:mant f a=mF f a:=by unfold mant; rw [if_pos he]
     have hb:=blen_bound (n:=mant f a) (k:=fP f-1) (by rw [hm]; exact hM)
     rw [if_pos he,if_pos (by omega)]; omega
    ·have hm:mant f a=mF f a+2^(fP f-1):=by unfold mant; rw [if_neg he]
     have hb:=blen_bound (n:=mant f a) (k:=fP f) (by rw [hm]; omega)
     have hb2:=blen_ge (n:=mant f a) (k:=fP f-1) (by rw [hm]; omega)
     rw [if_neg he]
     by_cases h1:eF f a=1
     ·rw [h1]; split <;> omega
     ·rw [if_neg (by omega)]; omega
  obtain ⟨t,ht,ht2,hlow,htb⟩:=hbits
  have hcut:cutR (mant f a) (xpn f a) (xpn f a) false=0:=by rw [cutR_f,rstE_lo (Int.le_refl _)]
  have hcn:cutN m (sF f a) (mant f a) (xpn f a) (xpn f a) false=mant f a:=by
   unfold cutN
   rw [if_neg (fun hh=>hh.1 hcut),quoE_lo (Int.le_refl _),Int.sub_self]
   simp
  unfold rndM
  rw [ht,if_neg (by omega),hlow]
  dsimp only
  rw [hcn,if_neg (by omega),hcut,if_pos rfl]
  congr 1
  rw [habs]
  unfold xpn mant
  by_cases he:eF f a=0
  ·rw [if_pos he,if_pos he,he,Nat.mul_zero,Int.add_zero,Int.sub_self]
   simp
  ·rw [if_neg he,if_neg he]
   rw [show (1-(fX f:Int)-(fP f:Int)+1+((eF f a:Int)-1)-(1-(fX f:Int)-(fP f:Int)+1)).toNat=eF f a-1 by omega]
   obtain ⟨k,hk⟩:∃ k,eF f a=k+1:=⟨eF f a-1,by omega⟩
   rw [hk,Nat.add_sub_cancel,Nat.mul_add,Nat.mul_one,Nat.mul_comm k]
   omega
 rw [key]
 dsimp only
 rw [← hpat]
end VL
namespace VL
open Go Vx
def qm (f:Int):Int:=1-(fX f:Int)-(fP f:Int)+1
def cutJ (m:Int) (neg:Bool) (n j:Nat):Nat :=
 if clsR (n%2^j) j≠0∧furM m neg (decide (n/2^j%2=1)) (clsR (n%2^j) j)=true then n/2^j+1 else n/2^j
def muM (f m:Int) (neg:Bool) (n:Nat):Nat:=if n<2^fP f then n else (blen n-fP f)*2^(fP f-1)+cutJ m neg n (blen n-fP f)
def limM (f m:Int) (neg:Bool):Nat:=if upw m neg then infF f else infF f-1
theorem cutJ_bound (m:Int) (neg:Bool) (n j:Nat):n/2^j≤cutJ m neg n j∧cutJ m neg n j≤n/2^j+1:=by
 unfold cutJ; split <;> omega
theorem quo_bound {f:Int} (hf:Fm f) {n:Nat} (h:¬ n<2^fP f):1≤blen n-fP f∧2^(fP f-1)≤n/2^(blen n-fP f)∧n/2^(blen n-fP f)<2^fP f:=by
 have hP:=fP_ge hf
 have hb:=blen_ge (n:=n) (k:=fP f) (by omega)
 obtain ⟨j,hj⟩:∃ j,blen n=fP f+j:=⟨blen n-fP f,by omega⟩
 have h1:=blen_lt n
 have h2:=blen_le (n:=n) (by have:=Nat.two_pow_pos (fP f); omega)
 rw [hj] at h1 h2 ⊢
 rw [Nat.add_sub_cancel_left]
 refine ⟨by omega,?_,?_⟩
 ·rw [Nat.le_div_iff_mul_le (Nat.two_pow_pos _),← Nat.pow_add]
  refine Nat.le_trans (Nat.pow_le_pow_right (by decide) ?_) h2
  omega
 ·rw [Nat.div_lt_iff_lt_mul (Nat.two_pow_pos _),← Nat.pow_add]
  exact h1
theorem two_P {f:Int} (hf:Fm f):2^fP f=2*2^(fP f-1):=by
 have hP:=fP_ge hf
 rw [← Nat.pow_succ',Nat.succ_eq_add_one,Nat.sub_add_cancel (by omega)]
theorem rndM_mu {f:Int} (hf:Fm f) (m:Int) (neg:Bool) {n:Nat} (h0:n≠0) :
  rndM f m neg n (qm f)=if infF f≤muM f m neg n then (limM f m neg,20) else (muM f m neg n,if n<2^fP f then 0 else if clsR (n%2^(blen n-fP f)) (blen n-fP f)=0 then 0 else 16):=by
 have hP:=fP_ge hf
 have hX:=fX_ge hf
 have h2p:=two_P hf
 have hpp:=Nat.two_pow_pos (fP f-1)
 have hinf:=inf_ge hf
 have hb1:=blen_pos h0
 have htop:topE n (qm f)=qm f+(blen n:Int)-1:=rfl
 have hqm:qm f=1-(fX f:Int)-(fP f:Int)+1:=rfl
 unfold rndM
 by_cases h:n<2^fP f
 ·have hb:=blen_bound h
  have hlow:lowE f (topE n (qm f))=qm f:=by unfold lowE; split <;> omega
  have hmu:muM f m neg n=n:=by unfold muM; rw [if_pos h]
  have hcut:cutR n (qm f) (qm f) false=0:=by rw [cutR_f,rstE_lo (Int.le_refl _)]
  have hcn:cutN m neg n (qm f) (qm f) false=n:=by
   unfold cutN
   rw [if_neg (fun hh=>hh.1 hcut),quoE_lo (Int.le_refl _),Int.sub_self]
   simp
  have hlt:2*2^(fP f-1)≤(2*fX f+1)*2^(fP f-1):=Nat.mul_le_mul_right _ (by omega)
  rw [if_neg (show ¬ topE n (qm f)>fX f by omega),hlow,hmu,if_neg (show ¬ infF f≤n by omega)]
  dsimp only
  rw [hcn,if_neg (show ¬ qm f+(blen n:Int)-1>fX f by omega),hcut,if_pos rfl,if_pos h,← hqm,Int.sub_self]
  simp
 ·obtain ⟨hj1,hq1,hq2⟩:=quo_bound hf h
  have hblen:(blen n:Int)=(fP f:Int)+((blen n-fP f:Nat):Int):=by omega
  obtain ⟨hc1,hc2⟩:=cutJ_bound m neg n (blen n-fP f)
  have hmu:muM f m neg n=(blen n-fP f)*2^(fP f-1)+cutJ m neg n (blen n-fP f):=by unfold muM; rw [if_neg h]
  rw [hmu,if_neg h]
  have hlow:lowE f (topE n (qm f))=qm f+((blen n-fP f:Nat):Int):=by unfold lowE; rw [if_neg (by omega)]; omega
  have htiny:¬ isTiny f m neg n (qm f) false:=fun hh=>by have:=hh.1; omega
  have hcr:cutR n (qm f) (qm f+((blen n-fP f:Nat):Int)) false=clsR (n%2^(blen n-fP f)) (blen n-fP f):=by
   rw [cutR_f,rstE_hi (by omega),show (qm f+((blen n-fP f:Nat):Int)-qm f).toNat=blen n-fP f by omega]
  have hcn:cutN m neg n (qm f) (qm f+((blen n-fP f:Nat):Int)) false=cutJ m neg n (blen n-fP f):=by
   unfold cutN cutJ
   rw [hcr,quoE_hi (by omega),show (qm f+((blen n-fP f:Nat):Int)-qm f).toNat=blen n-fP f by omega]
  rw [hlow]
  dsimp only
  rw [hcn,hcr,show (qm f+((blen n-fP f:Nat):Int)-(1-(fX f:Int)-(fP f:Int)+1)).toNat=blen n-fP f by omega]
  generalize blen n-fP f=j at *
  generalize cutJ m neg n j=u at *
  generalize n/2^j=Q at *
  by_cases ht:topE n (qm f)>fX f
  ·have hj2:2*fX f+1≤j+1:=by omega
   have:=Nat.mul_le_mul_right (2^(fP f-1)) hj2
   rw [Nat.add_mul j,Nat.one_mul] at this
   rw [if_pos ht,if_pos (show infF f≤j*2^(fP f-1)+u by omega)]
   rfl
  ·rw [if_neg ht]
   rcases Nat.lt_or_ge u (2^fP f) with hu | hu
   ·have hbu:=blen_bound hu
    have hj2:j+2≤2*fX f+1:=by omega
    have:=Nat.mul_le_mul_right (2^(fP f-1)) hj2
    rw [Nat.add_mul] at this
    rw [if_neg (show ¬ qm f+(j:Int)+(blen u:Int)-1>fX f by omega),if_neg (show ¬ infF f≤j*2^(fP f-1)+u by omega),if_neg htiny]
   ·have hbu:=blen_ge hu
    have hbu2:=blen_bound (n:=u) (k:=fP f+1) (by rw [Nat.pow_succ]; omega)
    by_cases hj2:j+3≤2*fX f+1
    ·have:=Nat.mul_le_mul_right (2^(fP f-1)) hj2
     rw [Nat.add_mul] at this
     rw [if_neg (show ¬ qm f+(j:Int)+(blen u:Int)-1>fX f by omega),if_neg (show ¬ infF f≤j*2^(fP f-1)+u by omega),if_neg htiny]
    ·have hj3:2*fX f+1≤j+2:=by omega
     have:=Nat.mul_le_mul_right (2^(fP f-1)) hj3
     rw [Nat.add_mul j] at this
     rw [if_pos (show qm f+(j:Int)+(blen u:Int)-1>fX f by omega),if_pos (show infF f≤j*2^(fP f-1)+u by omega)]
     rfl
theorem blen_mono {n k:Nat} (h:n≤k):blen n≤blen k:=blen_bound (Nat.lt_of_le_of_lt h (blen_lt k))
theorem cls_mono {r r' j:Nat} (h:r≤r'):clsR r j≤clsR r' j:=by
 unfold clsR
 generalize 2^(j-1)=H
 by_cases h0:r=0
 ·rw [if_pos h0]; exact Nat.zero_le _
 rw [if_neg h0,if_neg (show ¬ r'=0 by omega)]
 by_cases h1:r'<H
 ·rw [if_pos (show r<H by omega),if_pos h1]; exact Nat.le_refl _
 rw [if_neg h1]
 by_cases h2:r'=H
 ·rw [if_pos h2]
  split
  ·decide
  ·rw [if_pos (by omega)]; exact Nat.le_refl _
 ·rw [if_neg h2]
  split
  ·decide
  ·split <;> decide
theorem clsR_le (r j:Nat):clsR r j≤3:=by
 unfold clsR
 split
 ·decide
 ·split
  ·decide
  ·split <;> decide
theorem up_mono {m:Int} (hm:0≤m∧m≤5) (neg odd:Bool) {c c':Nat} (h:c≤c') (hc':c'≤3) (hu:c≠0∧furM m neg odd c=true):c'≠0∧furM m neg odd c'=true:=by
 obtain ⟨h0,h1⟩:=hu
 refine ⟨by omega,?_⟩
 rcases (show c=1∨c=2∨c=3 by omega) with rfl | rfl | rfl <;> rcases (show c'=1∨c'=2∨c'=3 by omega) with rfl | rfl | rfl <;> rcases mode_cases hm with rfl | rfl | rfl | rfl | rfl | rfl <;> cases neg <;> cases odd <;> first | rfl | (exfalso; omega) | (revert h1; decide)
theorem cutJ_mono {m:Int} (hm:0≤m∧m≤5) (neg:Bool) {n k j:Nat} (h:n≤k):cutJ m neg n j≤cutJ m neg k j:=by
 have hq:n/2^j≤k/2^j:=Nat.div_le_div_right h
 have h1:=cutJ_bound m neg n j
 have h2:=cutJ_bound m neg k j
 rcases Nat.lt_or_ge (n/2^j) (k/2^j) with hlt | hge
 ·omega
 ·have he:n/2^j=k/2^j:=by omega
  have hr:n%2^j≤k%2^j:=by
   have a1:=Nat.div_add_mod n (2^j)
   have a2:=Nat.div_add_mod k (2^j)
   rw [he] at a1
   omega
  unfold cutJ
  rw [he]
  have hu:=up_mono hm neg (decide (k/2^j%2=1)) (cls_mono (j:=j) hr) (clsR_le _ _)
  split
  ·rename_i hh
   rw [if_pos (hu hh)]
   omega
  ·split <;> omega
theorem mu_mono {f m:Int} (hf:Fm f) (hm:0≤m∧m≤5) (neg:Bool) {n k:Nat} (h:n≤k):muM f m neg n≤muM f m neg k:=by
 have h2p:=two_P hf
 unfold muM
 by_cases h1:n<2^fP f
 ·by_cases h2:k<2^fP f
  ·rw [if_pos h1,if_pos h2]; exact h
  ·obtain ⟨hj1,hq1,_⟩:=quo_bound hf h2
   have hc:=(cutJ_bound m neg k (blen k-fP f)).1
   have:=Nat.mul_le_mul_right (2^(fP f-1)) hj1
   rw [if_pos h1,if_neg h2]; omega
 ·have h2:¬ k<2^fP f:=by omega
  obtain ⟨hj1,hq1,hq2⟩:=quo_bound hf h1
  obtain ⟨hj1',hq1',hq2'⟩:=quo_bound hf h2
  have hc:=cutJ_bound m neg n (blen n-fP f)
  have hc':=cutJ_bound m neg k (blen k-fP f)
  have hb:=blen_mono h
  rw [if_neg h1,if_neg h2]
  rcases Nat.lt_or_ge (blen n-fP f) (blen k-fP f) with hlt | hge
  ·have:=Nat.mul_le_mul_right (2^(fP f-1)) hlt
   rw [Nat.succ_eq_add_one,Nat.add_mul] at this
   omega
  ·have he:blen n-fP f=blen k-fP f:=by omega
   rw [he]
   have:=cutJ_mono hm neg (j:=blen k-fP f) h
   omega
def magI (f m:Int) (neg:Bool) (n:Nat):Nat:=if n=0 then 0 else (rndM f m neg n (qm f)).1
def plcI (f m:Int) (S:Int):Int:=if S<0 then -(magI f m true S.natAbs:Int) else (magI f m false S.natAbs:Int)
theorem mag_mono {f m:Int} (hf:Fm f) (hm:0≤m∧m≤5) (neg:Bool) {n k:Nat} (h:n≤k):magI f m neg n≤magI f m neg k:=by
 unfold magI
 by_cases h0:n=0
 ·rw [if_pos h0]; exact Nat.zero_le _
 ·rw [if_neg h0,if_neg (by omega),rndM_mu hf m neg h0,rndM_mu hf m neg (by omega)]
  have hmm:=mu_mono hf hm neg h
  have hp:=infF_pos hf
  unfold limM
  by_cases h1:infF f≤muM f m neg n
  ·rw [if_pos h1,if_pos (show infF f≤muM f m neg k by omega)]
   exact Nat.le_refl _
  ·rw [if_neg h1]
   by_cases h2:infF f≤muM f m neg k
   ·rw [if_pos h2]
    dsimp only
    split <;> omega
   ·rw [if_neg h2]
    exact hmm
theorem plc_mono {f m:Int} (hf:Fm f) (hm:0≤m∧m≤5) {S T:Int} (h:S≤T):plcI f m S≤plcI f m T:=by
 unfold plcI
 by_cases hS:S<0
 ·rw [if_pos hS]
  by_cases hT:T<0
  ·rw [if_pos hT]
   have:=mag_mono hf hm true (n:=T.natAbs) (k:=S.natAbs) (by omega)
   omega
  ·rw [if_neg hT]; omega
 ·rw [if_neg hS,if_neg (by omega)]
  have:=mag_mono hf hm false (n:=S.natAbs) (k:=T.natAbs) (by omega)
  omega
end VL
namespace VL
open Go Vx
theorem place_mant {f:Int} (hf:Fm f) {a:Nat} (h:place f a≠0):mant f a≠0:=fun hm=>by
 have habs:absF f a≠0:=fun h0=>h (by unfold place; rw [h0]; cases sF f a <;> rfl)
 have hpp:=Nat.two_pow_pos (fP f-1)
 unfold mant at hm
 split at hm
 ·rename_i he
  exact habs ((zero_iff hf a).2 ⟨he,hm⟩)
 ·omega
end VL
namespace VL
open Go Vx
def vI (f:Int) (neg:Bool) (X:Nat) (e:Int):Int:=bif neg then -((X*2^(e-qm f).toNat:Nat):Int) else ((X*2^(e-qm f).toNat:Nat):Int)
theorem rnd_qm {f:Int} (hf:Fm f) (m:Int) (neg:Bool) {N:Nat} (hN:N≠0) {e:Int} (he:qm f≤e) :
  rndN f m neg N e false=(mkF f neg (rndM f m neg (N*2^(e-qm f).toNat) (qm f)).1,(rndM f m neg (N*2^(e-qm f).toNat) (qm f)).2):=by
 have h:=rnd_scale (f:=f) (m:=m) (neg:=neg) hf hN (e-qm f).toNat (qm f)
 rw [show qm f+((e-qm f).toNat:Int)=e by omega] at h
 rw [← h,rnd_M hf]
end VL
namespace VL
open Go Vx
theorem xpn_ge (f:Int) (a:Nat):qm f≤xpn f a:=by
 unfold xpn qm
 split <;> omega
def sl (V:Nat→Int) (i:Nat):List Int:=[if 0<i then V 0 else 0,if 1<i then V 1 else 0,if 2<i then V 2 else 0,if 3<i then V 3 else 0,if 4<i then V 4 else 0,if 5<i then V 5 else 0]
end VL
namespace VL
open Go Vx
def vA (f:Int) (a:Nat):Int:=vI f (sF f a) (mant f a) (xpn f a)
theorem plc_zero (f m:Int):plcI f m 0=0:=by
 unfold plcI magI
 rw [if_neg (by omega)]
 rfl
theorem abs_zero_mant {f:Int} (hf:Fm f) {a:Nat} (h:absF f a=0):mant f a=0:=by
 have h0:=(zero_iff hf a).1 h
 unfold mant; rw [if_pos h0.1]; exact h0.2
theorem self_plc {f:Int} (hf:Fm f) {a:Nat} (ha:chk f a=0) (fa:eF f a≠fullF f):place f a=plcI f 0 (vA f a):=by
 by_cases h0:mant f a=0
 ·have hv:vA f a=0:=by
   unfold vA vI; rw [h0,Nat.zero_mul]; cases sF f a <;> rfl
  rw [hv,plc_zero]
  by_cases hp:place f a=0
  ·exact hp
  ·exact absurd h0 (place_mant hf hp)
 ·have hr:=rnd_self (m:=0) hf ha fa h0
  rw [rnd_qm hf 0 (sF f a) h0 (xpn_ge f a)] at hr
  have h1:mkF f (sF f a) (rndM f 0 (sF f a) (mant f a*2^(xpn f a-qm f).toNat) (qm f)).1=a:=congrArg Prod.fst hr
  have hn0:mant f a*2^(xpn f a-qm f).toNat≠0:=Nat.ne_of_gt (Nat.mul_pos (by omega) (Nat.two_pow_pos _))
  have hle:=rndM_le hf 0 (sF f a) (mant f a*2^(xpn f a-qm f).toNat) (qm f)
  have h2:place f a=place f (mkF f (sF f a) (rndM f 0 (sF f a) (mant f a*2^(xpn f a-qm f).toNat) (qm f)).1):=by rw [h1]
  rw [h2,mk_place _ (Nat.lt_of_le_of_lt hle (infF_lt hf))]
  unfold vA vI plcI magI
  generalize mant f a*2^(xpn f a-qm f).toNat=n at *
  cases sF f a
  ·simp only [cond_false]
   rw [if_neg (show ¬ ((n:Int)<0) by omega),Int.natAbs_natCast,if_neg hn0]
  ·simp only [cond_true]
   rw [if_pos (show (-(n:Int)<0) by omega),Int.natAbs_neg,Int.natAbs_natCast,if_neg hn0]
theorem place_abs (f:Int) (a:Nat):(place f a).natAbs=absF f a:=by
 unfold place; cases sF f a <;> simp
theorem same_val {f:Int} (hf:Fm f) {a b:Nat} (h:place f a=place f b):vA f a=vA f b:=by
 have habs:absF f a=absF f b:=by rw [← place_abs,← place_abs,h]
 by_cases h0:absF f a=0
 ·have e1:=abs_zero_mant hf h0
  have e2:=abs_zero_mant hf (habs ▸ h0)
  unfold vA vI
  rw [e1,e2,Nat.zero_mul,Nat.zero_mul]
  cases sF f a <;> cases sF f b <;> rfl
 ·have hs:sF f a=sF f b:=by
   unfold place at h
   rw [habs] at h h0
   cases h1:sF f a <;> cases h2:sF f b <;> rw [h1,h2] at h <;> simp only [cond_true,cond_false] at h <;> first | rfl | omega
  have he:eF f a=eF f b:=by rw [eF_abs hf,eF_abs hf,habs]
  have hm:mF f a=mF f b:=by rw [mF_abs hf,mF_abs hf,habs]
  unfold vA mant xpn
  rw [hs,he,hm]
end VL
namespace VL
open Go Vx
def tz (n:Nat):Nat:=if n=0 then 0 else if n%2=1 then 0 else tz (n/2)+1
termination_by n
decreasing_by omega
theorem tz_of:∀ (t k:Nat),tz (2^t*(2*k+1))=t
 | 0,k=>by
  rw [tz,Nat.pow_zero,Nat.one_mul,if_neg (by omega),if_pos (by omega)]
 | t+1,k=>by
  have e:2^(t+1)*(2*k+1)=2*(2^t*(2*k+1)):=by rw [Nat.pow_succ,Nat.mul_comm (2^t) 2,Nat.mul_assoc]
  have hp:0<2^t*(2*k+1):=Nat.mul_pos (Nat.two_pow_pos t) (by omega)
  have ih:=tz_of t k
  rw [e]
  generalize 2^t*(2*k+1)=n at *
  rw [tz,if_neg (by omega),if_neg (by omega),show 2*n/2=n by omega,ih]
theorem tz_split {n:Nat} (h:n≠0):∃ k,n=2^tz n*(2*k+1):=by
 obtain ⟨t,k,e⟩:=two_split (x:=n) (by omega)
 refine ⟨k,?_⟩
 have:=tz_of t k
 rw [← e] at this
 rw [this]; exact e
abbrev Dya:=Den (.pair (.bool) (.pair (.slice (.int .u64)) (.pair (.int .i64) (.unit))))
def dy (s:Bool) (n:Nat) (e:Int):Dya:=(s,Dw n,e,())
theorem dy_zero:dy false 0 0=(false,[],0,()):=by unfold dy; rw [Dw_zero]
end VL
namespace VL
open Go Vx
theorem W144_eq (a b:List Nat) (ha:∀ x∈a,x<2^64) (hb:∀ x∈b,x<2^64) (hla:a.length≤1000000) (hab:a.length=b.length) :
  W144_7 ((Wd a,(Wd b,((a.length:Int)-1,()))),())=some (if nv (2^64) a=nv (2^64) b then .inl ((),()) else .inr (((if nv (2^64) a<nv (2^64) b then (-1:Int) else 1),()),())):=by
 have key:=lfix_ind (m144_7 S173.pre S173.F) (fun x=>(x.1.2.2.1+1).toNat)
  (fun x=>∃ j:Nat,j≤a.length∧nv (2^64) (a.drop j)=nv (2^64) (b.drop j)∧x=((Wd a,(Wd b,((j:Int)-1,()))),()))
  (fun _=>if nv (2^64) a=nv (2^64) b then .inl ((),()) else .inr (((if nv (2^64) a<nv (2^64) b then (-1:Int) else 1),()),())) ?_ ((Wd a,(Wd b,((a.length:Int)-1,()))),())
  ⟨a.length,Nat.le_refl _,by rw [List.drop_length,hab,List.drop_length],rfl⟩
 ·exact key
 intro L x hx hL
 obtain ⟨j,hj,hd,rfl⟩:=hx
 unfold h144_7
 rcases j with _ | i
 ·have e1:decide ((((0:Nat):Int)-1)≥0)=false:=rfl
  rw [List.drop_zero,List.drop_zero] at hd
  simp only [e1,cond_false,if_pos hd]
 ·have e0:(((i+1:Nat):Int)-1)=(i:Int):=by omega
  have e2:IntKind.wrap .i64 ((i:Int)-1)=(i:Int)-1:=wrapI (by omega)
  have e3:decide ((i:Int)≥0)=true:=decide_eq_true (by omega)
  simp (disch:=omega) only [e0,e2,e3,wadd,wadd1,wadd64,wsubn,wsub1,wmul64,ilt_t,ilt_f,ile_t,ile_f,igt_t,igt_f,ige_t,ige_f,ipos_t,ipos_f,igt0_t,igt0_f,nnn,beq0_t,beq0_f,bne0_t,bne0_f,Int.toNat_natCast,Int.toNat_zero,cond_true,cond_false,Bool.and_self,Bool.true_and,Bool.and_true,Bool.false_and,Bool.and_false,Bool.not_true,Bool.not_false,Bool.or_self,Bool.true_or,Bool.or_true,Bool.false_or,Bool.or_false,Wd_len,Wd_getD]
  rcases Nat.lt_trichotomy (a.getD i 0) (b.getD i 0) with h | h | h
  ·have hr:=row_lt (by decide) ha (by omega) (by omega) hd h
   simp (disch:=omega) only [wadd,wadd1,wadd64,wsubn,wsub1,wmul64,ilt_t,ilt_f,ile_t,ile_f,igt_t,igt_f,ige_t,ige_f,ipos_t,ipos_f,igt0_t,igt0_f,nnn,beq0_t,beq0_f,bne0_t,bne0_f,Int.toNat_natCast,Int.toNat_zero,cond_true,cond_false,Bool.and_self,Bool.true_and,Bool.and_true,Bool.false_and,Bool.and_false,Bool.not_true,Bool.not_false,Bool.or_self,Bool.true_or,Bool.or_true,Bool.false_or,Bool.or_false]
   rw [if_neg (by omega),if_pos hr]
  ·simp (disch:=omega) only [wadd,wadd1,wadd64,wsubn,wsub1,wmul64,ilt_t,ilt_f,ile_t,ile_f,igt_t,igt_f,ige_t,ige_f,ipos_t,ipos_f,igt0_t,igt0_f,nnn,beq0_t,beq0_f,bne0_t,bne0_f,Int.toNat_natCast,Int.toNat_zero,cond_true,cond_false,Bool.and_self,Bool.true_and,Bool.and_true,Bool.false_and,Bool.and_false,Bool.not_true,Bool.not_false,Bool.or_self,Bool.true_or,Bool.or_true,Bool.false_or,Bool.or_false]
   refine hL _ ⟨i,by omega,?_,rfl⟩ (by simp only [Int.toNat_natCast]; omega)
   rw [nv_drop_next _ a i (by omega),nv_drop_next _ b i (by omega),hd,h]
  ·have hr:=row_lt (by decide) hb (by omega) (by omega) hd.symm h
   simp (disch:=omega) only [wadd,wadd1,wadd64,wsubn,wsub1,wmul64,ilt_t,ilt_f,ile_t,ile_f,igt_t,igt_f,ige_t,ige_f,ipos_t,ipos_f,igt0_t,igt0_f,nnn,beq0_t,beq0_f,bne0_t,bne0_f,Int.toNat_natCast,Int.toNat_zero,cond_true,cond_false,Bool.and_self,Bool.true_and,Bool.and_true,Bool.false_and,Bool.and_false,Bool.not_true,Bool.not_false,Bool.or_self,Bool.true_or,Bool.or_true,Bool.false_or,Bool.or_false]
   rw [if_neg (by omega),if_neg (by omega)]
theorem T173_dw {x:Nat} (hx:x<(2^64)^5000):T173 (Dw x,())=some (Dw x,()):=by
 have:=T173_eq (dg (2^64) x) (Dw_ws hx).2
 rw [dg_trim (by decide)] at this
 exact this
theorem T144_eq {x y:Nat} (hx:x<(2^64)^5000) (hy:y<(2^64)^5000):T144 (Dw x,Dw y,())=some (if x=y then 0 else if x<y then -1 else 1,()):=by
 show t144 S173.pre S173.F W144_7 (Dw x) (Dw y)=_
 unfold t144
 have p0:=T173_dw hx
 have p1:=T173_dw hy
 have hX:=Dw_ws hx
 have hY:=Dw_ws hy
 have hlx:=hX.2
 simp only [pre173 p0,fun173 p0,pre173 p1,fun173 p1,cond_true]
 clear p0 p1
 rcases Nat.lt_trichotomy (dg (2^64) x).length (dg (2^64) y).length with h | h | h
 ·have hr:=dg_len_lt (by decide) h
  unfold Dw
  simp (disch:=omega) only [wadd,wadd1,wadd64,wsubn,wsub1,wmul64,ilt_t,ilt_f,ile_t,ile_f,igt_t,igt_f,ige_t,ige_f,ipos_t,ipos_f,igt0_t,igt0_f,nnn,beq0_t,beq0_f,bne0_t,bne0_f,Int.toNat_natCast,Int.toNat_zero,cond_true,cond_false,Bool.and_self,Bool.true_and,Bool.and_true,Bool.false_and,Bool.and_false,Bool.not_true,Bool.not_false,Bool.or_self,Bool.true_or,Bool.or_true,Bool.false_or,Bool.or_false,Wd_len]
  rw [if_neg (by omega),if_pos hr]
 ·have hw:=W144_eq _ _ hX.1 hY.1 hlx h
  rw [nv_Dw,nv_Dw] at hw
  have e2:IntKind.wrap .i64 (((dg (2^64) x).length:Int)-1)=((dg (2^64) x).length:Int)-1:=wrapI (by omega)
  unfold Dw
  simp (disch:=omega) only [wadd,wadd1,wadd64,wsubn,wsub1,wmul64,ilt_t,ilt_f,ile_t,ile_f,igt_t,igt_f,ige_t,ige_f,ipos_t,ipos_f,igt0_t,igt0_f,nnn,beq0_t,beq0_f,bne0_t,bne0_f,Int.toNat_natCast,Int.toNat_zero,cond_true,cond_false,Bool.and_self,Bool.true_and,Bool.and_true,Bool.false_and,Bool.and_false,Bool.not_true,Bool.not_false,Bool.or_self,Bool.true_or,Bool.or_true,Bool.false_or,Bool.or_false,Wd_len,e2,hw]
  by_cases he:x=y
  ·rw [if_pos he,if_pos he]; first | rfl | skip
  ·rw [if_neg he,if_neg he]; first | rfl | skip
 ·have hr:=dg_len_lt (by decide) h
  unfold Dw
  simp (disch:=omega) only [wadd,wadd1,wadd64,wsubn,wsub1,wmul64,ilt_t,ilt_f,ile_t,ile_f,igt_t,igt_f,ige_t,ige_f,ipos_t,ipos_f,igt0_t,igt0_f,nnn,beq0_t,beq0_f,bne0_t,bne0_f,Int.toNat_natCast,Int.toNat_zero,cond_true,cond_false,Bool.and_self,Bool.true_and,Bool.and_true,Bool.false_and,Bool.and_false,Bool.not_true,Bool.not_false,Bool.or_self,Bool.true_or,Bool.or_true,Bool.false_or,Bool.or_false,Wd_len]
  rw [if_neg (by omega),if_neg (by omega)]
theorem set_drop {out a:List Nat} {i v:Nat} (hol:out.length=i) (h:i<a.length):(out++a.drop i).set i v=(out++[v])++a.drop (i+1):=by
 rw [List.set_append_right _ _ (by omega),hol,Nat.sub_self,List.drop_eq_getElem_cons h,List.set_cons_zero,List.append_assoc]
 rfl
theorem get_drop {out a:List Nat} {i:Nat} (hol:out.length=i):(out++a.drop i).getD i 0=a.getD i 0:=by
 rw [List.getD_eq_getElem?_getD,List.getElem?_append_right (by omega),hol,Nat.sub_self,List.getElem?_drop,Nat.add_zero,← List.getD_eq_getElem?_getD]
theorem W1174_eq (a b:List Nat) (ha:∀ x∈a,x<2^64) (hb:∀ x∈b,x<2^64) (hla:a.length≤1000000) (hba:b.length≤a.length) (hv:nv (2^64) b≤nv (2^64) a) :
  W1174_3 (((a.length:Int),(Wd b,((0:Int),((0:Int),((),()))))),(Wd a,()))=some (.inl (((),()),(Wd (pd (2^64) a.length (nv (2^64) a-nv (2^64) b)),()))):=by
 have key:=lfix_ind (m1174_3 S1173.pre S1173.F S157.pre S157.F S173.pre S173.F) (fun x=>a.length-x.1.2.2.2.1.toNat)
  (fun x=>∃ (i:Nat) (out:List Nat) (c:Nat),i≤a.length∧out.length=i∧(∀ x∈out,x<2^64)∧c≤1∧nv (2^64) (a.take i)+(2^64)^i*c=nv (2^64) (b.take i)+nv (2^64) out ∧
   x=(((a.length:Int),(Wd b,((c:Int),((i:Int),((),()))))),(Wd (out++a.drop i),())))
  (fun _=>.inl (((),()),(Wd (pd (2^64) a.length (nv (2^64) a-nv (2^64) b)),()))) ?_ (((a.length:Int),(Wd b,((0:Int),((0:Int),((),()))))),(Wd a,()))
  ⟨0,[],0,Nat.zero_le _,rfl,(fun x hx=>by simp at hx),by decide,by simp [nv],rfl⟩
 ·exact key
 intro L x hx hL
 obtain ⟨i,out,c,hi,hol,hod,hc,hov,rfl⟩:=hx
 unfold h1174_3
 rcases Nat.lt_or_ge i a.length with hlt | hge
 ·have hxa:=getD_lt (by decide) ha i
  have hxb:=getD_lt (by decide) hb i
  have hna:=nv_take_next (2^64) a i
  have hnb:=nv_take_next (2^64) b i
  have hzb:b.length≤i→b.getD i 0=0:=fun h=>by rw [List.getD_eq_getElem?_getD,List.getElem?_eq_none h]; rfl
  have hset:=fun v=>set_drop (v:=v) hol hlt
  have hlen:(out++a.drop i).length=a.length:=by simp; omega
  have hget:=get_drop (a:=a) hol
  generalize hda:a.getD i 0=da at *
  generalize hdb:b.getD i 0=db at *
  have hgo:∀ c' v:Nat,c'≤1→v<2^64→da+2^64*c'=db+c+v→L (((a.length:Int),(Wd b,((c':Int),(((i+1:Nat):Int),((),()))))),(Wd (out++[v]++a.drop (i+1)),()))=_:=fun c' v h1 h2 h3 =>
   hL _ ⟨i+1,out++[v],c',by omega,by simp; omega,app_lt hod h2,h1,by
    rw [hna,hnb,nv_snoc,hol,Nat.pow_succ]
    exact minus_step hov h3,rfl⟩ (by simp only [Int.toNat_natCast]; omega)
  have hgo2:=hgo (if da<db+c then 1 else 0) ((da+2^64-db-c)%2^64) (by split <;> omega) (Nat.mod_lt _ (by decide)) (by split <;> omega)
  have hF:=subF da db c hc hxa hxb
  have hP:=subP (da:Int) (db:Int) c hc
  rcases Nat.lt_or_ge i b.length with hib | hib
  ·simp (disch:=omega) only [wadd,wadd1,wadd64,wsubn,wsub1,wmul64,ilt_t,ilt_f,ile_t,ile_f,igt_t,igt_f,ige_t,ige_f,ipos_t,ipos_f,igt0_t,igt0_f,nnn,beq0_t,beq0_f,bne0_t,bne0_f,Int.toNat_natCast,Int.toNat_zero,cond_true,cond_false,Bool.and_self,Bool.true_and,Bool.and_true,Bool.false_and,Bool.and_false,Bool.not_true,Bool.not_false,Bool.or_self,Bool.true_or,Bool.or_true,Bool.false_or,Bool.or_false,Wd_len,Wd_getD,hdb,hget,hF,hP,hlen,Wd_set,hset]
   exact hgo2
  ·have h0:=hzb hib
   rw [h0] at hF hP
   simp (disch:=omega) only [wadd,wadd1,wadd64,wsubn,wsub1,wmul64,ilt_t,ilt_f,ile_t,ile_f,igt_t,igt_f,ige_t,ige_f,ipos_t,ipos_f,igt0_t,igt0_f,nnn,beq0_t,beq0_f,bne0_t,bne0_f,Int.toNat_natCast,Int.toNat_zero,cond_true,cond_false,Bool.and_self,Bool.true_and,Bool.and_true,Bool.false_and,Bool.and_false,Bool.not_true,Bool.not_false,Bool.or_self,Bool.true_or,Bool.or_true,Bool.false_or,Bool.or_false,Wd_len,Wd_getD,hget]
   have hF':S157.F ((da:Int),((0:Int),((c:Int),())))=_:=hF
   have hP':S157.pre ((da:Int),((0:Int),((c:Int),())))=true:=hP
   rw [h0] at hgo2
   simp (disch:=omega) only [wadd,wadd1,wadd64,wsubn,wsub1,wmul64,ilt_t,ilt_f,ile_t,ile_f,igt_t,igt_f,ige_t,ige_f,ipos_t,ipos_f,igt0_t,igt0_f,nnn,beq0_t,beq0_f,bne0_t,bne0_f,Int.toNat_natCast,Int.toNat_zero,cond_true,cond_false,Bool.and_self,Bool.true_and,Bool.and_true,Bool.false_and,Bool.and_false,Bool.not_true,Bool.not_false,Bool.or_self,Bool.true_or,Bool.or_true,Bool.false_or,Bool.or_false,hF',hP',hlen,Wd_set,hset]
   exact hgo2
 ·have e:i=a.length:=by omega
  subst e
  rw [List.take_length,List.take_of_length_le hba] at hov
  have hlt:=nv_lt (B:=2^64) (by decide) out hod
  rw [hol] at hlt
  have hc0:(2^64)^a.length*c=0:=by
   rcases (show c=0∨c=1 by omega) with h | h
   ·rw [h,Nat.mul_zero]
   ·rw [h,Nat.mul_one] at hov; omega
  have ho:=pd_at (B:=2^64) (v:=nv (2^64) a-nv (2^64) b) (by decide) hod hol (by omega)
  rw [List.drop_length,List.append_nil]
  simp (disch:=omega) only [wadd,wadd1,wadd64,wsubn,wsub1,wmul64,ilt_t,ilt_f,ile_t,ile_f,igt_t,igt_f,ige_t,ige_f,ipos_t,ipos_f,igt0_t,igt0_f,nnn,beq0_t,beq0_f,bne0_t,bne0_f,Int.toNat_natCast,Int.toNat_zero,cond_true,cond_false,Bool.and_self,Bool.true_and,Bool.and_true,Bool.false_and,Bool.and_false,Bool.not_true,Bool.not_false,Bool.or_self,Bool.true_or,Bool.or_true,Bool.false_or,Bool.or_false,Wd_len]
  rw [← ho]
theorem T1146_eq (l:List Nat) (hl:Ws l):T1146 (Wd l,())=some (Dw (nv (2^64) l),()):=by
 show t1146 S173.pre S173.F (Wd l)=_
 unfold t1146
 have p0:=T173_eq l hl.2
 have hle:=(trim_len l).1
 have h2:=hl.2
 have e3:decide ((((trimL l).length:Nat):Int)*8≤140737488355328)=true:=decide_eq_true (by omega)
 simp (disch:=omega) only [wadd,wadd1,wadd64,wsubn,wsub1,wmul64,ilt_t,ilt_f,ile_t,ile_f,igt_t,igt_f,ige_t,ige_f,ipos_t,ipos_f,igt0_t,igt0_f,nnn,beq0_t,beq0_f,bne0_t,bne0_f,Int.toNat_natCast,Int.toNat_zero,cond_true,cond_false,Bool.and_self,Bool.true_and,Bool.and_true,Bool.false_and,Bool.and_false,Bool.not_true,Bool.not_false,Bool.or_self,Bool.true_or,Bool.or_true,Bool.false_or,Bool.or_false,pre173 p0,fun173 p0,Wd_len,e3,List.length_replicate,List.drop_replicate,Nat.sub_self]
 rw [List.take_of_length_le (by rw [Wd_len]; exact Nat.le_refl _),List.replicate_zero,List.append_nil,trim_dg (by decide) l hl.1]
 rfl
theorem T145_eq {x y:Nat} (hx:x<(2^64)^5000) (h:y≤x):T145 (Dw x,Dw y,())=some (Dw (x-y),0,()):=by
 show t145 S1174.pre S1174.F S1146.pre S1146.F S144.pre S144.F S146.pre S146.F S173.pre S173.F S174.pre S174.F (Dw x) (Dw y)=_
 unfold t145
 have hy:y<(2^64)^5000:=Nat.lt_of_le_of_lt h hx
 have p0:=T144_eq hx hy
 have p1:=T1146_eq (dg (2^64) x) (Dw_ws hx)
 rw [nv_Dw] at p1
 have p1:T1146 (Dw x,())=some (Dw x,()):=p1
 have p2:=T173_dw hy
 have z1:decide ((if x=y then (0:Int) else if x<y then -1 else 1)<0)=false:=by
  by_cases he:x=y
  ·rw [if_pos he]; rfl
  ·rw [if_neg he,if_neg (by omega)]; rfl
 have hX:=Dw_ws hx
 have hY:=Dw_ws hy
 have hlx:=hX.2
 have p3:T1174 (Dw x,Dw y,())=some (Dw (x-y),()):=by
  show t1174 S1173.pre S1173.F S157.pre S157.F S173.pre S173.F W1174_3 (Dw x) (Dw y)=_
  unfold t1174
  have hw:=W1174_eq (dg (2^64) x) (dg (2^64) y) hX.1 hY.1 hlx (dg_len_mono (by decide) h) (by rw [nv_Dw,nv_Dw]; exact h)
  rw [nv_Dw,nv_Dw] at hw
  have q1:=T1173_eq (pd (2^64) (dg (2^64) x).length (x-y)) (by rw [pd_len]; exact hlx)
  have hlt:=dg_len_gt (B:=2^64) (by decide) x
  rw [trim_dg (by decide) _ (pd_lt (by decide) _ _),pd_nv (by decide) _ _ (by omega)] at q1
  rw [show (Dw x).length=(dg (2^64) x).length from Wd_len _]
  rw [show W1174_3 ((((dg (2^64) x).length:Int),(Dw y,((0:Int),((0:Int),((),()))))),(Dw x,()))=_ from hw]
  show (bif S1173.pre (Wd (pd (2^64) (dg (2^64) x).length (x-y)),()) then some (S1173.F (Wd (pd (2^64) (dg (2^64) x).length (x-y)),())) else none)=_
  simp only [pre1173 q1,fun1173 q1,cond_true]
  rfl
 simp only [pre144 p0,fun144 p0,cond_true,z1,cond_false,pre1146 p1,fun1146 p1,pre173 p2,fun173 p2,pre1174 p3,fun1174 p3]
def od (s:Bool) (n:Nat) (e:Int):Bool×Nat×Int:=if n=0 then (false,0,0) else (s,n/2^tz n,e+tz n)
def dyO (t:Bool×Nat×Int):Dya:=dy t.1 t.2.1 t.2.2
theorem od_cases (s:Bool) (n:Nat) (e:Int):(od s n e=(false,0,0)∧n=0)∨((od s n e).1=s∧(od s n e).2.1%2=1∧n≠0∧n=2^tz n*(od s n e).2.1∧(od s n e).2.2=e+tz n):=by
 unfold od
 by_cases h:n=0
 ·rw [if_pos h]; exact .inl ⟨rfl,h⟩
 ·right
  rw [if_neg h]
  obtain ⟨k,hk⟩:=tz_split h
  have hd:n/2^tz n=2*k+1:=by
   have:=Nat.mul_div_cancel_left (2*k+1) (Nat.two_pow_pos (tz n))
   rw [← hk] at this
   exact this
  dsimp only
  rw [hd]
  exact ⟨rfl,by omega,h,hk,rfl⟩
theorem tz_le {n k:Nat} (h:n<2^k) (h0:n≠0):tz n<k:=by
 obtain ⟨j,hj⟩:=tz_split h0
 have h1:2^tz n*1≤2^tz n*(2*j+1):=Nat.mul_le_mul_left _ (by omega)
 exact (Nat.pow_lt_pow_iff_right (a:=2) (by decide)).1 (by omega)
theorem big_lt {n k:Nat} (h:n<2^k) (hk:k≤64*2000):n<(2^64)^2000:=by
 rw [pow64]
 exact Nat.lt_of_lt_of_le h (Nat.pow_le_pow_right (by decide) hk)
theorem T143_dw {x y:Nat} (hx:x<(2^64)^5000) (hy:y<(2^64)^5000):T143 (Dw x,Dw y,())=some (Dw (x+y),()):=by
 have h1:(dg (2^64) x).length≤5000:=dg_len_le (by decide) _ _ hx
 have h2:(dg (2^64) y).length≤5000:=dg_len_le (by decide) _ _ hy
 have:=T143_eq (dg (2^64) x) (dg (2^64) y) (Dw_ws hx) (Dw_ws hy) (by rw [dg_trim (by decide)]; omega) (by rw [dg_trim (by decide)]; omega)
 rw [nv_Dw,nv_Dw] at this
 exact this
end VL
namespace VL
open Go Vx
theorem Dw_small {x:Nat} (h0:x≠0) (h:x<2^64):Dw x=(x:Int)::[]:=by
 unfold Dw
 rw [dg_pos (by decide) (by omega),Nat.mod_eq_of_lt h,Nat.div_eq_of_lt h,dg_zero]; rfl
theorem T40_fin {f:Int} {a:Nat} (h:chk f a=0) (hfin:eF f a≠fullF f):T40 (f,(a:Int),())=some (dyO (od (sF f a) (mant f a) (xpn f a)),0,()):=by
 obtain ⟨hf,h0⟩:=chk_zero h
 have ha:=pat_lt h
 show t40 S66.pre S66.F S90.pre S90.F S91.pre S91.F S92.pre S92.F f a=_
 unfold t40
 have h1:=fP_ge hf
 have h2:=fP_lt hf
 have h3:=fW_le hf
 have h4:=fX_le hf
 have h5:=fP_le hf
 have h6:=fX_ge hf
 have hE:=eF_lt hf a
 have hM:=mF_lt f a
 have hPp:2^(fP f-1)≤2^52:=Nat.pow_le_pow_right (by decide) (by omega)
 have hpp:=Nat.two_pow_pos (fP f-1)
 have p0:=T66_eq f a ha
 have p1:=T91_eq (fW f-fP f) (by omega)
 have p2:=T90_eq hf a ha
 have hr1:decide (0≤f)=true:=decide_eq_true hf.1
 have hr2:decide (f<((4:Nat):Int))=true:=decide_eq_true hf.2
 have r1:(rowOf f).1=(fW f:Int):=rfl
 have r2:(rowOf f).2.1=(fP f:Int):=rfl
 have r3:(rowOf f).2.2.1=1-(fX f:Int):=rfl
 have e1:IntKind.wrap .i64 ((fW f:Int)-(fP f:Int))=((fW f-fP f:Nat):Int):=wsubn _ _ (by omega)
 have e2:IntKind.wrap .i64 ((fP f:Int)-1)=((fP f-1:Nat):Int):=wsub1 _ (by omega)
 have e3:shlI .u64 1 ((fP f-1:Nat):Int)=((2^(fP f-1):Nat):Int):=shlI_one (by omega)
 have e4:orI .u64 (mF f a:Int) ((2^(fP f-1):Nat):Int)=((mF f a+2^(fP f-1):Nat):Int):=by
  have:=orN (a:=mF f a) (b:=1) (k:=fP f-1) hM (by omega)
  rwa [Nat.one_mul] at this
 have hfl:(((eF f a:Nat):Int)==((2^(fW f-fP f)-1:Nat):Int))=false:=by
  rw [nbeq]; exact beq_eq_false_iff_ne.2 hfin
 have ew:∀ z:Int,-1000000≤z∧z≤1000000→IntKind.wrap .i64 z=z:=fun z hz=>wrapI (by omega)
 simp only [row_at hf,r1,r2,r3,hr1,hr2,pre66 p0,fun66 p0,pre90 p2,fun90 p2,h,cond_true,bne_self_eq_false,cond_false,e1,e2,e3,e4,pre91 p1,fun91 p1,hfl,nnn]
 by_cases hz:eF f a=0
 ·have hg:(((eF f a:Nat):Int)==0)=true:=beq0_t _ hz
  have hm:mant f a=mF f a:=by unfold mant; rw [if_pos hz]
  have hx:xpn f a=1-(fX f:Int)-(fP f:Int)+1:=by unfold xpn; rw [if_pos hz,Int.add_zero]
  rw [hg,cond_true,hm,hx]
  by_cases hm0:mF f a=0
  ·rw [beq0_t _ hm0,cond_true]
   unfold od dyO
   rw [if_pos hm0,dy_zero]
  ·obtain ⟨k,hk⟩:=tz_split hm0
   have htl:=tz_le (n:=mF f a) (k:=53) (by omega) hm0
   have p3:=T92_eq (t:=tz (mF f a)) (k:=k) (by omega)
   rw [← hk] at p3
   have hq:mF f a/2^tz (mF f a)≠0:=by
    have:=Nat.mul_div_cancel_left (2*k+1) (Nat.two_pow_pos (tz (mF f a)))
    rw [← hk] at this
    omega
   have hql:=Nat.div_le_self (mF f a) (2^tz (mF f a))
   rw [beq0_f _ hm0,cond_false]
   simp only [pre92 p3,fun92 p3,cond_true,nnn,shrN (mF f a) (tz (mF f a)) (by omega)]
   rw [← Dw_small hq (by omega)]
   unfold od dyO dy
   rw [if_neg hm0]
   rw [ew 1 (by omega),ew (1-1) (by omega),ew (1-1+_) (by omega),ew (1-1+_-_) (by omega),ew (1-1+_-_+1) (by omega),ew _ (by omega)]
   rw [show (1:Int)-1+(1-(fX f:Int))-(fP f:Int)+1+(tz (mF f a):Int)=1-(fX f:Int)-(fP f:Int)+1+(tz (mF f a):Int) by omega]
 ·have hg:(((eF f a:Nat):Int)==0)=false:=beq0_f _ hz
  have hm:mant f a=mF f a+2^(fP f-1):=by unfold mant; rw [if_neg hz]
  have hx:xpn f a=1-(fX f:Int)-(fP f:Int)+1+((eF f a:Int)-1):=by unfold xpn; rw [if_neg hz]
  rw [hg,cond_false,hm,hx]
  have hm0:mF f a+2^(fP f-1)≠0:=by omega
  have hml:mF f a+2^(fP f-1)<2^54:=by omega
  generalize mF f a+2^(fP f-1)=n at *
  obtain ⟨k,hk⟩:=tz_split hm0
  have htl:=tz_le hml hm0
  have p3:=T92_eq (t:=tz n) (k:=k) (by rw [← hk]; omega)
  rw [← hk] at p3
  have hq:n/2^tz n≠0:=by
   have:=Nat.mul_div_cancel_left (2*k+1) (Nat.two_pow_pos (tz n))
   rw [← hk] at this
   omega
  have hql:=Nat.div_le_self n (2^tz n)
  rw [beq0_f _ hm0,cond_false]
  simp only [pre92 p3,fun92 p3,cond_true,nnn,shrN n (tz n) (by omega)]
  rw [← Dw_small hq (by omega)]
  unfold od dyO dy
  rw [if_neg hm0]
  rw [ew (eF f a:Int) (by omega),ew ((eF f a:Int)-1) (by omega),ew ((eF f a:Int)-1+_) (by omega),ew ((eF f a:Int)-1+_-_) (by omega),ew ((eF f a:Int)-1+_-_+1) (by omega),ew _ (by omega)]
  rw [show (eF f a:Int)-1+(1-(fX f:Int))-(fP f:Int)+1+(tz n:Int)=1-(fX f:Int)-(fP f:Int)+1+((eF f a:Int)-1)+(tz n:Int) by omega]
theorem od_bound2 (s:Bool) {n:Nat} (e:Int) (hn:n<2^53) (he:-2000≤e∧e≤2000):(od s n e).2.1<2^53∧-2500≤(od s n e).2.2∧(od s n e).2.2≤2500:=by
 rcases od_cases s n e with ⟨h,_⟩ | ⟨_,h2,h3,h4,h5⟩
 ·rw [h]; exact ⟨Nat.two_pow_pos _,by dsimp only; omega,by dsimp only; omega⟩
 ·have hle:(od s n e).2.1≤n:=by
   have:=Nat.le_mul_of_pos_left (od s n e).2.1 (Nat.two_pow_pos (tz n))
   omega
  have:=tz_le hn h3
  refine ⟨by omega,by omega,by omega⟩
end VL
namespace VL
open Go Vx
theorem qm_neg {f:Int} (hf:Fm f):qm f≤0:=by
 have:=fX_ge hf
 have:=fP_ge hf
 unfold qm; omega
end VL
namespace VL
open Go Vx
def Bd (f:Int) (n:Nat) (e:Int):Prop:=qm f≤e∧e≤6000∧n*2^(e-qm f).toNat<2^5000
theorem Bd.lt {f:Int} {n:Nat} {e:Int} (h:Bd f n e):n<2^5000:=by
 have:=Nat.le_mul_of_pos_right n (Nat.two_pow_pos (e-qm f).toNat)
 exact Nat.lt_of_le_of_lt this h.2.2
theorem Bd.od {f:Int} (hf:Fm f) {n:Nat} {e:Int} (s:Bool) (h:Bd f n e):Bd f (VL.od s n e).2.1 (VL.od s n e).2.2:=by
 rcases od_cases s n e with ⟨hz,_⟩ | ⟨_,h2,h3,h4,h5⟩
 ·rw [hz]
  exact ⟨qm_neg hf,by dsimp only; omega,by dsimp only; rw [Nat.zero_mul]; exact Nat.two_pow_pos _⟩
 ·have hle:2^(tz n+(e-qm f).toNat)≤n*2^(e-qm f).toNat:=by
   rw [Nat.pow_add]
   refine Nat.mul_le_mul_right _ ?_
   have:=Nat.le_mul_of_pos_right (2^tz n) (show 0<(VL.od s n e).2.1 by omega)
   omega
  have hlt:=(Nat.pow_lt_pow_iff_right (a:=2) (by decide)).1 (Nat.lt_of_le_of_lt hle h.2.2)
  have hq:=qm_neg hf
  have h1:=h.1
  refine ⟨by omega,by omega,?_⟩
  have e1:(VL.od s n e).2.1*2^((VL.od s n e).2.2-qm f).toNat=n*2^(e-qm f).toNat:=by
   rw [h5,show (e+(tz n:Int)-qm f).toNat=tz n+(e-qm f).toNat by omega,Nat.pow_add,← Nat.mul_assoc,Nat.mul_comm _ (2^tz n),← h4]
  rw [e1]; exact h.2.2
end VL
namespace VL
open Go Vx
structure Hid (p:Prop):Prop where
 out:p
end VL
namespace VL
open Go Vx
theorem set_same {l:List Nat} {j v:Nat} (hj:j<l.length) (h:l.getD j 0=v):l.set j v=l:=by
 rw [List.getD_eq_getElem?_getD,List.getElem?_eq_getElem hj,Option.getD_some] at h
 subst h
 exact List.set_getElem_self hj
end VL
namespace VL
open Go Vx
theorem b5000 {n k:Nat} (h:n<2^k) (hk:k≤64*5000):n<(2^64)^5000:=by
 rw [pow64]
 exact Nat.lt_of_lt_of_le h (Nat.pow_le_pow_right (by decide) hk)
theorem Dw_len0 (n:Nat):((((Dw n).length:Nat):Int)==0)=decide (n=0):=by
 by_cases h:n=0
 ·subst h; rw [Dw_zero]; rfl
 ·rw [decide_eq_false h]; exact beq0_f _ (by have:=Dw_len h; omega)
end VL
namespace VL
open Go Vx
def fk:FloatKind→Int
 | .f32=>2
 | .f64=>3
theorem fk_ok (k:FloatKind):Fm (fk k):=by cases k <;> exact ⟨by decide,by decide⟩
theorem fk_sgn (k:FloatKind):k.format.signWeight=2^(fW (fk k)-1):=by cases k <;> rfl
theorem fk_bin (k:FloatKind):k.format.binade=2^(fP (fk k)-1):=by cases k <;> rfl
theorem fk_inf (k:FloatKind):k.format.infRung=infF (fk k):=by cases k <;> rfl
theorem fk_low (k:FloatKind):k.format.leastPlace=qm (fk k):=by cases k <;> rfl
theorem fk_frac (k:FloatKind):k.format.fractionBits=fP (fk k)-1:=by cases k <;> rfl
theorem abs_parts {f:Int} (hf:Fm f) (a:Nat):absF f a%2^(fP f-1)=mF f a∧absF f a/2^(fP f-1)=eF f a:=by
 rw [abs_eq hf,Nat.add_mul_mod_self_left,Nat.mod_eq_of_lt (mF_lt f a),Nat.add_mul_div_left _ _ (Nat.two_pow_pos _),Nat.div_eq_of_lt (mF_lt f a),Nat.zero_add]
 exact ⟨rfl,rfl⟩
theorem read_eq (k:FloatKind) {a:Nat} (h:chk (fk k) a=0) :
  k.format.read a=if eF (fk k) a=fullF (fk k) then (if mF (fk k) a=0 then .infinity (sF (fk k) a) else .nan (sF (fk k) a) (mF (fk k) a)) else .number (sF (fk k) a) (mant (fk k) a) (xpn (fk k) a):=by
 obtain ⟨hf,h0⟩:=chk_zero h
 have hneg:(a/k.format.signWeight%2==1)=sF (fk k) a:=by rw [fk_sgn]; exact sgn_eq h
 have hab:a%k.format.signWeight=absF (fk k) a:=by rw [fk_sgn]; rfl
 obtain ⟨p1,p2⟩:=abs_parts hf a
 have he:=abs_eq hf a
 have hm:=mF_lt (fk k) a
 have hpp:=Nat.two_pow_pos (fP (fk k)-1)
 have hfull:=full_pos hf
 have hel:eF (fk k) a≤fullF (fk k):=by
  have:=Nat.mod_lt (a/2^(fP (fk k)-1)) (Nat.two_pow_pos (fW (fk k)-fP (fk k)))
  unfold eF fullF
  omega
 unfold Ieee.Format.read
 dsimp only
 rw [hneg,hab,fk_bin,fk_inf,fk_low]
 unfold infF
 by_cases h1:eF (fk k) a=fullF (fk k)
 ·rw [if_pos h1]
  rw [h1] at he
  have hge:2^(fP (fk k)-1)*1≤2^(fP (fk k)-1)*fullF (fk k):=Nat.mul_le_mul_left _ hfull
  rw [if_neg (by omega),if_neg (by omega)]
  by_cases h2:mF (fk k) a=0
  ·rw [if_pos h2,if_pos (by omega)]
  ·rw [if_neg h2,if_neg (by omega)]
   congr 1
   omega
 ·rw [if_neg h1]
  unfold mant xpn
  by_cases h2:eF (fk k) a=0
  ·rw [h2,Nat.mul_zero,Nat.add_zero] at he
   rw [if_pos (by omega),if_pos h2,if_pos h2,he,Int.add_zero]
   rfl
  ·have h3:2^(fP (fk k)-1)*1≤2^(fP (fk k)-1)*eF (fk k) a:=Nat.mul_le_mul_left _ (by omega)
   have h4:2^(fP (fk k)-1)*(eF (fk k) a+1)≤2^(fP (fk k)-1)*fullF (fk k):=Nat.mul_le_mul_left _ (by omega)
   rw [Nat.mul_add,Nat.mul_one] at h4
   rw [if_neg (by omega),if_pos (by omega),if_neg h2,if_neg h2,p1,p2,Nat.add_comm]
   congr 1
   unfold qm
   omega
theorem place_val {f:Int} (hf:Fm f) {a b:Nat} (ha:chk f a=0) (hb:chk f b=0) (fa:eF f a≠fullF f) (fb:eF f b≠fullF f):(place f a<place f b↔vA f a<vA f b)∧(place f a=place f b↔vA f a=vA f b):=by
 have key:∀ {a b:Nat},chk f a=0→chk f b=0→eF f a≠fullF f→eF f b≠fullF f→vA f a≤vA f b→place f a≤place f b:=fun {a b} ha hb fa fb h=>by
  rw [self_plc hf ha fa,self_plc hf hb fb]
  exact plc_mono hf (by decide) h
 have heq:place f a=place f b→vA f a=vA f b:=same_val hf
 have h1:=fun h=>key ha hb fa fb h
 have h2:=fun h=>key hb ha fb fa h
 refine ⟨⟨fun h=>?_,fun h=>?_⟩,⟨heq,fun h=>?_⟩⟩
 ·rcases Int.lt_or_le (vA f a) (vA f b) with g | g
  ·exact g
  ·have:=h2 g; omega
 ·rcases Int.lt_or_le (place f a) (place f b) with g | g
  ·exact g
  ·have g1:=h1 (Int.le_of_lt h)
   have:=heq (by omega)
   omega
 ·have g1:=h1 (by omega)
  have g2:=h2 (by omega)
  omega
theorem signed_val (f:Int) (s:Bool) (m:Nat) {e q:Int} (h1:qm f≤q) (h2:q≤e):Ieee.signed s m (e-q).toNat*(2^(q-qm f).toNat:Nat)=vI f s m e:=by
 unfold Ieee.signed vI
 have hm:m*2^(e-q).toNat*2^(q-qm f).toNat=m*2^(e-qm f).toNat:=by
  rw [Nat.mul_assoc,← Nat.pow_add]; congr 2; omega
 rw [Nat.shiftLeft_eq]
 cases s
 ·rw [if_neg (by decide),cond_false,← hm]
  simp only [Int.natCast_mul]
 ·rw [if_pos rfl,cond_true,← hm]
  simp only [Int.natCast_mul,Int.neg_mul]
theorem compare_iff {x y z w:Int} (h1:x<y↔z<w) (h2:x=y↔z=w):compare x y=compare z w:=by
 show compareOfLessAndEq x y=compareOfLessAndEq z w
 unfold compareOfLessAndEq
 by_cases g1:x<y
 ·rw [if_pos g1,if_pos (h1.1 g1)]
 ·have g3:¬ z<w:=fun h=>g1 (h1.2 h)
  rw [if_neg g1,if_neg g3]
  by_cases g2:x=y
  ·rw [if_pos g2,if_pos (h2.1 g2)]
  ·have g4:¬ z=w:=fun h=>g2 (h2.2 h)
   rw [if_neg g2,if_neg g4]
theorem compare_mul (x y:Int) {c:Nat} (hc:0<c):compare x y=compare (x*(c:Int)) (y*(c:Int)):=by
 have hc':(0:Int)<(c:Int):=by omega
 exact compare_iff ⟨fun h=>Int.mul_lt_mul_of_pos_right h hc',fun h=>Int.lt_of_mul_lt_mul_right h (by omega)⟩ ⟨fun h=>by rw [h],fun h=>Int.eq_of_mul_eq_mul_right (by omega) h⟩
theorem cmp_lt {x y:Int} (h:x<y):compare x y=.lt:=by
 show compareOfLessAndEq x y=_
 unfold compareOfLessAndEq
 rw [if_pos h]
theorem cmp_eq (x:Int):compare x x=.eq:=by
 show compareOfLessAndEq x x=_
 unfold compareOfLessAndEq
 rw [if_neg (Int.lt_irrefl x),if_pos rfl]
theorem cmp_gt {x y:Int} (h:y<x):compare x y=.gt:=by
 have h1:¬ x<y:=by omega
 have h2:¬ x=y:=by omega
 show compareOfLessAndEq x y=_
 unfold compareOfLessAndEq
 rw [if_neg h1,if_neg h2]
theorem place_full {f:Int} (hf:Fm f) {a:Nat} (h1:eF f a=fullF f) (h2:mF f a=0):place f a=bif sF f a then -(infF f:Int) else infF f:=by
 unfold place infF
 rw [abs_eq hf,h1,h2,Nat.zero_add]
theorem place_part {f:Int} (hf:Fm f) {a:Nat} (h1:eF f a≠fullF f):-(infF f:Int)<place f a∧place f a<infF f:=by
 have hel:eF f a≤fullF f:=by
  have:=Nat.mod_lt (a/2^(fP f-1)) (Nat.two_pow_pos (fW f-fP f))
  unfold eF fullF
  omega
 have he:=abs_eq hf a
 have hm:=mF_lt f a
 have h4:2^(fP f-1)*(eF f a+1)≤2^(fP f-1)*fullF f:=Nat.mul_le_mul_left _ (by omega)
 rw [Nat.mul_add,Nat.mul_one] at h4
 unfold place infF
 cases sF f a <;> simp only [cond_true,cond_false] <;> omega
theorem order_eq (k:FloatKind) {a b:Nat} (ha:chk (fk k) a=0) (hb:chk (fk k) b=0) :
  k.format.order a b=if nan (fk k) a||nan (fk k) b then none else some (compare (place (fk k) a) (place (fk k) b)):=by
 have hf:=fk_ok k
 unfold Ieee.Format.order
 rw [read_eq k ha,read_eq k hb]
 have hpos:=infF_pos hf
 by_cases fa:eF (fk k) a=fullF (fk k)
 ·rw [if_pos fa]
  by_cases ma:mF (fk k) a=0
  ·have na:nan (fk k) a=false:=by unfold nan; simp [ma]
   have pa:=place_full hf fa ma
   rw [if_pos ma,na,Bool.false_or]
   by_cases fb:eF (fk k) b=fullF (fk k)
   ·rw [if_pos fb]
    by_cases mb:mF (fk k) b=0
    ·have nb:nan (fk k) b=false:=by unfold nan; simp [mb]
     have pb:=place_full hf fb mb
     rw [if_pos mb,nb,pa,pb]
     show some (compare (sF (fk k) b).toNat (sF (fk k) a).toNat)=some _
     cases sF (fk k) a <;> cases sF (fk k) b <;> simp only [cond_true,cond_false]
     ·rw [cmp_eq]; rfl
     ·rw [cmp_gt (by omega)]; rfl
     ·rw [cmp_lt (by omega)]; rfl
     ·rw [cmp_eq]; rfl
    ·have nb:nan (fk k) b=true:=by unfold nan; simp [mb,fb]
     rw [if_neg mb,nb]; rfl
   ·have nb:nan (fk k) b=false:=(part_vals fb).1
    have pb:=place_part hf fb
    rw [if_neg fb,nb,pa]
    show some (if sF (fk k) a=true then Ordering.lt else .gt)=some _
    cases sF (fk k) a <;> simp only [cond_true,cond_false]
    ·rw [cmp_gt pb.2]; rfl
    ·rw [cmp_lt pb.1]; rfl
  ·have na:nan (fk k) a=true:=by unfold nan; simp [ma,fa]
   rw [if_neg ma,na]; rfl
 ·have na:nan (fk k) a=false:=(part_vals fa).1
  have pa:=place_part hf fa
  rw [if_neg fa,na,Bool.false_or]
  by_cases fb:eF (fk k) b=fullF (fk k)
  ·rw [if_pos fb]
   by_cases mb:mF (fk k) b=0
   ·have nb:nan (fk k) b=false:=by unfold nan; simp [mb]
    have pb:=place_full hf fb mb
    rw [if_pos mb,nb,pb]
    show some (if sF (fk k) b=true then Ordering.gt else .lt)=some _
    cases sF (fk k) b <;> simp only [cond_true,cond_false]
    ·rw [cmp_lt pa.2]; rfl
    ·rw [cmp_gt pa.1]; rfl
   ·have nb:nan (fk k) b=true:=by unfold nan; simp [mb,fb]
    rw [if_neg mb,nb]; rfl
  ·have nb:nan (fk k) b=false:=(part_vals fb).1
   rw [if_neg fb,nb]
   show some (compare (Ieee.signed (sF (fk k) a) (mant (fk k) a) (xpn (fk k) a-min (xpn (fk k) a) (xpn (fk k) b)).toNat) (Ieee.signed (sF (fk k) b) (mant (fk k) b) (xpn (fk k) b-min (xpn (fk k) a) (xpn (fk k) b)).toNat))=some _
   congr 1
   have g1:=xpn_ge (fk k) a
   have g2:=xpn_ge (fk k) b
   have hb1:qm (fk k)≤min (xpn (fk k) a) (xpn (fk k) b):=by omega
   rw [compare_mul _ _ (Nat.two_pow_pos (min (xpn (fk k) a) (xpn (fk k) b)-qm (fk k)).toNat),signed_val (fk k) _ _ hb1 (by omega),signed_val (fk k) _ _ hb1 (by omega)]
   obtain ⟨c1,c2⟩:=place_val hf ha hb fa fb
   exact (compare_iff c1 c2).symm
end VL
namespace VL
open Go Vx
theorem word_mk (k:FloatKind) (neg:Bool) (r:Nat):k.format.word neg r=mkF (fk k) neg r:=by
 unfold Ieee.Format.word mkF
 rw [fk_sgn]
 cases neg
 ·rw [if_neg (by decide),cond_false,Nat.add_zero]
 ·rw [if_pos rfl,cond_true,Nat.add_comm]
theorem furM0 (neg odd:Bool) (rest:Nat):furM 0 neg odd rest=if rest=2 then odd else decide (2≤rest):=rfl
theorem log2_zero_lt (n:Nat):n<2^(n.log2+1):=by
 by_cases h:n=0
 ·subst h; decide
 ·have:=blen_lt n
  unfold blen at this
  rw [if_neg h] at this
  exact this
theorem cut_even (neg:Bool) (n drop:Nat):Ieee.Toward.even.cut neg n drop=cutJ 0 neg n drop:=by
 unfold Ieee.Toward.cut cutJ
 dsimp only
 rw [Nat.shiftLeft_eq,Nat.one_mul]
 by_cases hd:drop≤n.log2+2
 ·rw [Nat.min_eq_left hd,furM0]
  generalize hq:n/2^drop=q
  have hr:=Nat.mod_lt n (Nat.two_pow_pos drop)
  generalize n%2^drop=r at *
  by_cases h0:drop=0
  ·subst h0
   have:r=0:=by rw [Nat.pow_zero] at hr; omega
   subst this
   rfl
  ·have hp:2^drop=2*2^(drop-1):=by rw [Nat.mul_comm,← Nat.pow_succ]; congr 1; omega
   have hpp:=Nat.two_pow_pos (drop-1)
   have hcl:clsR r drop=(if r=0 then 0 else if r<2^(drop-1) then 1 else if r=2^(drop-1) then 2 else 3):=rfl
   rw [hp] at hr ⊢
   generalize clsR r drop=C at *
   generalize 2^(drop-1)=H at *
   by_cases c0:r=0
   ·rw [if_pos c0] at hcl
    subst hcl
    subst c0
    have e1:decide (2*H<2*0)=false:=decide_eq_false (by omega)
    have e2:(2*H==2*0)=false:=beq_eq_false_iff_ne.2 (by omega)
    rw [e1,e2]
    rfl
   ·rw [if_neg c0] at hcl
    by_cases c1:r<H
    ·rw [if_pos c1] at hcl
     subst hcl
     have e1:decide (2*H<2*r)=false:=decide_eq_false (by omega)
     have e2:(2*H==2*r)=false:=beq_eq_false_iff_ne.2 (by omega)
     rw [e1,e2]
     rfl
    ·rw [if_neg c1] at hcl
     by_cases c2:r=H
     ·rw [if_pos c2] at hcl
      subst hcl
      subst c2
      have e1:decide (2*r<2*r)=false:=decide_eq_false (by omega)
      rw [e1,beq_self_eq_true,if_pos rfl,Bool.false_or,Bool.true_and]
      by_cases ho:q%2=1
      ·rw [ho,if_pos ⟨by decide,by rfl⟩]; rfl
      ·rw [if_neg (fun h=>by simpa [ho] using h.2),show q%2=0 by omega]; rfl
     ·rw [if_neg c2] at hcl
      subst hcl
      have e1:decide (2*H<2*r)=true:=decide_eq_true (by omega)
      rw [e1,Bool.true_or,if_pos ⟨by decide,by rfl⟩]; rfl
 ·have hlt:=log2_zero_lt n
  have h1:n<2^(n.log2+2):=Nat.lt_trans hlt (Nat.pow_lt_pow_right (by decide) (by omega))
  have h2:n<2^(drop-1):=Nat.lt_of_lt_of_le hlt (Nat.pow_le_pow_right (by decide) (by omega))
  have h3:n<2^drop:=Nat.lt_of_lt_of_le hlt (Nat.pow_le_pow_right (by decide) (by omega))
  have h4:2*n<2^(n.log2+2):=by
   rw [show n.log2+2=(n.log2+1)+1 by omega,Nat.pow_succ]; omega
  rw [Nat.min_eq_right (by omega),Nat.div_eq_of_lt h1,Nat.mod_eq_of_lt h1,Nat.div_eq_of_lt h3,Nat.mod_eq_of_lt h3]
  have e1:decide (2^(n.log2+2)<2*n)=false:=decide_eq_false (by omega)
  have e2:(2^(n.log2+2)==2*n)=false:=beq_eq_false_iff_ne.2 (by omega)
  rw [e1,e2,furM0]
  unfold clsR
  by_cases c0:n=0
  ·subst c0; rfl
  ·rw [if_neg c0,if_pos h2]; rfl
theorem cutJ_zero (neg:Bool) (n:Nat):cutJ 0 neg n 0=n:=by
 unfold cutJ
 rw [Nat.pow_zero,Nat.mod_one,Nat.div_one]
 rfl
theorem cutJ_exact (m:Int) (neg:Bool) (n j:Nat):cutJ m neg (n*2^j) j=n:=by
 unfold cutJ
 rw [Nat.mul_mod_left,Nat.mul_div_cancel _ (Nat.two_pow_pos j)]
 rw [if_neg (fun h=>h.1 rfl)]
theorem cutJ_scale (m:Int) (neg:Bool) (n:Nat) {d k:Nat} (hd:1≤d):cutJ m neg (n*2^k) (k+d)=cutJ m neg n d:=by
 unfold cutJ
 have e1:n*2^k/2^(k+d)=n/2^d:=by
  rw [Nat.pow_add,← Nat.div_div_eq_div_mul,Nat.mul_div_cancel _ (Nat.two_pow_pos k)]
 have e2:n*2^k%2^(k+d)=2^k*(n%2^d):=by
  rw [Nat.pow_add,Nat.mul_comm n,Nat.mul_mod_mul_left]
 rw [e1,e2,cls_scale hd]
theorem nearest_eq (k:FloatKind) (neg:Bool) {mag:Nat} (h0:mag≠0) {place:Int} (hp:qm (fk k)≤place) :
  k.format.nearest neg mag place=mkF (fk k) neg (rndM (fk k) 0 neg (mag*2^(place-qm (fk k)).toNat) (qm (fk k))).1:=by
 have hf:=fk_ok k
 have hP:=fP_ge hf
 obtain ⟨D,hD⟩:=Int.eq_ofNat_of_zero_le (show 0≤place-qm (fk k) by omega)
 have hN0:mag*2^D≠0:=Nat.mul_ne_zero h0 (Nat.ne_of_gt (Nat.two_pow_pos D))
 have hbl:blen (mag*2^D)=mag.log2+1+D:=by
  rw [Nat.mul_comm,← Nat.zero_add (2^D*mag),blen_split (Nat.two_pow_pos D) (by omega)]
  unfold blen
  rw [if_neg h0]; omega
 rw [hD,Int.toNat_natCast,rndM_mu hf 0 neg hN0]
 have hup:limM (fk k) 0 neg=infF (fk k):=rfl
 unfold Ieee.Format.nearest
 rw [if_neg h0,word_mk,fk_low,fk_frac,fk_bin,fk_inf]
 congr 1
 have key:(max (place+(mag.log2:Int)-((fP (fk k)-1:Nat):Int)) (qm (fk k))-qm (fk k)).toNat*2^(fP (fk k)-1) +
   Ieee.Toward.even.cut neg (mag <<< (place-max (place+(mag.log2:Int)-((fP (fk k)-1:Nat):Int)) (qm (fk k))).toNat) (max (place+(mag.log2:Int)-((fP (fk k)-1:Nat):Int)) (qm (fk k))-place).toNat=muM (fk k) 0 neg (mag*2^D):=by
  rw [cut_even,Nat.shiftLeft_eq]
  unfold muM
  by_cases hs:mag*2^D<2^fP (fk k)
  ·rw [if_pos hs]
   have hb:=blen_bound hs
   rw [show max (place+(mag.log2:Int)-((fP (fk k)-1:Nat):Int)) (qm (fk k))=qm (fk k) by omega,Int.sub_self,Int.toNat_zero,Nat.zero_mul,Nat.zero_add,hD,Int.toNat_natCast,show (qm (fk k)-place).toNat=0 by omega,cutJ_zero]
  ·rw [if_neg hs]
   have hb:fP (fk k)<blen (mag*2^D):=by
    rcases Nat.lt_or_ge (fP (fk k)) (blen (mag*2^D)) with h | h
    ·exact h
    ·exact absurd (Nat.lt_of_lt_of_le (blen_lt _) (Nat.pow_le_pow_right (by decide) h)) hs
   rw [hbl] at hb ⊢
   obtain ⟨j,hj⟩:∃ j,mag.log2+1+D-fP (fk k)=j:=⟨_,rfl⟩
   have hl:max (place+(mag.log2:Int)-((fP (fk k)-1:Nat):Int)) (qm (fk k))=qm (fk k)+(j:Int):=by omega
   rw [hl,hj,show qm (fk k)+(j:Int)-qm (fk k)=(j:Int) by omega,Int.toNat_natCast]
   congr 1
   by_cases hDj:j≤D
   ·rw [show (qm (fk k)+(j:Int)-place).toNat=0 by omega,show (place-(qm (fk k)+(j:Int))).toNat=D-j by omega,cutJ_zero]
    have e:mag*2^D=(mag*2^(D-j))*2^j:=by rw [Nat.mul_assoc,← Nat.pow_add]; congr 2; omega
    rw [e,cutJ_exact]
   ·rw [show (place-(qm (fk k)+(j:Int))).toNat=0 by omega,Nat.pow_zero,Nat.mul_one,show (qm (fk k)+(j:Int)-place).toNat=j-D by omega]
    have e:=cutJ_scale 0 neg mag (d:=j-D) (k:=D) (by omega)
    rw [show D+(j-D)=j by omega] at e
    exact e.symm
 rw [key,hup]
 by_cases h:infF (fk k)≤muM (fk k) 0 neg (mag*2^D)
 ·rw [if_pos h,Nat.min_eq_right h]
 ·rw [if_neg h,Nat.min_eq_left (by omega)]
theorem rnd_nearest (k:FloatKind) (neg:Bool) {mag:Nat} (h0:mag≠0) {place:Int} (hp:qm (fk k)≤place):k.format.nearest neg mag place=(rndN (fk k) 0 neg mag place false).1:=by
 rw [nearest_eq k neg h0 hp,rnd_qm (fk_ok k) 0 neg h0 hp]
theorem nearest_zero (k:FloatKind) (neg:Bool) (place:Int):k.format.nearest neg 0 place=sgnF (fk k) neg:=by
 unfold Ieee.Format.nearest
 rw [if_pos rfl,word_mk,← add_sgn,Nat.zero_add]
theorem near (k:FloatKind) (T:Int) (z:Bool) {e:Int} (he:qm (fk k)≤e) :
  k.format.nearest (if T=0 then z else decide (T<0)) T.natAbs e=if T=0 then sgnF (fk k) z else (rndN (fk k) 0 (decide (T<0)) T.natAbs e false).1:=by
 by_cases h:T=0
 ·rw [if_pos h,if_pos h,h]
  exact nearest_zero k z e
 ·rw [if_neg h,if_neg h]
  exact rnd_nearest k _ (by omega) he
theorem sum_write (k:FloatKind) (s:Bool) (m:Nat) (i:Int) (t:Bool) (n:Nat) (j:Int) (hi:qm (fk k)≤i) (hj:qm (fk k)≤j) :
  ((Ieee.Datum.number s m i).sum (.number t n j)).map k.format.write=some (sumBits (fk k) 0 s m i t n j).1:=by
 have hmin:min i j=(if i≤j then i else j):=by split <;> omega
 show some (k.format.nearest (if Ieee.signed s m (i-min i j).toNat+Ieee.signed t n (j-min i j).toNat=0 then s&&t else decide (Ieee.signed s m (i-min i j).toNat+Ieee.signed t n (j-min i j).toNat<0)) (Ieee.signed s m (i-min i j).toNat+Ieee.signed t n (j-min i j).toNat).natAbs (min i j))=_
 congr 1
 have hq:qm (fk k)≤min i j:=by omega
 rw [near k _ _ hq]
 unfold sumBits Ieee.signed
 rw [hmin]
 rw [Nat.shiftLeft_eq,Nat.shiftLeft_eq]
 dsimp only
 generalize (if i≤j then i else j)=e at *
 generalize m*2^(i-e).toNat=A
 generalize n*2^(j-e).toNat=B
 have eA:∀ {T:Int} {s:Bool} {r:Nat},decide (T<0)=s→T.natAbs=r→(rndN (fk k) 0 (decide (T<0)) T.natAbs e false).1=(rndN (fk k) 0 s r e false).1:=fun h1 h2=>by rw [h1,h2]
 cases s <;> cases t
 ·show (if (A:Int)+(B:Int)=0 then sgnF (fk k) false else (rndN (fk k) 0 (decide ((A:Int)+(B:Int)<0)) ((A:Int)+(B:Int)).natAbs e false).1)=(if A+B=0 then (sgnF (fk k) false,0) else rndN (fk k) 0 false (A+B) e false).1
  by_cases h:A+B=0
  ·have h2:(A:Int)+(B:Int)=0:=by omega
   rw [if_pos h,if_pos h2]
  ·have h2:¬ (A:Int)+(B:Int)=0:=by omega
   rw [if_neg h,if_neg h2]
   exact eA (decide_eq_false (by omega)) (by omega)
 ·show (if (A:Int) + -(B:Int)=0 then sgnF (fk k) false else (rndN (fk k) 0 (decide ((A:Int) + -(B:Int)<0)) ((A:Int) + -(B:Int)).natAbs e false).1)=(if A=B then (sgnF (fk k) false,0) else if B<A then rndN (fk k) 0 false (A-B) e false else rndN (fk k) 0 true (B-A) e false).1
  by_cases h:A=B
  ·have h2:(A:Int) + -(B:Int)=0:=by omega
   rw [if_pos h,if_pos h2]
  ·have h2:¬ (A:Int) + -(B:Int)=0:=by omega
   rw [if_neg h,if_neg h2]
   by_cases h3:B<A
   ·rw [if_pos h3]
    exact eA (decide_eq_false (by omega)) (by omega)
   ·rw [if_neg h3]
    exact eA (decide_eq_true (by omega)) (by omega)
 ·show (if -(A:Int)+(B:Int)=0 then sgnF (fk k) false else (rndN (fk k) 0 (decide (-(A:Int)+(B:Int)<0)) (-(A:Int)+(B:Int)).natAbs e false).1)=(if A=B then (sgnF (fk k) false,0) else if B<A then rndN (fk k) 0 true (A-B) e false else rndN (fk k) 0 false (B-A) e false).1
  by_cases h:A=B
  ·have h2:-(A:Int)+(B:Int)=0:=by omega
   rw [if_pos h,if_pos h2]
  ·have h2:¬ -(A:Int)+(B:Int)=0:=by omega
   rw [if_neg h,if_neg h2]
   by_cases h3:B<A
   ·rw [if_pos h3]
    exact eA (decide_eq_true (by omega)) (by omega)
   ·rw [if_neg h3]
    exact eA (decide_eq_false (by omega)) (by omega)
 ·show (if -(A:Int) + -(B:Int)=0 then sgnF (fk k) true else (rndN (fk k) 0 (decide (-(A:Int) + -(B:Int)<0)) (-(A:Int) + -(B:Int)).natAbs e false).1)=(if A+B=0 then (sgnF (fk k) true,0) else rndN (fk k) 0 true (A+B) e false).1
  by_cases h:A+B=0
  ·have h2:-(A:Int) + -(B:Int)=0:=by omega
   rw [if_pos h,if_pos h2]
  ·have h2:¬ -(A:Int) + -(B:Int)=0:=by omega
   rw [if_neg h,if_neg h2]
   exact eA (decide_eq_true (by omega)) (by omega)
def canB (f:Int) (o:Option Nat):Nat:=o.getD (nanF f)
theorem inf_pat (k:FloatKind) {a:Nat} (h:chk (fk k) a=0) (h1:eF (fk k) a=fullF (fk k)) (h2:mF (fk k) a=0):k.format.word (sF (fk k) a) k.format.infRung=a:=by
 have hf:=fk_ok k
 rw [word_mk,fk_inf]
 have:=pat_eq h
 rw [abs_eq hf,h1,h2,Nat.zero_add] at this
 unfold mkF infF
 exact this.symm
theorem add_eq (k:FloatKind) {a b:Nat} (ha:chk (fk k) a=0) (hb:chk (fk k) b=0):(addA (fk k) 0 a b).1=(canB (fk k) (fop .add k a b):Nat)∧(addA (fk k) 0 a b).2.2.1=0:=by
 have hf:=fk_ok k
 unfold addA
 rw [if_pos hf,if_pos ⟨by decide,by decide⟩,if_pos ⟨ha,hb⟩]
 show (addR (fk k) 0 a b).1=(canB (fk k) (((k.format.read a).sum (k.format.read b)).map k.format.write):Nat)∧_
 rw [read_eq k ha,read_eq k hb]
 unfold addR
 have sn:∀ x,snan (fk k) x=true→nan (fk k) x=true:=fun x h=>by unfold snan at h; simp only [Bool.and_eq_true] at h; exact h.1
 by_cases na:nan (fk k) a=true
 ·have h1:eF (fk k) a=fullF (fk k)∧mF (fk k) a≠0:=by unfold nan at na; simpa using na
  rw [if_pos h1.1,if_neg h1.2,na,Bool.true_or]
  have:∀ d,((Ieee.Datum.nan (sF (fk k) a) (mF (fk k) a)).sum d).map k.format.write=none:=fun d=>rfl
  rw [this]
  cases snan (fk k) a||snan (fk k) b <;> exact ⟨rfl,rfl⟩
 ·have na:nan (fk k) a=false:=by simpa using na
  rw [na,Bool.false_or]
  by_cases nb:nan (fk k) b=true
  ·have h1:eF (fk k) b=fullF (fk k)∧mF (fk k) b≠0:=by unfold nan at nb; simpa using nb
   have this:∀ d:Ieee.Datum,(d.sum (Ieee.Datum.nan (sF (fk k) b) (mF (fk k) b))).map k.format.write=none:=fun d=>by cases d <;> rfl
   rw [if_pos (c:=eF (fk k) b=_) h1.1,if_neg (c:=mF (fk k) b=0) h1.2,this,nb]
   cases snan (fk k) a||snan (fk k) b <;> exact ⟨rfl,rfl⟩
  ·have nb:nan (fk k) b=false:=by simpa using nb
   have sa:=snan_nan na
   have sb:=snan_nan nb
   rw [nb,sa,sb,Bool.or_self,cond_false,cond_false]
   by_cases fa:eF (fk k) a=fullF (fk k)
   ·have ma:mF (fk k) a=0:=by
     unfold nan at na; rw [fa] at na; simpa using na
    have ia:isInf (fk k) a=true:=by rw [(full_vals fa).2.2,ma]; rfl
    rw [if_pos fa,if_pos ma,ia,Bool.true_and]
    by_cases fb:eF (fk k) b=fullF (fk k)
    ·have mb:mF (fk k) b=0:=by
      unfold nan at nb; rw [fb] at nb; simpa using nb
     have ib:isInf (fk k) b=true:=by rw [(full_vals fb).2.2,mb]; rfl
     rw [if_pos fb,if_pos mb,ib,Bool.true_and]
     show _∧_
     by_cases hs:sF (fk k) a=sF (fk k) b
     ·have e:(Ieee.Datum.infinity (sF (fk k) a)).sum (.infinity (sF (fk k) b))=some (.infinity (sF (fk k) a)):=by
       show (if sF (fk k) a=sF (fk k) b then _ else _)=_
       rw [if_pos hs]
      rw [e,beq_iff_eq.2 hs]
      refine ⟨?_,rfl⟩
      show (a:Int)=((k.format.word (sF (fk k) a) k.format.infRung:Nat):Int)
      rw [inf_pat k ha fa ma]
     ·have e:(Ieee.Datum.infinity (sF (fk k) a)).sum (.infinity (sF (fk k) b))=none:=by
       show (if sF (fk k) a=sF (fk k) b then _ else _)=_
       rw [if_neg hs]
      rw [e,beq_eq_false_iff_ne.2 hs]
      exact ⟨rfl,rfl⟩
    ·have ib:isInf (fk k) b=false:=(part_vals fb).2.2
     rw [if_neg fb,ib,Bool.false_and,cond_false,cond_true]
     refine ⟨?_,rfl⟩
     show (a:Int)=((k.format.word (sF (fk k) a) k.format.infRung:Nat):Int)
     rw [inf_pat k ha fa ma]
   ·have ia:isInf (fk k) a=false:=(part_vals fa).2.2
    rw [if_neg fa,ia,Bool.false_and,Bool.false_and,cond_false,cond_false]
    by_cases fb:eF (fk k) b=fullF (fk k)
    ·have mb:mF (fk k) b=0:=by
      unfold nan at nb; rw [fb] at nb; simpa using nb
     have ib:isInf (fk k) b=true:=by rw [(full_vals fb).2.2,mb]; rfl
     rw [if_pos fb,if_pos mb,ib,cond_true]
     refine ⟨?_,rfl⟩
     show (b:Int)=((k.format.word (sF (fk k) b) k.format.infRung:Nat):Int)
     rw [inf_pat k hb fb mb]
    ·have ib:isInf (fk k) b=false:=(part_vals fb).2.2
     rw [if_neg fb,ib,cond_false,sum_write k _ _ _ _ _ _ (xpn_ge (fk k) a) (xpn_ge (fk k) b)]
     exact ⟨rfl,rfl⟩
theorem neg_parts {f:Int} (hf:Fm f) (b:Nat):eF f (negF f b)=eF f b∧mF f (negF f b)=mF f b:=by
 obtain ⟨p1,p2⟩:=abs_parts hf b
 obtain ⟨q1,q2⟩:=abs_parts hf (negF f b)
 rw [neg_abs] at q1 q2
 exact ⟨by rw [← p2,← q2],by rw [← p1,← q1]⟩
theorem read_neg (k:FloatKind) {b:Nat} (hb:chk (fk k) b=0):(k.format.read b).opposite=k.format.read (negF (fk k) b):=by
 have hf:=fk_ok k
 have hn:=neg_chk hf b
 obtain ⟨e1,e2⟩:=neg_parts hf b
 rw [read_eq k hb,read_eq k hn,e1,e2,neg_sgn]
 have e3:mant (fk k) (negF (fk k) b)=mant (fk k) b:=by unfold mant; rw [e1,e2]
 have e4:xpn (fk k) (negF (fk k) b)=xpn (fk k) b:=by unfold xpn; rw [e1]
 rw [e3,e4]
 by_cases h1:eF (fk k) b=fullF (fk k)
 ·rw [if_pos h1,if_pos h1]
  by_cases h2:mF (fk k) b=0
  ·rw [if_pos h2,if_pos h2]; rfl
  ·rw [if_neg h2,if_neg h2]; rfl
 ·rw [if_neg h1,if_neg h1]; rfl
theorem sub_add (k:FloatKind) (a:Nat) {b:Nat} (hb:chk (fk k) b=0):fop .sub k a b=fop .add k a (negF (fk k) b):=by
 show ((k.format.read a).sum (k.format.read b).opposite).map k.format.write=((k.format.read a).sum (k.format.read (negF (fk k) b))).map k.format.write
 rw [read_neg k hb]
theorem sub_eq (k:FloatKind) {a b:Nat} (ha:chk (fk k) a=0) (hb:chk (fk k) b=0):(subA (fk k) 0 a b).1=(canB (fk k) (fop .sub k a b):Nat)∧(subA (fk k) 0 a b).2.2.1=0:=by
 unfold subA
 rw [if_pos hb,sub_add k a hb]
 exact add_eq k ha (neg_chk (fk_ok k) b)
theorem write_num (k:FloatKind) {d:Ieee.Datum} (h:d.isNaN=false):chk (fk k) (k.format.write d)=0∧nan (fk k) (k.format.write d)=false:=by
 have hf:=fk_ok k
 have key:∀ s r,r≤infF (fk k)→chk (fk k) (k.format.word s r)=0∧nan (fk k) (k.format.word s r)=false:=fun s r hr=>by
  have hroom:=inf_room hf
  have hlt:r<2^(fW (fk k)-1):=by omega
  rw [word_mk]
  refine ⟨mk_chk hf s hlt,nan_of_le hf ?_⟩
  rw [mk_abs s hlt]; exact hr
 cases d with
 | nan s t=>cases h
 | infinity s=>exact key s _ (by rw [fk_inf]; exact Nat.le_refl _)
 | number s m e =>
  show chk (fk k) (k.format.nearest s m e)=0∧nan (fk k) (k.format.nearest s m e)=false
  unfold Ieee.Format.nearest
  split
  ·exact key s 0 (Nat.zero_le _)
  ·exact key s _ (by rw [fk_inf]; exact Nat.min_le_right _ _)
theorem sum_num {d e r:Ieee.Datum} (h:d.sum e=some r):r.isNaN=false:=by
 cases d <;> cases e <;> first | (cases h; done) | skip
 ·cases h; rfl
 ·cases h; rfl
 ·cases h; rfl
 ·rename_i s t
  have h:(if s=t then some (Ieee.Datum.infinity s) else none)=some r:=h
  split at h
  ·cases h; rfl
  ·cases h
end VL
namespace VL
open Go Vx
theorem a32 {x:Nat} (h:x<2^64):andI .u64 (x:Int) 4294967295=((x%2^32:Nat):Int):=andI_mask (n:=32) h (by decide)
theorem s32 (x:Nat):shrI .u64 (x:Int) 32=((x/2^32:Nat):Int):=by
 have h:=shrI_u64 (a:=(x:Int)) 32 (by decide)
 rw [show ((32:Nat):Int)=32 from rfl] at h
 rw [h]; norm_cast
theorem mul_hi {x0 x1 y0 y1:Nat} (h0:x0<2^32) (h1:x1<2^32) (k0:y0<2^32) (k1:y1<2^32) :
  ((x1*y1%2^64+(x1*y0%2^64+x0*y0%2^64/2^32)%2^64/2^32)%2^64+((x1*y0%2^64+x0*y0%2^64/2^32)%2^64%2^32+x0*y1%2^64)%2^64/2^32)%2^64=(x0+2^32*x1)*(y0+2^32*y1)/2^64:=by
 have b00:x0*y0≤(2^32-1)*(2^32-1):=Nat.mul_le_mul (by omega) (by omega)
 have b01:x0*y1≤(2^32-1)*(2^32-1):=Nat.mul_le_mul (by omega) (by omega)
 have b10:x1*y0≤(2^32-1)*(2^32-1):=Nat.mul_le_mul (by omega) (by omega)
 have b11:x1*y1≤(2^32-1)*(2^32-1):=Nat.mul_le_mul (by omega) (by omega)
 have e1:x0*(2^32*y1)=2^32*(x0*y1):=Nat.mul_left_comm _ _ _
 have e2:2^32*x1*y0=2^32*(x1*y0):=Nat.mul_assoc _ _ _
 have e3:2^32*x1*(2^32*y1)=2^64*(x1*y1):=by
  rw [Nat.mul_assoc,Nat.mul_left_comm x1,← Nat.mul_assoc]
 rw [Nat.add_mul,Nat.mul_add,Nat.mul_add,e1,e2,e3]
 generalize x0*y0=a at *
 generalize x0*y1=b at *
 generalize x1*y0=c at *
 generalize x1*y1=d at *
 have ha:a%2^64=a:=Nat.mod_eq_of_lt (by omega)
 have hb:b%2^64=b:=Nat.mod_eq_of_lt (by omega)
 have hc:c%2^64=c:=Nat.mod_eq_of_lt (by omega)
 have hd:d%2^64=d:=Nat.mod_eq_of_lt (by omega)
 rw [ha,hb,hc,hd]
 have ht:(c+a/2^32)%2^64=c+a/2^32:=Nat.mod_eq_of_lt (by omega)
 rw [ht]
 generalize hT:c+a/2^32=t
 have hw:(t%2^32+b)%2^64=t%2^32+b:=Nat.mod_eq_of_lt (by omega)
 rw [hw]
 have hq:(d+t/2^32)%2^64=d+t/2^32:=Nat.mod_eq_of_lt (by omega)
 rw [hq]
 omega
theorem T315_eq {x y:Nat} (hx:x<2^64) (hy:y<2^64):T315 ((x:Int),(y:Int),())=some (((x*y/2^64:Nat):Int),((x*y%2^64:Nat):Int),()):=by
 show t315 (x:Int) (y:Int)=_
 unfold t315
 dsimp only
 rw [a32 hx,a32 hy,s32 x,s32 y]
 have hm:∀ z:Nat,z%2^64<2^64:=fun z=>Nat.mod_lt _ (by decide)
 have am:∀ z:Nat,andI .u64 ((z%2^64:Nat):Int) 4294967295=((z%2^64%2^32:Nat):Int):=fun z=>a32 (hm z)
 have wm:∀ a b:Nat,IntKind.wrap .u64 ((a:Int)*(b:Int))=((a*b%2^64:Nat):Int):=fun a b=>by rw [← Int.natCast_mul]; exact wrapN _
 have wa:∀ a b:Nat,IntKind.wrap .u64 ((a:Int)+(b:Int))=(((a+b)%2^64:Nat):Int):=fun a b=>by rw [← Int.natCast_add]; exact wrapN _
 simp only [wm,wa,s32,am]
 have e:=mul_hi (x0:=x%2^32) (x1:=x/2^32) (y0:=y%2^32) (y1:=y/2^32) (by omega) (by omega) (by omega) (by omega)
 rw [Nat.mod_add_div,Nat.mod_add_div] at e
 rw [e]
theorem T316_eq {x y:Nat} (hx:x<2^64) (hy:y<2^64):T316 ((x:Int),(y:Int),())=some (Wi (x*y),()):=by
 show t316 S315.pre S315.F (x:Int) (y:Int)=_
 unfold t316
 have p:=T315_eq hx hy
 simp only [pre315 p,fun315 p,cond_true]
 rfl
def zro (f:Int) (a:Nat):Bool:=eF f a==0&&mF f a==0
theorem cls_zro {f:Int} (hf:Fm f) (a:Nat):(cls f a==5||cls f a==6)=zro f a:=by
 have hp:=full_pos hf
 have hne:(eF f a==fullF f&&eF f a==0)=false:=by
  cases h:eF f a==fullF f
  ·rfl
  ·have:=beq_iff_eq.1 h
   rw [Bool.true_and,this]
   exact beq_eq_false_iff_ne.2 (by omega)
 unfold cls zro
 cases h1:eF f a==fullF f <;> cases h2:eF f a==0 <;> rw [h1,h2] at hne <;> cases mF f a==0 <;> cases sF f a <;> cases mF f a/2^(fP f-2) != 0 <;> first | rfl | cases hne
theorem xpn_one {f:Int} (hf:Fm f) {a:Nat} (h:eF f a=0) :
  IntKind.wrap .i64 (IntKind.wrap .i64 (IntKind.wrap .i64 (IntKind.wrap .i64 (IntKind.wrap .i64 (1:Int)-1)+(1-(fX f:Int)))-(fP f:Int))+1)=xpn f a:=by
 have h3:=fP_le hf
 have h4:=fX_le hf
 unfold xpn
 rw [if_pos h,show IntKind.wrap .i64 (1:Int)=1 from rfl,wrapI (n:=(1:Int)-1) (by omega),wrapI (n:=(1:Int)-1+(1-(fX f:Int))) (by omega),wrapI (n:=(1:Int)-1+(1-(fX f:Int))-(fP f:Int)) (by omega),wrapI (by omega)]
 omega
theorem xpn_exp {f:Int} (hf:Fm f) {a:Nat} (h:eF f a≠0) :
  IntKind.wrap .i64 (IntKind.wrap .i64 (IntKind.wrap .i64 (IntKind.wrap .i64 (IntKind.wrap .i64 (eF f a:Int)-1)+(1-(fX f:Int)))-(fP f:Int))+1)=xpn f a:=by
 have h3:=fP_le hf
 have h4:=fX_le hf
 have hE:=eF_lt hf a
 unfold xpn
 rw [if_neg h,wrapI (n:=(eF f a:Int)) (by omega),wrapI (n:=(eF f a:Int)-1) (by omega),wrapI (n:=(eF f a:Int)-1+(1-(fX f:Int))) (by omega),wrapI (n:=(eF f a:Int)-1+(1-(fX f:Int))-(fP f:Int)) (by omega),wrapI (by omega)]
 omega
theorem mant_or {f:Int} (hf:Fm f) (a:Nat):orI .u64 (mF f a:Int) (shlI .u64 1 (IntKind.wrap .i64 ((fP f:Int)-1)))=((mF f a+2^(fP f-1):Nat):Int):=by
 have h1:=fP_ge hf
 have h3:=fP_le hf
 have hM:=mF_lt f a
 have hPp:2^(fP f-1)≤2^52:=Nat.pow_le_pow_right (by decide) (by omega)
 have e0:IntKind.wrap .i64 ((fP f:Int)-1)=((fP f-1:Nat):Int):=wsub1 _ (by omega)
 have e3:shlI .u64 1 ((fP f-1:Nat):Int)=((2^(fP f-1):Nat):Int):=shlI_one (by omega)
 rw [e0,e3]
 have:=orN (a:=mF f a) (b:=1) (k:=fP f-1) hM (by omega)
 rwa [Nat.one_mul] at this
theorem T350_ok {f:Int} {a:Nat} (h:chk f a=0):T350 (f,rowOf f,(a:Int),())=some ((cls f a,sF f a,(mant f a:Int),xpn f a,()),0,()):=by
 obtain ⟨hf,h0⟩:=chk_zero h
 have ha:=pat_lt h
 show t350 S65.pre S65.F S98.pre S98.F f (rowOf f) a=_
 unfold t350
 have p1:=T65_ok ha h
 have p2:=T98_ok h
 have h1:=fP_ge hf
 have h3:=fP_le hf
 have r1:(rowOf f).2.1=(fP f:Int):=rfl
 have r2:(rowOf f).2.2.1=1-(fX f:Int):=rfl
 have e0:decide (0≤IntKind.wrap .i64 ((fP f:Int)-1))=true:=by
  rw [wsub1 _ (by omega)]; exact nnn _
 simp only [pre65 p1,fun65 p1,pre98 p2,fun98 p2,cond_true,bne_self_eq_false,cond_false,r1,r2,e0]
 by_cases hz:eF f a=0
 ·rw [beq0_t _ hz,cond_true,xpn_one hf hz]
  have hm:mant f a=mF f a:=by unfold mant; rw [if_pos hz]
  rw [hm]
 ·rw [beq0_f _ hz,cond_false,xpn_exp hf hz,mant_or hf]
  have hm:mant f a=mF f a+2^(fP f-1):=by unfold mant; rw [if_neg hz]
  rw [hm]
theorem T350_bad {f:Int} {a:Nat} (ha:a<2^64) (h:chk f a≠0):T350 (f,rowOf f,(a:Int),())=some ((0,false,0,0,()),chk f a,()):=by
 show t350 S65.pre S65.F S98.pre S98.F f (rowOf f) a=_
 unfold t350
 have p1:=T65_bad ha h
 have e:(chk f a != 0)=true:=bne_iff_ne.2 h
 simp only [pre65 p1,fun65 p1,cond_true,e]
def mulR (f m:Int) (a b:Nat):Int×Int×Int×Unit :=
 bif nan f a||nan f b then ((nanF f:Int),(bif snan f a||snan f b then 1 else 0),0,())
 else bif (isInf f a&&zro f b)||(zro f a&&isInf f b) then ((nanF f:Int),1,0,())
 else bif isInf f a||isInf f b then ((infB f (!(sF f a==sF f b)):Int),0,0,())
 else bif zro f a||zro f b then ((sgnF f (!(sF f a==sF f b)):Int),0,0,())
 else (((rndN f m (!(sF f a==sF f b)) (mant f a*mant f b) (xpn f a+xpn f b) false).1:Int),((rndN f m (!(sF f a==sF f b)) (mant f a*mant f b) (xpn f a+xpn f b) false).2:Int),0,())
def mulA (f m:Int) (a b:Nat):Int×Int×Int×Unit :=
 if ¬ Fm f then (0,0,2,())
 else if m<0∨m>5 then (0,0,3,())
 else if chk f a≠0 then (0,0,chk f a,())
 else if chk f b≠0 then (0,0,chk f b,())
 else mulR f m a b
theorem zro_mant {f:Int} {a:Nat} (h:zro f a=false):mant f a≠0:=by
 unfold zro at h
 unfold mant
 by_cases hz:eF f a=0
 ·rw [if_pos hz]
  intro hm
  rw [hz,hm] at h
  cases h
 ·rw [if_neg hz]
  have:=Nat.two_pow_pos (fP f-1)
  omega
theorem T354_eq (f m:Int) {a b:Nat} (ha:a<2^64) (hb:b<2^64):T354 (f,m,(a:Int),(b:Int),())=some (mulA f m a b):=by
 show t354 S69.pre S69.F S350.pre S350.F S351.pre S351.F S70.pre S70.F S352.pre S352.F S97.pre S97.F S353.pre S353.F S118.pre S118.F S316.pre S316.F S122.pre S122.F f m a b=_
 unfold t354 mulA
 dsimp only
 by_cases hf:¬ Fm f
 ·have p0:=T69_bad hf
  rw [if_pos hf]
  simp only [pre69 p0,fun69 p0,cond_true]
  rfl
 have hf:=Classical.not_not.1 hf
 have p0:=T69_ok hf
 rw [if_neg (show ¬ ¬ Fm f from fun h=>h hf)]
 simp only [pre69 p0,fun69 p0,cond_true,bne_self_eq_false,cond_false]
 by_cases hm:m<0∨m>5
 ·rw [if_pos hm]
  have:(decide (m<0)||decide (m>5))=true:=by rcases hm with h | h <;> simp [h]
  rw [this,cond_true]
 rw [if_neg hm]
 have hm':0≤m∧m≤5:=by omega
 have:(decide (m<0)||decide (m>5))=false:=by simp; omega
 rw [this,cond_false]
 by_cases hca:chk f a≠0
 ·have p1:=T350_bad ha hca
  have e:(chk f a != 0)=true:=bne_iff_ne.2 hca
  rw [if_pos hca]
  simp only [pre350 p1,fun350 p1,cond_true,e]
 have hca:=Classical.not_not.1 hca
 have p1:=T350_ok hca
 rw [if_neg (show ¬ chk f a≠0 from fun h=>h hca)]
 simp only [pre350 p1,fun350 p1,cond_true,bne_self_eq_false,cond_false]
 by_cases hcb:chk f b≠0
 ·have p2:=T350_bad hb hcb
  have e:(chk f b != 0)=true:=bne_iff_ne.2 hcb
  rw [if_pos hcb]
  simp only [pre350 p2,fun350 p2,cond_true,e]
 have hcb:=Classical.not_not.1 hcb
 have p2:=T350_ok hcb
 rw [if_neg (show ¬ chk f b≠0 from fun h=>h hcb)]
 have n351:∀ (c:Int) (s:Bool) (n e:Int),T351 ((c,s,n,e,()),())=some ((c==1||c==0),()):=fun _ _ _ _=>rfl
 have n352:∀ (c:Int) (s:Bool) (n e:Int),T352 ((c,s,n,e,()),())=some ((c==2||c==9),()):=fun _ _ _ _=>rfl
 have n353:∀ (c:Int) (s:Bool) (n e:Int),T353 ((c,s,n,e,()),())=some ((c==5||c==6),()):=fun _ _ _ _=>rfl
 have q1:=n351 (cls f a) (sF f a) (mant f a:Int) (xpn f a)
 have q2:=n351 (cls f b) (sF f b) (mant f b:Int) (xpn f b)
 have q3:=n352 (cls f a) (sF f a) (mant f a:Int) (xpn f a)
 have q4:=n352 (cls f b) (sF f b) (mant f b:Int) (xpn f b)
 have q5:=n353 (cls f a) (sF f a) (mant f a:Int) (xpn f a)
 have q6:=n353 (cls f b) (sF f b) (mant f b:Int) (xpn f b)
 rw [cls_nan] at q1 q2
 rw [cls_isInf] at q3 q4
 rw [cls_zro hf] at q5 q6
 have s:=!(sF f a==sF f b)
 have p3:=T70_ok hf
 have p4:=T97_ok hf (!(sF f a==sF f b))
 have p5:=T118_ok hf (!(sF f a==sF f b))
 have ma:=mant_lt hf a
 have mb:=mant_lt hf b
 have xa:=xpn_bound hf a
 have xb:=xpn_bound hf b
 have hprod:mant f a*mant f b<2^128:=Nat.lt_of_lt_of_le (Nat.mul_lt_mul'' ma mb) (by decide)
 have p6:=T316_eq (x:=mant f a) (y:=mant f b) (Nat.lt_trans ma (by decide)) (Nat.lt_trans mb (by decide))
 have p7:=T122_eq hf hm' (!(sF f a==sF f b)) (mant f a*mant f b) hprod (xpn f a+xpn f b) (by omega) false (fun h=>by cases h)
 have ew:IntKind.wrap .i64 (xpn f a+xpn f b)=xpn f a+xpn f b:=wrapI (by omega)
 simp only [pre350 p2,fun350 p2,cond_true,bne_self_eq_false,cond_false,pre351 q1,fun351 q1,pre351 q2,fun351 q2,pre352 q3,fun352 q3,pre352 q4,fun352 q4,pre353 q5,fun353 q5,pre353 q6,fun353 q6,pre70 p3,fun70 p3,pre97 p4,fun97 p4,pre118 p5,fun118 p5,pre316 p6,fun316 p6,ew,pre122 p7,fun122 p7,Bool.true_or,cls_snan]
 unfold mulR
 cases h1:nan f a||nan f b
 ·simp only [cond_false]
  cases h2:isInf f a&&zro f b||zro f a&&isInf f b
  ·simp only [cond_false]
   cases h3:isInf f a||isInf f b
   ·simp only [cond_false]
    cases h4:zro f a||zro f b
    ·simp only [cond_false]
     simp only [Bool.or_eq_false_iff] at h4
     rw [if_neg (Nat.mul_ne_zero (zro_mant h4.1) (zro_mant h4.2))]
    ·simp only [cond_true]
   ·simp only [cond_true]
  ·simp only [cond_true]
 ·simp only [cond_true]
  cases snan f a||snan f b <;> rfl
end VL
namespace VL
open Go Vx
def okL (f:Int) (l:List Nat):Bool:=l.all fun a=>chk f a==0
theorem chk_cases {f:Int} (hf:Fm f) (a:Nat):chk f a=0∨chk f a=4:=by
 unfold chk
 rw [if_pos hf]
 split <;> simp
noncomputable def chkL (f m:Int) (l:List Nat):Int:=if ¬ Fm f then 2 else if m<0∨m>5 then 3 else bif okL f l then 0 else 4
end VL
namespace VL
open Go Vx
theorem dig_test {q r yn1 yn0 u u1:Nat} (hq:q*yn1+r=u):(2^32*r+u1<q*yn0)↔u*2^32+u1<q*(yn1*2^32+yn0):=by
 rw [Nat.mul_add,← Nat.mul_assoc,← hq,Nat.add_mul]
 omega
theorem dig_cond {q r yn1 yn0 u u1:Nat} (hq:q*yn1+r=u) (hr:r<2^32) (h0:yn0<2^32) (hu1:u1<2^32) (hlt:u<yn1*2^32+yn0) :
  (decide ((q:Int)≥4294967296)||decide (IntKind.wrap .u64 ((q:Int)*(yn0:Int))>IntKind.wrap .u64 (IntKind.wrap .u64 ((4294967296:Int)*(r:Int))+(u1:Int))))=decide (u*2^32+u1<q*(yn1*2^32+yn0)):=by
 rcases Nat.lt_or_ge q (2^32) with h | h
 ·have hm:q*yn0≤(2^32-1)*(2^32-1):=Nat.mul_le_mul (by omega) (by omega)
  have e1:IntKind.wrap .u64 ((q:Int)*(yn0:Int))=((q*yn0:Nat):Int):=wu_mul _ _ (by omega)
  have e2:IntKind.wrap .u64 ((4294967296:Int)*(r:Int))=((2^32*r:Nat):Int):=wu_mul (2^32) r (by omega)
  have e3:IntKind.wrap .u64 (((2^32*r:Nat):Int)+(u1:Int))=((2^32*r+u1:Nat):Int):=wu_add _ _ (by omega)
  have e4:decide ((q:Int)≥4294967296)=false:=decide_eq_false (by omega)
  rw [e1,e2,e3,e4,Bool.false_or,Bool.eq_iff_iff,decide_eq_true_eq,decide_eq_true_eq,← dig_test hq]
  omega
 ·have e4:decide ((q:Int)≥4294967296)=true:=decide_eq_true (by omega)
  have hm:2^32*(yn1*2^32+yn0)≤q*(yn1*2^32+yn0):=Nat.mul_le_mul_right _ h
  rw [e4,Bool.true_or,decide_eq_true (by omega)]
theorem dig_start {yn1 yn0 u u1:Nat} (hy:0<yn1) (hu1:u1<2^32):u*2^32+u1<(u/yn1+1)*(yn1*2^32+yn0):=by
 have h1:u<(u/yn1+1)*yn1:=by
  have:=Nat.lt_div_mul_add hy (a:=u)
  rw [Nat.add_mul,Nat.one_mul]; exact this
 rw [Nat.mul_add,← Nat.mul_assoc]
 omega
theorem dig_down {q r yn1 yn0 u u1:Nat} (hq:q*yn1+r=u) (h:u*2^32+u1<q*(yn1*2^32+yn0)):1≤q∧(q-1)*yn1+(r+yn1)=u:=by
 have h1:1≤q:=by
  rcases Nat.eq_zero_or_pos q with h0 | h0
  ·rw [h0,Nat.zero_mul] at h; omega
  ·exact h0
 refine ⟨h1,?_⟩
 obtain ⟨p,rfl⟩:∃ p,q=p+1:=⟨q-1,by omega⟩
 rw [Nat.add_mul,Nat.one_mul] at hq
 rw [show p+1-1=p by omega]
 omega
theorem dig_break {q r yn1 yn0 u u1:Nat} (hq:q*yn1+r=u) (hr:2^32≤r) (h0:yn0<2^32) (hlt:u<yn1*2^32+yn0):q*(yn1*2^32+yn0)≤u*2^32+u1:=by
 have h1:q*yn1<2^32*yn1:=by omega
 have h2:q<2^32:=Nat.lt_of_mul_lt_mul_right h1
 have h3:q*yn0≤2^32*(2^32-1):=Nat.mul_le_mul (by omega) (by omega)
 have h4:¬ 2^32*r+u1<q*yn0:=by omega
 rw [dig_test hq] at h4
 omega
theorem div_is {a b q:Nat} (h1:q*b≤a) (h2:a<(q+1)*b):a/b=q:=Nat.div_eq_of_lt_le h1 h2
theorem W328a_eq {u u1 yn0 yn1:Nat} (h0:yn0<2^32) (h1:yn1<2^32) (hy:0<yn1) (hu1:u1<2^32) (hlt:u<yn1*2^32+yn0) (u0 y s:Int) :
  W328_17 ((((u%yn1:Nat):Int),((u:Int),((u1:Int),((yn0:Int),((yn1:Int),(((u/yn1:Nat):Int),(u0,(y,(s,()))))))))),()) =
   some (.inl (((u:Int),((u1:Int),((yn0:Int),((yn1:Int),((((u*2^32+u1)/(yn1*2^32+yn0):Nat):Int),(u0,(y,(s,())))))))),())):=by
 have key:=lfix_ind (m328_17 S327.pre S327.F) (fun x=>x.1.2.2.2.2.2.1.toNat)
  (fun x=>∃ q r:Nat,q*yn1+r=u∧r<2^32∧u*2^32+u1<(q+1)*(yn1*2^32+yn0)∧x=(((r:Int),((u:Int),((u1:Int),((yn0:Int),((yn1:Int),((q:Int),(u0,(y,(s,()))))))))),()))
  (fun _=>.inl (((u:Int),((u1:Int),((yn0:Int),((yn1:Int),((((u*2^32+u1)/(yn1*2^32+yn0):Nat):Int),(u0,(y,(s,())))))))),())) ?_ _
  ⟨u/yn1,u%yn1,by rw [Nat.mul_comm]; exact Nat.div_add_mod u yn1,Nat.lt_trans (Nat.mod_lt _ hy) h1,dig_start hy hu1,rfl⟩
 ·exact key
 intro L x hx hL
 obtain ⟨q,r,hq,hr,hup,rfl⟩:=hx
 unfold h328_17
 have hqu:q≤u:=by
  have:=Nat.le_mul_of_pos_right q hy
  omega
 dsimp only
 rw [dig_cond hq hr h0 hu1 hlt]
 by_cases hc:u*2^32+u1<q*(yn1*2^32+yn0)
 ·obtain ⟨d1,d2⟩:=dig_down hq hc
  have e1:IntKind.wrap .u64 ((q:Int)-1)=((q-1:Nat):Int):=by rw [wrapU (by omega)]; omega
  have e2:IntKind.wrap .u64 ((r:Int)+(yn1:Int))=((r+yn1:Nat):Int):=wu_add _ _ (by omega)
  rw [decide_eq_true hc,cond_true,e1,e2]
  by_cases hb:2^32≤r+yn1
  ·have e3:decide (((r+yn1:Nat):Int)≥4294967296)=true:=decide_eq_true (by omega)
   rw [e3,cond_true]
   have:=dig_break (u1:=u1) d2 hb h0 hlt
   rw [div_is this (by rw [show q-1+1=q by omega]; exact hc)]
  ·have e3:decide (((r+yn1:Nat):Int)≥4294967296)=false:=decide_eq_false (by omega)
   rw [e3,cond_false]
   exact hL _ ⟨q-1,r+yn1,d2,by omega,by rw [show q-1+1=q by omega]; exact hc,rfl⟩ (by simp only [Int.toNat_natCast]; omega)
 ·rw [decide_eq_false hc,cond_false,div_is (by omega) hup]
theorem W328b_eq {u u1 yn0 yn1:Nat} (h0:yn0<2^32) (h1:yn1<2^32) (hy:0<yn1) (hu1:u1<2^32) (hlt:u<yn1*2^32+yn0) (q1 y s:Int) :
  W328_24 (((yn0:Int),(((u%yn1:Nat):Int),((yn1:Int),(q1,((u:Int),((u1:Int),(((u/yn1:Nat):Int),(y,(s,()))))))))),()) =
   some (.inl ((q1,((u:Int),((u1:Int),((((u*2^32+u1)/(yn1*2^32+yn0):Nat):Int),(y,(s,())))))),())):=by
 have key:=lfix_ind (m328_24 S327.pre S327.F) (fun x=>x.1.2.2.2.2.2.2.1.toNat)
  (fun x=>∃ q r:Nat,q*yn1+r=u∧r<2^32∧u*2^32+u1<(q+1)*(yn1*2^32+yn0)∧x=(((yn0:Int),((r:Int),((yn1:Int),(q1,((u:Int),((u1:Int),((q:Int),(y,(s,()))))))))),()))
  (fun _=>.inl ((q1,((u:Int),((u1:Int),((((u*2^32+u1)/(yn1*2^32+yn0):Nat):Int),(y,(s,())))))),())) ?_ _
  ⟨u/yn1,u%yn1,by rw [Nat.mul_comm]; exact Nat.div_add_mod u yn1,Nat.lt_trans (Nat.mod_lt _ hy) h1,dig_start hy hu1,rfl⟩
 ·exact key
 intro L x hx hL
 obtain ⟨q,r,hq,hr,hup,rfl⟩:=hx
 unfold h328_24
 have hqu:q≤u:=by
  have:=Nat.le_mul_of_pos_right q hy
  omega
 dsimp only
 rw [dig_cond hq hr h0 hu1 hlt]
 by_cases hc:u*2^32+u1<q*(yn1*2^32+yn0)
 ·obtain ⟨d1,d2⟩:=dig_down hq hc
  have e1:IntKind.wrap .u64 ((q:Int)-1)=((q-1:Nat):Int):=by rw [wrapU (by omega)]; omega
  have e2:IntKind.wrap .u64 ((r:Int)+(yn1:Int))=((r+yn1:Nat):Int):=wu_add _ _ (by omega)
  rw [decide_eq_true hc,cond_true,e1,e2]
  by_cases hb:2^32≤r+yn1
  ·have e3:decide (((r+yn1:Nat):Int)≥4294967296)=true:=decide_eq_true (by omega)
   rw [e3,cond_true]
   have:=dig_break (u1:=u1) d2 hb h0 hlt
   rw [div_is this (by rw [show q-1+1=q by omega]; exact hc)]
  ·have e3:decide (((r+yn1:Nat):Int)≥4294967296)=false:=decide_eq_false (by omega)
   rw [e3,cond_false]
   exact hL _ ⟨q-1,r+yn1,d2,by omega,by rw [show q-1+1=q by omega]; exact hc,rfl⟩ (by simp only [Int.toNat_natCast]; omega)
 ·rw [decide_eq_false hc,cond_false,div_is (by omega) hup]
theorem div_digits {A y u32 u1 u0 q1 r1 q0 r0:Nat} (hA:A=(u32*2^32+u1)*2^32+u0) (h1:u32*2^32+u1=q1*y+r1) (h2:r1*2^32+u0=q0*y+r0) (hr:r0<y) :
  A/y=q1*2^32+q0∧A%y=r0:=by
 have e:A=(q1*2^32+q0)*y+r0:=by
  rw [hA,h1,Nat.add_mul,Nat.add_mul,Nat.mul_right_comm]; omega
 have hy:0<y:=by omega
 rw [e,Nat.mul_comm _ y]
 exact ⟨by rw [Nat.mul_add_div hy,Nat.div_eq_of_lt hr,Nat.add_zero],by rw [Nat.mul_add_mod,Nat.mod_eq_of_lt hr]⟩
theorem split64 (U X:Nat):U*2^64+X=(U*2^32+X/2^32)*2^32+X%2^32:=by omega
theorem orL {a b k:Nat} (ha:a<2^k) (h:b*2^k+a<2^64):orI .u64 ((b*2^k:Nat):Int) (a:Int)=((b*2^k+a:Nat):Int):=by
 rw [orN2 (by omega) (by omega)]
 congr 1
 have:=Nat.two_pow_add_eq_or_of_lt ha b
 rw [Nat.mul_comm b,← this]
theorem T327_eq {n:Nat} (hn:n<2^64):T327 ((n:Int),())=some (((64-blen n:Nat):Int),()):=by
 show t327 S178.pre S178.F (n:Int)=_
 unfold t327
 have p0:=T178_eq n hn
 have hb:=blen_bound hn
 have e:IntKind.wrap .i64 ((64:Int)-(blen n:Int))=((64-blen n:Nat):Int):=by rw [wrapI (by omega)]; omega
 simp only [pre178 p0,fun178 p0,cond_true,e]
theorem T328_eq {hi lo y:Nat} (hlo:lo<2^64) (hy:y<2^64) (hlt:hi<y) :
  T328 ((hi:Int),(lo:Int),(y:Int),())=some ((((hi*2^64+lo)/y:Nat):Int),(((hi*2^64+lo)%y:Nat):Int),()):=by
 have hy0:0<y:=by omega
 show t328 S327.pre S327.F W328_17 W328_24 (hi:Int) (lo:Int) (y:Int)=_
 unfold t328
 have hbl:=blen_bound hy
 have hbl1:=blen_pos (n:=y) (by omega)
 have p0:=T327_eq hy
 generalize hs:64-blen y=s at *
 have e9:IntKind.wrap .u64 (s:Int)=(s:Int):=wu_id _ (by omega)
 have e10:IntKind.wrap .u64 ((64:Int)-(s:Int))=((64-s:Nat):Int):=by rw [wrapU (by omega)]; omega
 have g0:((y:Int)==0)=false:=beq0_f _ (by omega)
 have g1:decide ((y:Int)≤(hi:Int))=false:=decide_eq_false (by omega)
 have g2:((y:Int) != 0)=true:=bne0_t _ (by omega)
 dsimp only
 simp only [g0,g1,g2,cond_false,cond_true,pre327 p0,fun327 p0,e9,e10]
 by_cases hh:hi=0
 ·subst hh
  have e1:(((0:Nat):Int)==0)=true:=rfl
  rw [e1,cond_true,quoM _ _ hlo hy0,Nat.zero_mul,Nat.zero_add]
  rfl
 have e1:((hi:Int)==0)=false:=beq0_f _ hh
 rw [e1,cond_false]
 have hp:=Nat.two_pow_pos s
 have hyl:=blen_le (n:=y) (by omega)
 have hyu:=blen_lt y
 have hY1:y*2^s<2^64:=by
  have:y*2^s<2^blen y*2^s:=Nat.mul_lt_mul_of_pos_right hyu hp
  rw [← Nat.pow_add,show blen y+s=64 by omega] at this
  exact this
 have hY2:2^63≤y*2^s:=by
  have:2^(blen y-1)*2^s≤y*2^s:=Nat.mul_le_mul_right _ hyl
  rw [← Nat.pow_add,show blen y-1+s=63 by omega] at this
  exact this
 have hH:hi*2^s<y*2^s:=Nat.mul_lt_mul_of_pos_right hlt hp
 have hlos:lo/2^(64-s)<2^s:=by
  rw [Nat.div_lt_iff_lt_mul (Nat.two_pow_pos _),← Nat.pow_add,show s+(64-s)=64 by omega]
  exact hlo
 have e264:2^64=2^s*2^(64-s):=by rw [← Nat.pow_add]; congr 1; omega
 have hU:hi*2^s+lo/2^(64-s)<y*2^s:=by
  have h1:(hi+1)*2^s≤y*2^s:=Nat.mul_le_mul_right _ hlt
  rw [Nat.add_mul,Nat.one_mul] at h1
  omega
 have hsc:(hi*2^64+lo)*2^s=(hi*2^s+lo/2^(64-s))*2^64+lo*2^s%2^64:=by
  have h1:lo*2^s=lo*2^s/2^64*2^64+lo*2^s%2^64:=by
   have:=Nat.div_add_mod (lo*2^s) (2^64)
   omega
  have h2:lo*2^s/2^64=lo/2^(64-s):=by
   rw [e264,Nat.mul_comm lo,Nat.mul_div_mul_left _ _ hp]
  rw [h2] at h1
  rw [Nat.add_mul,Nat.add_mul,Nat.mul_right_comm]
  omega
 have s1:=shlN hi s (by omega)
 have s2:=shrN lo (64-s) (by omega)
 have s3:=shlN y s (by omega)
 have s4:=shlN lo s (by omega)
 rw [Nat.mod_eq_of_lt (by omega)] at s1 s3
 have hY32:y*2^s/2^32*2^32+y*2^s%2^32=y*2^s:=by omega
 have hdiv:(hi*2^64+lo)*2^s/(y*2^s)=(hi*2^64+lo)/y:=Nat.mul_div_mul_right _ _ hp
 have hmod:(hi*2^64+lo)*2^s%(y*2^s)=(hi*2^64+lo)%y*2^s:=Nat.mul_mod_mul_right _ _ _
 have hX:lo*2^s%2^64<2^64:=Nat.mod_lt _ (by decide)
 have s5:=orL (b:=hi) hlos (by omega)
 rw [s1,s2,s3,s4,s5]
 have hq64:(hi*2^64+lo)/y<2^64:=by
  rw [Nat.div_lt_iff_lt_mul hy0]
  have:(hi+1)*2^64≤y*2^64:=Nat.mul_le_mul_right _ hlt
  omega
 rw [hsc] at hdiv hmod
 generalize hi*2^s+lo/2^(64-s)=U at *
 generalize lo*2^s%2^64=X at *
 generalize hYd:y*2^s=Y at *
 rw [s32 Y,s32 X,a32 hY1,a32 hX]
 have hYY1:Y/2^32<2^32:=by omega
 have hYY0:Y%2^32<2^32:=by omega
 have hYp:0<Y/2^32:=by omega
 have g3:(((Y/2^32:Nat):Int) != 0)=true:=bne0_t _ (by omega)
 have hrem:∀ V:Nat,V<2^64→IntKind.wrap .u64 ((V:Int)-IntKind.wrap .u64 (((V/(Y/2^32):Nat):Int)*((Y/2^32:Nat):Int)))=((V%(Y/2^32):Nat):Int):=fun V hV=>by
  have hdm:=Nat.div_add_mod V (Y/2^32)
  rw [Nat.mul_comm] at hdm
  rw [wu_mul _ _ (by omega)]
  generalize V/(Y/2^32)*(Y/2^32)=z at *
  generalize V%(Y/2^32)=w at *
  rw [wrapU (by omega)]
  omega
 rw [g3,cond_true,quoM _ _ (by omega) hYp,hrem U (by omega)]
 have w1:=W328a_eq hYY0 hYY1 hYp (show X/2^32<2^32 by omega) (u:=U) (by omega) ((X%2^32:Nat):Int) (Y:Int) (s:Int)
 rw [w1,hY32]
 show (bif (((Y/2^32:Nat):Int) != 0) then _ else _)=_
 rw [g3,cond_true]
 dsimp only
 have hd1:=Nat.div_add_mod (U*2^32+X/2^32) Y
 have hr1:=Nat.mod_lt (U*2^32+X/2^32) (show 0<Y by omega)
 have hq1:(U*2^32+X/2^32)/Y<2^32:=by
  rw [Nat.div_lt_iff_lt_mul (by omega)]
  have:(U+1)*2^32≤Y*2^32:=Nat.mul_le_mul_right _ hU
  omega
 have hrem2:∀ a b c q r:Nat,a*2^32+b=Y*q+r→r<Y→IntKind.wrap .u64 (IntKind.wrap .u64 (IntKind.wrap .u64 ((a:Int)*4294967296)+(b:Int))-IntKind.wrap .u64 ((q:Int)*(Y:Int)))=(r:Int):=fun a b _ q r h1 h2=>by
  have e:(q:Int)*(Y:Int)=((Y*q:Nat):Int):=by rw [Int.natCast_mul,Int.mul_comm]
  rw [e]
  generalize Y*q=z at *
  show ((((a:Int)*4294967296)%18446744073709551616+(b:Int))%18446744073709551616-((z:Int)%18446744073709551616))%18446744073709551616=(r:Int)
  omega
 rw [hrem2 U (X/2^32) 0 _ _ hd1.symm hr1]
 clear w1
 obtain ⟨q1,hQ1⟩:∃ q,q=(U*2^32+X/2^32)/Y:=⟨_,rfl⟩
 obtain ⟨r1,hR1⟩:∃ q,q=(U*2^32+X/2^32)%Y:=⟨_,rfl⟩
 rw [← hQ1] at hd1 hq1
 rw [← hR1] at hd1 hr1
 rw [← hQ1,← hR1]
 rw [quoM _ _ (by omega) hYp,hrem r1 (by omega)]
 have w2:=W328b_eq hYY0 hYY1 hYp (show X%2^32<2^32 by omega) (u:=r1) (by omega) (q1:Int) (Y:Int) (s:Int)
 rw [w2,hY32]
 show some (_,(_,()))=_
 dsimp only
 have hd2:=Nat.div_add_mod (r1*2^32+X%2^32) Y
 have hr2:=Nat.mod_lt (r1*2^32+X%2^32) (show 0<Y by omega)
 have hq2:(r1*2^32+X%2^32)/Y<2^32:=by
  rw [Nat.div_lt_iff_lt_mul (by omega)]
  have:(r1+1)*2^32≤Y*2^32:=Nat.mul_le_mul_right _ hr1
  omega
 rw [hrem2 r1 (X%2^32) 0 _ _ hd2.symm hr2]
 obtain ⟨q0,hQ0⟩:∃ q,q=(r1*2^32+X%2^32)/Y:=⟨_,rfl⟩
 obtain ⟨r0,hR0⟩:∃ q,q=(r1*2^32+X%2^32)%Y:=⟨_,rfl⟩
 rw [← hQ0] at hd2 hq2
 rw [← hR0] at hd2 hr2
 rw [← hQ0,← hR0]
 obtain ⟨f1,f2⟩:=div_digits (A:=U*2^64+X) (y:=Y) (u32:=U) (u1:=X/2^32) (u0:=X%2^32) (split64 U X) (by rw [Nat.mul_comm q1]; exact hd1.symm) (by rw [Nat.mul_comm q0]; exact hd2.symm) hr2
 rw [hdiv] at f1
 rw [hmod] at f2
 have e5:IntKind.wrap .u64 (IntKind.wrap .u64 ((q1:Int)*4294967296)+(q0:Int))=(((hi*2^64+lo)/y:Nat):Int):=by
  rw [f1]
  show ((((q1:Int)*4294967296)%18446744073709551616)+(q0:Int))%18446744073709551616=_
  omega
 have e6:shrI .u64 (r0:Int) (s:Int)=(((hi*2^64+lo)%y:Nat):Int):=by
  rw [shrN _ _ (by omega),← f2,Nat.mul_div_cancel _ hp]
 rw [e5,e6]
end VL
