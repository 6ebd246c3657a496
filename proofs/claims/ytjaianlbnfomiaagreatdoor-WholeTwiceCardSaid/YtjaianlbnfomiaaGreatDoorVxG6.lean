/- Part 6 of the proof. What is proved: symbolic execution of the functions, proved sound; what each function of the program computes, and that every run ends with it; what these functions compute, in plain numbers. Conditions: each theorem bears its own. -/
import Derived.Test.YtjaianlbnfomiaaGreatDoorVxG5
set_option linter.all false
set_option exponentiation.threshold 1000000
namespace VL
open Go Vx
def Ws (l:List Nat):Prop:=(∀ x∈l,x<2^64)∧l.length≤1000000
theorem W173_eq (l:List Nat) (hl:l.length≤1000000) (n:Nat) (hn:n≤l.length) (ht:(trimL l).length≤n) :
  W173_2 ((Wd l,((n:Int),())),())=some (.inl ((Wd l,(((trimL l).length:Int),())),())):=by
 have key:=lfix_ind m173_2 (fun x=>x.1.2.1.toNat)
  (fun x=>∃ n:Nat,n≤l.length∧(trimL l).length≤n∧x=((Wd l,((n:Int),())),()))
  (fun _=>.inl ((Wd l,(((trimL l).length:Int),())),())) ?_ ((Wd l,((n:Int),())),()) ⟨n,hn,ht,rfl⟩
 ·exact key
 intro L x hx hL
 obtain ⟨n,hn,ht,rfl⟩:=hx
 unfold h173_2
 rcases Nat.eq_zero_or_pos n with rfl | hpos
 ·have e1:decide (((0:Nat):Int)>0)=false:=rfl
  simp only [e1,Bool.not_false,Bool.or_true,cond_true,Bool.false_and,cond_false]
  have:(trimL l).length=0:=by omega
  rw [this]
 ·have e0:IntKind.wrap .i64 ((n:Int)-1)=((n-1:Nat):Int):=wsub n 1 (by omega) (by omega)
  have e1:decide ((n:Int)>0)=true:=by simp; omega
  have e2:(decide ((0:Int)≤((n-1:Nat):Int))&&decide (((n-1:Nat):Int)<((Wd l).length:Int)))=true:=by
   rw [Wd_len]; simp; omega
  simp only [e0,e1,e2,Bool.true_or,cond_true,Bool.true_and,Int.toNat_natCast,Wd_getD,nbeq0]
  cases hz:(l.getD (n-1) 0==0) with
  | true =>
   simp only [cond_true]
   refine hL _ ⟨n-1,by omega,?_,rfl⟩ (by simp only [Int.toNat_natCast]; omega)
   rcases Nat.lt_or_ge (n-1) (trimL l).length with h | h
   ·exfalso
    have e:n=(trimL l).length:=by omega
    have:=trim_last l (by omega)
    rw [← e] at this
    exact this (by simpa using hz)
   ·exact h
  | false =>
   simp only [cond_false]
   have:(trimL l).length=n:=by
    rcases Nat.lt_or_ge (n-1) (trimL l).length with h | h
    ·omega
    ·exfalso
     have:=trim_out l (n-1) h
     rw [this] at hz
     simp at hz
   rw [this]
theorem T173_eq (l:List Nat) (hl:l.length≤1000000):T173 (Wd l,())=some (Wd (trimL l),()):=by
 show t173 W173_2 (Wd l)=_
 unfold t173
 have h:=W173_eq l hl l.length (Nat.le_refl _) (trim_len l).1
 rw [Wd_len]
 rw [h]
 have e:(decide ((0:Int)≤((trimL l).length:Int))&&decide (((trimL l).length:Int)≤((Wd l).length:Int)))=true:=by
  rw [Wd_len]; have:=(trim_len l).1; simp; omega
 show (bif (decide ((0:Int)≤((trimL l).length:Int))&&decide (((trimL l).length:Int)≤((Wd l).length:Int))) then some (List.drop (Int.toNat 0) (List.take (Int.toNat ((trimL l).length:Int)) (Wd l)),()) else none)=_
 rw [e,cond_true,Int.toNat_natCast,Int.toNat_zero,List.drop_zero,Wd_take]
 have:=(trim_len l).2
 rw [← this]
def blen (n:Nat):Nat:=if n=0 then 0 else Nat.log2 n+1
theorem blen_lt (n:Nat):n<2^blen n:=by
 unfold blen
 split
 ·subst_vars; decide
 ·exact Nat.lt_log2_self
theorem blen_le {n:Nat} (h:n≠0):2^(blen n-1)≤n:=by
 unfold blen
 rw [if_neg h]
 exact Nat.log2_self_le h
theorem blen_of {n k:Nat} (h1:2^k≤n) (h2:n<2^(k+1)):blen n=k+1:=by
 have hp:=Nat.two_pow_pos k
 have hn:n≠0:=by omega
 have a1:=blen_lt n
 have a2:=blen_le hn
 have b1:blen n-1<k+1:=(Nat.pow_lt_pow_iff_right (by decide)).1 (Nat.lt_of_le_of_lt a2 h2)
 have b2:k<blen n:=(Nat.pow_lt_pow_iff_right (by decide)).1 (Nat.lt_of_le_of_lt h1 a1)
 omega
theorem blen_shift {n k:Nat} (h:2^k≤n):blen n=k+blen (n/2^k):=by
 have hp:=Nat.two_pow_pos k
 have hq:0<n/2^k:=Nat.div_pos h hp
 have a1:=blen_lt (n/2^k)
 have a2:=blen_le (n:=n/2^k) (by omega)
 have hb:0<blen (n/2^k):=by unfold blen; rw [if_neg (by omega)]; omega
 have h1:2^(k+(blen (n/2^k)-1))≤n:=by
  rw [Nat.pow_add]
  calc 2^k*2^(blen (n/2^k)-1)≤2^k*(n/2^k):=Nat.mul_le_mul_left _ a2
   _≤n:=Nat.mul_div_le n _
 have h2:n<2^(k+(blen (n/2^k)-1)+1):=by
  rw [show k+(blen (n/2^k)-1)+1=k+blen (n/2^k) by omega,Nat.pow_add,Nat.mul_comm]
  exact (Nat.div_lt_iff_lt_mul hp).1 a1
 have:=blen_of h1 h2
 omega
theorem len8:∀ i:Nat,i<256→(k_len8.getD i 0).toNat=blen i:=by
 have h:((List.range 256).all fun i=>decide ((k_len8.getD i 0).toNat=blen i))=true:=by decide +kernel
 intro i hi
 have:=List.all_eq_true.1 h i (List.mem_range.2 hi)
 simpa using this
theorem T178_eq (n:Nat) (hn:n<2^64):T178 ((n:Int),())=some ((blen n:Int),()):=by
 have hs:∀ m k:Nat,k≤64→shrI .u64 (m:Int) (k:Int)=((m/2^k:Nat):Int):=fun m k hk=>shrN m k hk
 have s32:∀ m:Nat,shrI .u64 (m:Int) 32=((m/2^32:Nat):Int):=fun m=>hs m 32 (by decide)
 have s16:∀ m:Nat,shrI .u64 (m:Int) 16=((m/2^16:Nat):Int):=fun m=>hs m 16 (by decide)
 have s8:∀ m:Nat,shrI .u64 (m:Int) 8=((m/2^8:Nat):Int):=fun m=>hs m 8 (by decide)
 have ge:∀ m k:Nat,decide ((m:Int)≥(k:Int))=decide (k≤m):=fun m k=>by rw [Bool.eq_iff_iff]; simp
 have g32:∀ m:Nat,decide ((m:Int)≥4294967296)=decide (2^32≤m):=fun m=>ge m (2^32)
 have g16:∀ m:Nat,decide ((m:Int)≥65536)=decide (2^16≤m):=fun m=>ge m (2^16)
 have g8:∀ m:Nat,decide ((m:Int)≥256)=decide (2^8≤m):=fun m=>ge m (2^8)
 have tab:∀ m:Nat,m<256→IntKind.wrap .u8 (m:Int)=(m:Int):=fun m hm=>IntWalk.u8_in _ (by omega)
 have look:∀ (m:Nat) (c:Int) (d:Nat),m<256→c=(d:Int)→d≤56→(bif (decide ((0:Int)≤IntKind.wrap .u8 (m:Int))&&decide (IntKind.wrap .u8 (m:Int)<(256:Int))) then (some (IntKind.wrap .i64 (c+IntKind.wrap .i64 ((UInt8.toNat (k_len8.getD (Int.toNat (IntKind.wrap .u8 (m:Int))) 0):Nat):Int)),()):Option (DenS O178)) else none)=some (((d+blen m:Nat):Int),()):=fun m c d hm hc hd=>by
  have e:(decide ((0:Int)≤(m:Int))&&decide ((m:Int)<(256:Int)))=true:=by simp; omega
  have hb:blen m≤8:=by
   have:=len8 m hm
   rcases Nat.eq_zero_or_pos m with rfl | hpos
   ·decide
   ·have:=blen_le (n:=m) (by omega)
    have h8:blen m-1<8:=(Nat.pow_lt_pow_iff_right (a:=2) (by decide)).1 (Nat.lt_of_le_of_lt this hm)
    omega
  rw [tab m hm,e,cond_true,Int.toNat_natCast,len8 m hm,hc,wrapI (n:=((blen m:Nat):Int)) (by omega),wrapI (by omega)]
  rfl
 show t178 n=_
 unfold t178
 have fin:∀ (k:Nat),2^k≤n→k+blen (n/2^k)=blen n:=fun k h=>(blen_shift h).symm
 have dd:∀ a b:Nat,n/2^a/2^b=n/2^(a+b):=fun a b=>by rw [Nat.div_div_eq_div_mul,← Nat.pow_add]
 have up:∀ a b:Nat,2^b≤n/2^a→2^(a+b)≤n:=fun a b h=>by
  rw [Nat.pow_add,Nat.mul_comm]
  exact (Nat.le_div_iff_mul_le (Nat.two_pow_pos a)).1 h
 have down:∀ a b:Nat,n/2^a<2^b→n<2^(a+b):=fun a b h=>by
  rw [Nat.pow_add,Nat.mul_comm]
  exact (Nat.div_lt_iff_lt_mul (Nat.two_pow_pos a)).1 h
 have small:∀ a:Nat,n<2^(a+8)→n/2^a<256:=fun a h=>by
  rw [Nat.div_lt_iff_lt_mul (Nat.two_pow_pos a),Nat.mul_comm]
  rw [Nat.pow_add] at h; exact h
 simp only [s32,s16,s8,g32,g16,g8]
 by_cases h1:2^32≤n
 ·rw [decide_eq_true h1,cond_true]
  by_cases h2:2^16≤n/2^32
  ·rw [decide_eq_true h2,cond_true]
   by_cases h3:2^8≤n/2^32/2^16
   ·rw [decide_eq_true h3,cond_true]
    rw [dd 32 16] at h3
    have hm:n/2^32/2^16/2^8=n/2^56:=by rw [dd 32 16,dd 48 8]
    refine (look (n/2^32/2^16/2^8) _ 56 (by rw [hm]; exact small 56 hn) rfl (by decide)).trans ?_
    rw [hm,fin 56 (up 48 8 h3)]
   ·rw [decide_eq_false h3,cond_false]
    rw [dd 32 16] at h3
    refine (look (n/2^32/2^16) _ 48 (by rw [dd 32 16]; exact small 48 (down 48 8 (by omega))) rfl (by decide)).trans ?_
    rw [dd 32 16,fin 48 (up 32 16 h2)]
  ·rw [decide_eq_false h2,cond_false]
   by_cases h3:2^8≤n/2^32
   ·rw [decide_eq_true h3,cond_true]
    refine (look (n/2^32/2^8) _ 40 (by rw [dd 32 8]; exact small 40 (down 32 16 (by omega))) rfl (by decide)).trans ?_
    rw [dd 32 8,fin 40 (up 32 8 h3)]
   ·rw [decide_eq_false h3,cond_false]
    refine (look (n/2^32) _ 32 (small 32 (down 32 8 (by omega))) rfl (by decide)).trans ?_
    rw [fin 32 h1]
 ·rw [decide_eq_false h1,cond_false]
  by_cases h2:2^16≤n
  ·rw [decide_eq_true h2,cond_true]
   by_cases h3:2^8≤n/2^16
   ·rw [decide_eq_true h3,cond_true]
    refine (look (n/2^16/2^8) _ 24 (by rw [dd 16 8]; exact small 24 (by omega)) rfl (by decide)).trans ?_
    rw [dd 16 8,fin 24 (up 16 8 h3)]
   ·rw [decide_eq_false h3,cond_false]
    refine (look (n/2^16) _ 16 (small 16 (down 16 8 (by omega))) rfl (by decide)).trans ?_
    rw [fin 16 h2]
  ·rw [decide_eq_false h2,cond_false]
   by_cases h3:2^8≤n
   ·rw [decide_eq_true h3,cond_true]
    refine (look (n/2^8) _ 8 (small 8 (by omega)) rfl (by decide)).trans ?_
    rw [fin 8 h3]
   ·rw [decide_eq_false h3,cond_false]
    refine (look n 0 0 (by omega) rfl (by decide)).trans ?_
    rw [Nat.zero_add]
end VL
namespace VL
open Go Vx
theorem nv_append (B:Nat):∀ (l m:List Nat),nv B (l++m)=nv B l+B^l.length*nv B m
 | [],m=>by simp [nv]
 | x::r,m=>by
  simp only [List.cons_append,nv,List.length_cons]
  rw [nv_append B r m,Nat.pow_succ,Nat.mul_add,Nat.add_assoc]
  congr 2
  rw [Nat.mul_comm (B^r.length) B,Nat.mul_assoc]
theorem nv_lt {B:Nat} (hB:2≤B):∀ (l:List Nat),(∀ x∈l,x<B)→nv B l<B^l.length
 | [],_=>by simp [nv]
 | x::r,h=>by
  have ih:=nv_lt hB r fun y hy=>h y (by simp [hy])
  have hx:=h x (by simp)
  simp only [nv,List.length_cons,Nat.pow_succ]
  have:B*nv B r≤B*(B^r.length-1):=Nat.mul_le_mul_left _ (by omega)
  have hp:0<B^r.length:=Nat.pow_pos (by omega)
  rw [Nat.mul_sub] at this
  have h1:B*1≤B*B^r.length:=Nat.mul_le_mul_left _ hp
  rw [Nat.mul_comm (B^r.length) B]
  omega
theorem nv_split (B:Nat) (l:List Nat) (i:Nat) (h:i≤l.length):nv B l=nv B (l.take i)+B^i*nv B (l.drop i):=by
 conv=>lhs; rw [← List.take_append_drop i l]
 rw [nv_append]
 simp [h]
theorem nv_trim {B:Nat} (hB:2≤B) {l:List Nat} (h:∀ x∈l,x<B):nv B (trimL l)=nv B l:=by
 rw [trim_dg hB l h,nv_dg hB]
theorem trim_mem {l:List Nat} {x:Nat} (h:x∈trimL l):x∈l:=by
 rw [(trim_len l).2] at h
 exact List.mem_of_mem_take h
theorem trim_get {l:List Nat} {i:Nat} (h:i<(trimL l).length):(trimL l)[i]? = l[i]?:=by
 have:(trimL l)[i]? = (l.take (trimL l).length)[i]?:=congrArg (fun t:List Nat=>t[i]?) (trim_len l).2
 rw [this,List.getElem?_take_of_lt h]
theorem blen_split {a b k:Nat} (ha:a<2^k) (hb:0<b):blen (a+2^k*b)=k+blen b:=by
 have hp:=Nat.two_pow_pos k
 have h1:2^k*1≤2^k*b:=Nat.mul_le_mul_left _ hb
 rw [blen_shift (n:=a+2^k*b) (k:=k) (by omega),Nat.add_mul_div_left _ _ hp,Nat.div_eq_of_lt ha,Nat.zero_add]
theorem pow64 (i:Nat):(2^64)^i=2^(64*i):=by rw [← Nat.pow_mul]
theorem blen_row {l:List Nat} (h:∀ x∈l,x<2^64) (hl:0<(trimL l).length):blen (nv (2^64) l)=64*((trimL l).length-1)+blen (l.getD ((trimL l).length-1) 0):=by
 have hlast:=trim_last l hl
 have hle:=(trim_len l).1
 rw [← nv_trim (by decide) h]
 have hm:∀ x∈trimL l,x<2^64:=fun x hx=>h x (trim_mem hx)
 rw [nv_split _ (trimL l) ((trimL l).length-1) (by omega),pow64]
 have hd:(trimL l).drop ((trimL l).length-1)=[l.getD ((trimL l).length-1) 0]:=by
  have hlt:(trimL l).length-1<(trimL l).length:=by omega
  rw [List.drop_eq_getElem_cons hlt]
  have e1:(trimL l).length-1+1=(trimL l).length:=by omega
  rw [e1,List.drop_length]
  congr 1
  have:(trimL l)[(trimL l).length-1]? = l[(trimL l).length-1]?:=trim_get hlt
  rw [List.getElem?_eq_getElem hlt] at this
  rw [List.getD_eq_getElem?_getD,← this]
  rfl
 rw [hd]
 have hlow:=nv_lt (B:=2^64) (by decide) ((trimL l).take ((trimL l).length-1)) fun x hx=>hm x (List.mem_of_mem_take hx)
 rw [List.length_take,Nat.min_eq_left (by omega),pow64] at hlow
 have:nv (2^64) [l.getD ((trimL l).length-1) 0]=l.getD ((trimL l).length-1) 0:=by simp [nv]
 rw [this]
 exact blen_split hlow (by omega)
theorem trim_nil {l:List Nat} (h:∀ x∈l,x<2^64) (h0:(trimL l).length=0):nv (2^64) l=0:=by
 have:trimL l=[]:=List.eq_nil_of_length_eq_zero h0
 rw [← nv_trim (by decide) h,this]; rfl
theorem getD_lt {l:List Nat} {B:Nat} (hB:0<B) (h:∀ x∈l,x<B) (i:Nat):l.getD i 0<B:=by
 rw [List.getD_eq_getElem?_getD]
 cases e:l[i]? with
 | none=>exact hB
 | some x=>exact h x (List.mem_of_getElem? e)
theorem T151_eq (l:List Nat) (hl:Ws l):T151 (Wd l,())=some ((blen (nv (2^64) l):Int),()):=by
 obtain ⟨h,hlen⟩:=hl
 show t151 S173.pre S173.F S178.pre S178.F (Wd l)=_
 unfold t151
 have p0:=T173_eq l hlen
 have hle:=(trim_len l).1
 simp only [pre173 p0,fun173 p0,cond_true,Wd_len]
 rcases Nat.eq_zero_or_pos (trimL l).length with h0 | h0
 ·rw [h0,trim_nil h h0]; rfl
 ·have e0:(((trimL l).length:Int)==0)=false:=by rw [nbeq0]; exact beq_false_of_ne (by omega)
  have e1:IntKind.wrap .i64 (((trimL l).length:Int)-1)=(((trimL l).length-1:Nat):Int):=wsub (trimL l).length 1 (by omega) (by omega)
  have e2:(decide ((0:Int)≤(((trimL l).length-1:Nat):Int))&&decide ((((trimL l).length-1:Nat):Int)<((trimL l).length:Int)))=true:=by simp only [Bool.and_eq_true,decide_eq_true_eq]; omega
  have e3:(Wd (trimL l)).getD ((trimL l).length-1) 0=((l.getD ((trimL l).length-1) 0:Nat):Int):=by
   rw [Wd_getD]
   congr 1
   rw [List.getD_eq_getElem?_getD,List.getD_eq_getElem?_getD]
   rw [trim_get (by omega)]
  have hd:=getD_lt (by decide) h ((trimL l).length-1)
  have p1:=T178_eq _ hd
  have hb:blen (l.getD ((trimL l).length-1) 0)≤64:=by
   rcases Nat.eq_zero_or_pos (l.getD ((trimL l).length-1) 0) with z | z
   ·rw [z]; decide
   ·have:=blen_le (n:=l.getD ((trimL l).length-1) 0) (by omega)
    have:blen (l.getD ((trimL l).length-1) 0)-1<64:=(Nat.pow_lt_pow_iff_right (a:=2) (by decide)).1 (Nat.lt_of_le_of_lt this hd)
    omega
  rw [e0,e1,e2,cond_false,cond_true,Int.toNat_natCast,e3]
  simp only [pre178 p1,fun178 p1,cond_true]
  rw [blen_row h h0,wrapI (n:=64*(((trimL l).length-1:Nat):Int)) (by omega),wrapI (by omega)]
  congr 2
end VL
namespace VL
open Go Vx
theorem wrapN (x:Nat):IntKind.wrap .u64 (x:Int)=((x%2^64:Nat):Int):=by
 simp [IntKind.wrap,IntKind.bits,IntKind.signed]
 try omega
theorem shlN (x n:Nat) (hn:n≤64):shlI .u64 (x:Int) (n:Int)=((x*2^n%2^64:Nat):Int):=by
 have hm:(min (n:Int).toNat IntKind.u64.bits)=n:=by simp [IntKind.bits]; omega
 unfold shlI
 rw [hm]
 have e:(x:Int)*2^n=((x*2^n:Nat):Int):=by simp
 rw [e]
 exact wrapN _
theorem orN {a b k:Nat} (ha:a<2^k) (h:a+b*2^k<2^64):orI .u64 (a:Int) ((b*2^k:Nat):Int)=((a+b*2^k:Nat):Int):=by
 have key:(BitVec.ofInt 64 (a:Int) ||| BitVec.ofInt 64 ((b*2^k:Nat):Int)).toNat=a+b*2^k:=by
  rw [BitVec.toNat_or,ofInt_u64 (by omega),ofInt_u64 (by omega),Nat.mul_comm b,Nat.or_comm,← Nat.two_pow_add_eq_or_of_lt ha]
  omega
 show IntKind.u64.wrap (((BitVec.ofInt 64 (a:Int) ||| BitVec.ofInt 64 ((b*2^k:Nat):Int)).toNat:Nat):Int)=_
 rw [key]
 exact wrapU (by omega)
def shrL (s:Nat):List Nat→List Nat
 | []=>[]
 | x::r=>(x/2^s+(r.getD 0 0%2^s)*2^(64-s))::shrL s r
theorem shrL_len (s:Nat):∀ l,(shrL s l).length=l.length
 | []=>rfl
 | _::r=>by simp [shrL,shrL_len s r]
theorem shrL_get (s:Nat):∀ (l:List Nat) (i:Nat),i<l.length→(shrL s l)[i]? = some (l.getD i 0/2^s+(l.getD (i+1) 0%2^s)*2^(64-s))
 | [],i,h=>by simp at h
 | x::r,0,_=>by simp [shrL]
 | x::r,i+1,h=>by
  simp only [shrL,List.getElem?_cons_succ]
  rw [shrL_get s r i (by simpa using h)]
  simp
theorem pow_parts {s:Nat} (hs:s≤64):2^64=2^s*2^(64-s):=by rw [← Nat.pow_add]; congr 1; omega
theorem shr_word {s:Nat} (hs:s≤64) {x y:Nat} (hx:x<2^64):x/2^s<2^(64-s)∧x/2^s+(y%2^s)*2^(64-s)<2^64:=by
 have hp:=Nat.two_pow_pos s
 have h1:x/2^s<2^(64-s):=by
  rw [Nat.div_lt_iff_lt_mul hp,Nat.mul_comm,← pow_parts hs]; exact hx
 refine ⟨h1,?_⟩
 have h2:y%2^s+1≤2^s:=Nat.mod_lt _ hp
 have h3:=Nat.mul_le_mul_right (2^(64-s)) h2
 rw [← pow_parts hs,Nat.add_mul,Nat.one_mul] at h3
 omega
theorem nv_mod {B:Nat} {s:Nat} (hB:B%2^s=0):∀ l:List Nat,nv B l%2^s=l.getD 0 0%2^s
 | []=>by simp [nv]
 | x::r=>by
  simp only [nv,List.getD_cons_zero]
  obtain ⟨c,hc⟩:=Nat.dvd_of_mod_eq_zero hB
  rw [hc,Nat.mul_assoc,Nat.add_mul_mod_self_left]
theorem nv_shrL {s:Nat} (hs:s≤64):∀ l:List Nat,nv (2^64) (shrL s l)=nv (2^64) l/2^s
 | []=>by simp [shrL,nv]
 | x::r=>by
  have ih:=nv_shrL hs r
  simp only [shrL,nv]
  rw [ih]
  have hp:=Nat.two_pow_pos s
  have hm:=nv_mod (B:=2^64) (s:=s) (by rw [pow_parts hs]; exact Nat.mul_mod_right _ _) r
  rw [← hm]
  have hN:nv (2^64) r=2^s*(nv (2^64) r/2^s)+nv (2^64) r%2^s:=(Nat.div_add_mod _ _).symm
  generalize nv (2^64) r/2^s=q at *
  generalize nv (2^64) r%2^s=t at *
  rw [hN]
  have e:x+2^64*(2^s*q+t)=x+2^s*(2^64*q+2^(64-s)*t):=by
   rw [Nat.mul_add,Nat.mul_add]
   have e1:2^64*(2^s*q)=2^s*(2^64*q):=by rw [← Nat.mul_assoc,← Nat.mul_assoc,Nat.mul_comm (2^64) (2^s)]
   have e2:2^64*t=2^s*(2^(64-s)*t):=by rw [← Nat.mul_assoc,← pow_parts hs]
   rw [e1,e2]
  rw [e,Nat.add_mul_div_left _ _ hp,Nat.mul_comm t]
  omega
end VL
namespace VL
open Go Vx
theorem set_next {O:List Nat} {i v:Nat} (hi:i<O.length) (hv:O[i]? = some v):(O.take i++List.replicate (O.length-i) 0).set i v=O.take (i+1)++List.replicate (O.length-(i+1)) 0:=by
 have e:O.length-i=(O.length-(i+1))+1:=by omega
 have hl:(O.take i).length=i:=by simp; omega
 rw [e,List.replicate_succ,List.set_append_right _ _ (by omega),hl,Nat.sub_self,List.set_cons_zero]
 rw [List.take_succ,hv]
 simp
theorem getD_set {l:List Nat} {i v:Nat} (hi:i<l.length):(l.set i v).getD i 0=v:=by
 rw [List.getD_eq_getElem?_getD,List.getElem?_set_self hi]; rfl
theorem drop_getD (l:List Nat) (w i:Nat):(l.drop w).getD i 0=l.getD (w+i) 0:=by
 rw [List.getD_eq_getElem?_getD,List.getD_eq_getElem?_getD,List.getElem?_drop]
theorem quoN (n:Nat) (hn:n≤1000000000):quoI .i64 (n:Int) 64=((n/64:Nat):Int):=by
 unfold quoI
 have e:(n:Int).tdiv 64=((n/64:Nat):Int):=rfl
 rw [e,wrapI (by omega)]
theorem W1173_eq (l:List Nat) (hl:l.length≤1000000) (n:Nat) (hn:n≤l.length) (ht:(trimL l).length≤n) :
  W1173_2 (((),((n:Int),())),(Wd l,()))=some (.inl (((),(((trimL l).length:Int),())),(Wd l,()))):=by
 have key:=lfix_ind m1173_2 (fun x=>x.1.2.1.toNat)
  (fun x=>∃ n:Nat,n≤l.length∧(trimL l).length≤n∧x=(((),((n:Int),())),(Wd l,())))
  (fun _=>.inl (((),(((trimL l).length:Int),())),(Wd l,()))) ?_ (((),((n:Int),())),(Wd l,())) ⟨n,hn,ht,rfl⟩
 ·exact key
 intro L x hx hL
 obtain ⟨n,hn,ht,rfl⟩:=hx
 unfold h1173_2
 rcases Nat.eq_zero_or_pos n with rfl | hpos
 ·have e1:decide (((0:Nat):Int)>0)=false:=rfl
  simp only [e1,Bool.not_false,Bool.or_true,cond_true,Bool.false_and,cond_false]
  have:(trimL l).length=0:=by omega
  rw [this]
 ·have e0:IntKind.wrap .i64 ((n:Int)-1)=((n-1:Nat):Int):=wsub n 1 (by omega) (by omega)
  have e1:decide ((n:Int)>0)=true:=by simp; omega
  have e2:(decide ((0:Int)≤((n-1:Nat):Int))&&decide (((n-1:Nat):Int)<((Wd l).length:Int)))=true:=by
   rw [Wd_len]; simp; omega
  simp only [e0,e1,e2,Bool.true_or,cond_true,Bool.true_and,Int.toNat_natCast,Wd_getD,nbeq0]
  cases hz:(l.getD (n-1) 0==0) with
  | true =>
   simp only [cond_true]
   refine hL _ ⟨n-1,by omega,?_,rfl⟩ (by simp only [Int.toNat_natCast]; omega)
   rcases Nat.lt_or_ge (n-1) (trimL l).length with h | h
   ·exfalso
    have e:n=(trimL l).length:=by omega
    have:=trim_last l (by omega)
    rw [← e] at this
    exact this (by simpa using hz)
   ·exact h
  | false =>
   simp only [cond_false]
   have:(trimL l).length=n:=by
    rcases Nat.lt_or_ge (n-1) (trimL l).length with h | h
    ·omega
    ·exfalso
     have:=trim_out l (n-1) h
     rw [this] at hz
     simp at hz
   rw [this]
theorem T1173_eq (l:List Nat) (hl:l.length≤1000000):T1173 (Wd l,())=some (Wd (trimL l),()):=by
 show t1173 W1173_2 (Wd l)=_
 unfold t1173
 have h:=W1173_eq l hl l.length (Nat.le_refl _) (trim_len l).1
 rw [Wd_len]
 rw [h]
 have e:(decide ((0:Int)≤((trimL l).length:Int))&&decide (((trimL l).length:Int)≤((Wd l).length:Int)))=true:=by
  rw [Wd_len]; have:=(trim_len l).1; simp; omega
 show (bif (decide ((0:Int)≤((trimL l).length:Int))&&decide (((trimL l).length:Int)≤((Wd l).length:Int))) then some (List.take (Int.toNat ((trimL l).length:Int)) (Wd l),()) else none)=_
 rw [e,cond_true,Int.toNat_natCast,Wd_take]
 have:=(trim_len l).2
 rw [← this]
theorem W171_eq (a:List Nat) (ha:∀ x∈a,x<2^64) (hlen:a.length≤1000000) (w s:Nat) (hs:s<64) (hw:w≤a.length) (i:Nat) (hi:i≤(a.drop w).length) :
  W171_7 ((((a.drop w).length:Int),(Wd a,((w:Int),((s:Int),((i:Int),((),())))))),(Wd ((shrL s (a.drop w)).take i++List.replicate ((shrL s (a.drop w)).length-i) 0),()))=some (.inl (((),()),(Wd (shrL s (a.drop w)),()))):=by
 have key:=lfix_ind (m171_7 S173.pre S173.F) (fun x=>(a.drop w).length-x.1.2.2.2.2.1.toNat)
  (fun x=>∃ i:Nat,i≤(a.drop w).length∧x=((((a.drop w).length:Int),(Wd a,((w:Int),((s:Int),((i:Int),((),())))))),(Wd ((shrL s (a.drop w)).take i++List.replicate ((shrL s (a.drop w)).length-i) 0),())))
  (fun _=>.inl (((),()),(Wd (shrL s (a.drop w)),()))) ?_ _ ⟨i,hi,rfl⟩
 ·exact key
 intro L x hx hL
 obtain ⟨i,hi,rfl⟩:=hx
 unfold h171_7
 have hdl:(a.drop w).length=a.length-w:=by simp
 have hol:=shrL_len s (a.drop w)
 rcases Nat.lt_or_ge i (a.drop w).length with hlt | hge
 ·have e1:decide ((i:Int)<((a.drop w).length:Int))=true:=by simp; omega
  have e2:IntKind.wrap .i64 ((w:Int)+(i:Int))=((w+i:Nat):Int):=by rw [wrapI (by omega)]; omega
  have e3:(decide ((0:Int)≤((w+i:Nat):Int))&&decide (((w+i:Nat):Int)<((Wd a).length:Int)))=true:=by
   rw [Wd_len]; simp only [Bool.and_eq_true,decide_eq_true_eq]; omega
  have e4:decide ((0:Int)≤(s:Int))=true:=by simp
  have houtl:((shrL s (a.drop w)).take i++List.replicate ((shrL s (a.drop w)).length-i) 0).length=(a.drop w).length:=by simp; omega
  generalize hout:(shrL s (a.drop w)).take i++List.replicate ((shrL s (a.drop w)).length-i) 0=out at houtl ⊢
  have e5:(decide ((0:Int)≤(i:Int))&&decide ((i:Int)<((Wd out).length:Int)))=true:=by
   rw [Wd_len]; simp only [Bool.and_eq_true,decide_eq_true_eq]; omega
  have e6:IntKind.wrap .i64 (((w+i:Nat):Int)+1)=((w+i+1:Nat):Int):=by rw [wrapI (by omega)]; omega
  have e7:IntKind.wrap .i64 ((i:Int)+1)=((i+1:Nat):Int):=by rw [wrapI (by omega)]; omega
  have e8:IntKind.wrap .i64 (64-(s:Int))=((64-s:Nat):Int):=wsub 64 s (by omega) (by omega)
  have hx:=getD_lt (by decide) ha (w+i)
  have hget:=shrL_get s (a.drop w) i hlt
  rw [drop_getD,drop_getD,← Nat.add_assoc] at hget
  have hnext:=fun v (hv:(shrL s (a.drop w))[i]? = some v)=>set_next (by omega) hv
  rw [hout] at hnext
  have e9:∀ v:Nat,(decide ((0:Int)≤(i:Int))&&decide ((i:Int)<((Wd (out.set i v)).length:Int)))=true:=fun v=>by
   rw [Wd_len,List.length_set]; simp only [Bool.and_eq_true,decide_eq_true_eq]; omega
  simp only [e1,e2,e3,e4,e5,e6,e7,e8,cond_true,Int.toNat_natCast,Wd_getD,shrN _ s (by omega),Wd_set,e9]
  rcases Nat.lt_or_ge (w+i+1) a.length with h1 | h1
  ·have f1:decide (((w+i+1:Nat):Int)<((Wd a).length:Int))=true:=by rw [Wd_len]; exact decide_eq_true (by omega)
   have f2:decide ((0:Int)≤((w+i+1:Nat):Int))=true:=decide_eq_true (by omega)
   have f3:decide ((0:Int)≤((64-s:Nat):Int))=true:=decide_eq_true (by omega)
   simp only [f1,f2,f3,Bool.and_self,cond_true]
   have hw2:=shr_word (s:=s) (y:=a.getD (w+i+1) 0) (by omega) hx
   have g1:a.getD (w+i+1) 0*2^(64-s)%2^64=(a.getD (w+i+1) 0%2^s)*2^(64-s):=by
    rw [pow_parts (s:=s) (by omega),Nat.mul_mod_mul_right]
   rw [getD_set (by omega),shlN _ _ (by omega),g1,orN hw2.1 hw2.2,Wd_set,List.set_set,hnext _ hget]
   exact hL _ ⟨i+1,by omega,rfl⟩ (by simp only [Int.toNat_natCast]; omega)
  ·have f1:decide (((w+i+1:Nat):Int)<((Wd a).length:Int))=false:=by rw [Wd_len]; exact decide_eq_false (by omega)
   have hz:a.getD (w+i+1) 0=0:=by rw [List.getD_eq_getElem?_getD,List.getElem?_eq_none h1]; rfl
   rw [hz,Nat.zero_mod,Nat.zero_mul,Nat.add_zero] at hget
   simp only [f1,cond_false]
   rw [hnext _ hget]
   exact hL _ ⟨i+1,by omega,rfl⟩ (by simp only [Int.toNat_natCast]; omega)
 ·have hie:i=(a.drop w).length:=by omega
  subst hie
  have e1:decide (((a.drop w).length:Int)<((a.drop w).length:Int))=false:=by simp
  simp only [e1,cond_false]
  have:(shrL s (a.drop w)).take (a.drop w).length++List.replicate ((shrL s (a.drop w)).length-(a.drop w).length) 0=shrL s (a.drop w):=by
   rw [← hol,List.take_length,Nat.sub_self,List.replicate_zero,List.append_nil]
  rw [this]
theorem T171_eq (l:List Nat) (hl:Ws l) (n:Nat) (hn:n≤100000000):T171 (Wd l,(n:Int),())=some (Wd (dg (2^64) (nv (2^64) l/2^n)),()):=by
 obtain ⟨h,hlen⟩:=hl
 show t171 S173.pre S173.F W171_7 (Wd l) n=_
 unfold t171
 have p0:=T173_eq l hlen
 have hB:2≤2^64:=by decide
 have hle:=(trim_len l).1
 have hm:∀ x∈trimL l,x<2^64:=fun x hx=>h x (trim_mem hx)
 have hv:=nv_trim hB h
 have hsplit:2^n=(2^64)^(n/64)*2^(n%64):=by rw [pow64,← Nat.pow_add]; congr 1; omega
 simp only [pre173 p0,fun173 p0,cond_true,Wd_len,quoN n (by omega)]
 rcases Nat.lt_or_ge (n/64) (trimL l).length with h1 | h1
 ·have e1:decide (((n/64:Nat):Int)≥((trimL l).length:Int))=false:=by simp; omega
  have e2:IntKind.wrap .i64 (((trimL l).length:Int)-((n/64:Nat):Int))=(((trimL l).drop (n/64)).length:Int):=by
   rw [wsub _ _ (by omega) (by omega)]; simp
  have hdl:((trimL l).drop (n/64)).length≤1000000:=by simp; omega
  have e3:(decide ((0:Int)≤(((trimL l).drop (n/64)).length:Int))&&decide ((((trimL l).drop (n/64)).length:Int)*8≤140737488355328))=true:=by
   simp only [Bool.and_eq_true,decide_eq_true_eq]; omega
  have e4:Int.tmod (n:Int) 64=((n%64:Nat):Int):=rfl
  have hw:=W171_eq (trimL l) hm (by omega) (n/64) (n%64) (Nat.mod_lt _ (by decide)) (by omega) 0 (Nat.zero_le _)
  rw [List.take_zero,List.nil_append,Nat.sub_zero,shrL_len] at hw
  rw [e1,e2,e3,cond_false,cond_true,Int.toNat_natCast,e4,Wd_rep,Wd_len,List.length_replicate]
  rw [show ((0:Nat):Int)=0 from rfl] at hw
  rw [hw]
  have hos:∀ x∈shrL (n%64) ((trimL l).drop (n/64)),x<2^64:=fun x hx=>by
   obtain ⟨i,hi⟩:=List.getElem?_of_mem hx
   have hil:i<((trimL l).drop (n/64)).length:=by rw [← shrL_len (n%64)]; exact (List.getElem?_eq_some_iff.1 hi).1
   rw [shrL_get _ _ i hil] at hi
   cases hi
   exact (shr_word (s:=n%64) (by omega) (getD_lt (by decide) (fun y hy=>hm y (List.mem_of_mem_drop hy)) i)).2
  have p1:=T173_eq (shrL (n%64) ((trimL l).drop (n/64))) (by rw [shrL_len]; exact hdl)
  show (bif S173.pre (Wd (shrL (n%64) ((trimL l).drop (n/64))),()) then some (S173.F (Wd (shrL (n%64) ((trimL l).drop (n/64))),())) else none)=_
  rw [pre173 p1,fun173 p1,cond_true,trim_dg hB _ hos,nv_shrL (by omega)]
  have hd:nv (2^64) ((trimL l).drop (n/64))=nv (2^64) l/(2^64)^(n/64):=by
   rw [← hv,nv_split _ (trimL l) (n/64) (by omega)]
   have hlow:=nv_lt hB ((trimL l).take (n/64)) fun x hx=>hm x (List.mem_of_mem_take hx)
   rw [List.length_take,Nat.min_eq_left (by omega)] at hlow
   rw [Nat.add_mul_div_left _ _ (Nat.pow_pos (by decide)),Nat.div_eq_of_lt hlow,Nat.zero_add]
  rw [hd,Nat.div_div_eq_div_mul,← hsplit]
  rfl
 ·have e1:decide (((n/64:Nat):Int)≥((trimL l).length:Int))=true:=by simp; omega
  rw [e1,cond_true]
  have hz:nv (2^64) l/2^n=0:=by
   rw [← hv]
   have:=nv_lt hB (trimL l) hm
   apply Nat.div_eq_of_lt
   refine Nat.lt_of_lt_of_le this ?_
   rw [pow64]
   exact Nat.pow_le_pow_right (by decide) (by omega)
  rw [hz,dg_zero]; rfl
theorem W1171_eq (a:List Nat) (ha:∀ x∈a,x<2^64) (hlen:a.length≤1000000) (w s:Nat) (hs:s<64) (hw:w≤a.length) (i:Nat) (hi:i≤(a.drop w).length) :
  W1171_7 ((((a.drop w).length:Int),(Wd a,((w:Int),((s:Int),((i:Int),((),())))))),(Wd ((shrL s (a.drop w)).take i++List.replicate ((shrL s (a.drop w)).length-i) 0),()))=some (.inl (((),()),(Wd (shrL s (a.drop w)),()))):=by
 have key:=lfix_ind (m1171_7 S1173.pre S1173.F S173.pre S173.F) (fun x=>(a.drop w).length-x.1.2.2.2.2.1.toNat)
  (fun x=>∃ i:Nat,i≤(a.drop w).length∧x=((((a.drop w).length:Int),(Wd a,((w:Int),((s:Int),((i:Int),((),())))))),(Wd ((shrL s (a.drop w)).take i++List.replicate ((shrL s (a.drop w)).length-i) 0),())))
  (fun _=>.inl (((),()),(Wd (shrL s (a.drop w)),()))) ?_ _ ⟨i,hi,rfl⟩
 ·exact key
 intro L x hx hL
 obtain ⟨i,hi,rfl⟩:=hx
 unfold h1171_7
 have hdl:(a.drop w).length=a.length-w:=by simp
 have hol:=shrL_len s (a.drop w)
 rcases Nat.lt_or_ge i (a.drop w).length with hlt | hge
 ·have e1:decide ((i:Int)<((a.drop w).length:Int))=true:=by simp; omega
  have e2:IntKind.wrap .i64 ((w:Int)+(i:Int))=((w+i:Nat):Int):=by rw [wrapI (by omega)]; omega
  have e3:(decide ((0:Int)≤((w+i:Nat):Int))&&decide (((w+i:Nat):Int)<((Wd a).length:Int)))=true:=by
   rw [Wd_len]; simp only [Bool.and_eq_true,decide_eq_true_eq]; omega
  have e4:decide ((0:Int)≤(s:Int))=true:=by simp
  have houtl:((shrL s (a.drop w)).take i++List.replicate ((shrL s (a.drop w)).length-i) 0).length=(a.drop w).length:=by simp; omega
  generalize hout:(shrL s (a.drop w)).take i++List.replicate ((shrL s (a.drop w)).length-i) 0=out at houtl ⊢
  have e5:(decide ((0:Int)≤(i:Int))&&decide ((i:Int)<((Wd out).length:Int)))=true:=by
   rw [Wd_len]; simp only [Bool.and_eq_true,decide_eq_true_eq]; omega
  have e6:IntKind.wrap .i64 (((w+i:Nat):Int)+1)=((w+i+1:Nat):Int):=by rw [wrapI (by omega)]; omega
  have e7:IntKind.wrap .i64 ((i:Int)+1)=((i+1:Nat):Int):=by rw [wrapI (by omega)]; omega
  have e8:IntKind.wrap .i64 (64-(s:Int))=((64-s:Nat):Int):=wsub 64 s (by omega) (by omega)
  have hx:=getD_lt (by decide) ha (w+i)
  have hget:=shrL_get s (a.drop w) i hlt
  rw [drop_getD,drop_getD,← Nat.add_assoc] at hget
  have hnext:=fun v (hv:(shrL s (a.drop w))[i]? = some v)=>set_next (by omega) hv
  rw [hout] at hnext
  have e9:∀ v:Nat,(decide ((0:Int)≤(i:Int))&&decide ((i:Int)<((Wd (out.set i v)).length:Int)))=true:=fun v=>by
   rw [Wd_len,List.length_set]; simp only [Bool.and_eq_true,decide_eq_true_eq]; omega
  simp only [e1,e2,e3,e4,e5,e6,e7,e8,cond_true,Int.toNat_natCast,Wd_getD,shrN _ s (by omega),Wd_set,e9]
  rcases Nat.lt_or_ge (w+i+1) a.length with h1 | h1
  ·have f1:decide (((w+i+1:Nat):Int)<((Wd a).length:Int))=true:=by rw [Wd_len]; exact decide_eq_true (by omega)
   have f2:decide ((0:Int)≤((w+i+1:Nat):Int))=true:=decide_eq_true (by omega)
   have f3:decide ((0:Int)≤((64-s:Nat):Int))=true:=decide_eq_true (by omega)
   simp only [f1,f2,f3,Bool.and_self,cond_true]
   have hw2:=shr_word (s:=s) (y:=a.getD (w+i+1) 0) (by omega) hx
   have g1:a.getD (w+i+1) 0*2^(64-s)%2^64=(a.getD (w+i+1) 0%2^s)*2^(64-s):=by
    rw [pow_parts (s:=s) (by omega),Nat.mul_mod_mul_right]
   rw [getD_set (by omega),shlN _ _ (by omega),g1,orN hw2.1 hw2.2,Wd_set,List.set_set,hnext _ hget]
   exact hL _ ⟨i+1,by omega,rfl⟩ (by simp only [Int.toNat_natCast]; omega)
  ·have f1:decide (((w+i+1:Nat):Int)<((Wd a).length:Int))=false:=by rw [Wd_len]; exact decide_eq_false (by omega)
   have hz:a.getD (w+i+1) 0=0:=by rw [List.getD_eq_getElem?_getD,List.getElem?_eq_none h1]; rfl
   rw [hz,Nat.zero_mod,Nat.zero_mul,Nat.add_zero] at hget
   simp only [f1,cond_false]
   rw [hnext _ hget]
   exact hL _ ⟨i+1,by omega,rfl⟩ (by simp only [Int.toNat_natCast]; omega)
 ·have hie:i=(a.drop w).length:=by omega
  subst hie
  have e1:decide (((a.drop w).length:Int)<((a.drop w).length:Int))=false:=by simp
  simp only [e1,cond_false]
  have:(shrL s (a.drop w)).take (a.drop w).length++List.replicate ((shrL s (a.drop w)).length-(a.drop w).length) 0=shrL s (a.drop w):=by
   rw [← hol,List.take_length,Nat.sub_self,List.replicate_zero,List.append_nil]
  rw [this]
theorem T1171_eq (l:List Nat) (hl:Ws l) (n:Nat) (hn:n≤100000000):T1171 (Wd l,(n:Int),())=some (Wd (dg (2^64) (nv (2^64) l/2^n)),()):=by
 obtain ⟨h,hlen⟩:=hl
 show t1171 S1173.pre S1173.F S173.pre S173.F W1171_7 (Wd l) n=_
 unfold t1171
 have p0:=T173_eq l hlen
 have hB:2≤2^64:=by decide
 have hle:=(trim_len l).1
 have hm:∀ x∈trimL l,x<2^64:=fun x hx=>h x (trim_mem hx)
 have hv:=nv_trim hB h
 have hsplit:2^n=(2^64)^(n/64)*2^(n%64):=by rw [pow64,← Nat.pow_add]; congr 1; omega
 simp only [pre173 p0,fun173 p0,cond_true,Wd_len,quoN n (by omega)]
 rcases Nat.lt_or_ge (n/64) (trimL l).length with h1 | h1
 ·have e1:decide (((n/64:Nat):Int)≥((trimL l).length:Int))=false:=by simp; omega
  have e2:IntKind.wrap .i64 (((trimL l).length:Int)-((n/64:Nat):Int))=(((trimL l).drop (n/64)).length:Int):=by
   rw [wsub _ _ (by omega) (by omega)]; simp
  have hdl:((trimL l).drop (n/64)).length≤1000000:=by simp; omega
  have e3:(decide ((0:Int)≤(((trimL l).drop (n/64)).length:Int))&&decide ((((trimL l).drop (n/64)).length:Int)*8≤140737488355328))=true:=by
   simp only [Bool.and_eq_true,decide_eq_true_eq]; omega
  have e4:Int.tmod (n:Int) 64=((n%64:Nat):Int):=rfl
  have hw:=W1171_eq (trimL l) hm (by omega) (n/64) (n%64) (Nat.mod_lt _ (by decide)) (by omega) 0 (Nat.zero_le _)
  rw [List.take_zero,List.nil_append,Nat.sub_zero,shrL_len] at hw
  rw [e1,e2,e3,cond_false,cond_true,Int.toNat_natCast,e4,Wd_rep,Wd_len,List.length_replicate]
  rw [show ((0:Nat):Int)=0 from rfl] at hw
  rw [hw]
  have hos:∀ x∈shrL (n%64) ((trimL l).drop (n/64)),x<2^64:=fun x hx=>by
   obtain ⟨i,hi⟩:=List.getElem?_of_mem hx
   have hil:i<((trimL l).drop (n/64)).length:=by rw [← shrL_len (n%64)]; exact (List.getElem?_eq_some_iff.1 hi).1
   rw [shrL_get _ _ i hil] at hi
   cases hi
   exact (shr_word (s:=n%64) (by omega) (getD_lt (by decide) (fun y hy=>hm y (List.mem_of_mem_drop hy)) i)).2
  have p1:=T1173_eq (shrL (n%64) ((trimL l).drop (n/64))) (by rw [shrL_len]; exact hdl)
  show (bif S1173.pre (Wd (shrL (n%64) ((trimL l).drop (n/64))),()) then some (S1173.F (Wd (shrL (n%64) ((trimL l).drop (n/64))),())) else none)=_
  rw [pre1173 p1,fun1173 p1,cond_true,trim_dg hB _ hos,nv_shrL (by omega)]
  have hd:nv (2^64) ((trimL l).drop (n/64))=nv (2^64) l/(2^64)^(n/64):=by
   rw [← hv,nv_split _ (trimL l) (n/64) (by omega)]
   have hlow:=nv_lt hB ((trimL l).take (n/64)) fun x hx=>hm x (List.mem_of_mem_take hx)
   rw [List.length_take,Nat.min_eq_left (by omega)] at hlow
   rw [Nat.add_mul_div_left _ _ (Nat.pow_pos (by decide)),Nat.div_eq_of_lt hlow,Nat.zero_add]
  rw [hd,Nat.div_div_eq_div_mul,← hsplit]
  rfl
 ·have e1:decide (((n/64:Nat):Int)≥((trimL l).length:Int))=true:=by simp; omega
  rw [e1,cond_true]
  have hz:nv (2^64) l/2^n=0:=by
   rw [← hv]
   have:=nv_lt hB (trimL l) hm
   apply Nat.div_eq_of_lt
   refine Nat.lt_of_lt_of_le this ?_
   rw [pow64]
   exact Nat.pow_le_pow_right (by decide) (by omega)
  rw [hz,dg_zero]; rfl
end VL
namespace VL
open Go Vx
theorem wadd (a b:Nat) (h:a+b<2^62):IntKind.wrap .i64 ((a:Int)+(b:Int))=((a+b:Nat):Int):=by rw [wrapI (by omega)]; omega
theorem wadd1 (a:Nat) (h:a<2^62):IntKind.wrap .i64 ((a:Int)+1)=((a+1:Nat):Int):=by rw [wrapI (by omega)]; omega
theorem wadd64 (a:Nat) (h:a<2^56):IntKind.wrap .i64 (64*(a:Int))=((64*a:Nat):Int):=by rw [wrapI (by omega)]; omega
theorem wmul64 (a:Nat) (h:a<2^56):IntKind.wrap .i64 ((a:Int)*64)=((64*a:Nat):Int):=by rw [wrapI (by omega)]; omega
theorem wsubn (m n:Nat) (h:n≤m∧m<2^62):IntKind.wrap .i64 ((m:Int)-(n:Int))=((m-n:Nat):Int):=by rw [wrapI (by omega)]; omega
theorem wsub1 (m:Nat) (h:1≤m∧m<2^62):IntKind.wrap .i64 ((m:Int)-1)=((m-1:Nat):Int):=by rw [wrapI (by omega)]; omega
theorem ilt_t (a b:Nat) (h:a<b):decide ((a:Int)<(b:Int))=true:=decide_eq_true (by omega)
theorem ilt_f (a b:Nat) (h:b≤a):decide ((a:Int)<(b:Int))=false:=decide_eq_false (by omega)
theorem ile_t (a b:Nat) (h:a≤b):decide ((a:Int)≤(b:Int))=true:=decide_eq_true (by omega)
theorem ile_f (a b:Nat) (h:b<a):decide ((a:Int)≤(b:Int))=false:=decide_eq_false (by omega)
theorem igt_t (a b:Nat) (h:b<a):decide ((a:Int)>(b:Int))=true:=decide_eq_true (by omega)
theorem igt_f (a b:Nat) (h:a≤b):decide ((a:Int)>(b:Int))=false:=decide_eq_false (by omega)
theorem ige_t (a b:Nat) (h:b≤a):decide ((a:Int)≥(b:Int))=true:=decide_eq_true (by omega)
theorem ige_f (a b:Nat) (h:a<b):decide ((a:Int)≥(b:Int))=false:=decide_eq_false (by omega)
theorem ipos_t (a:Nat) (h:0<a):decide ((0:Int)<(a:Int))=true:=decide_eq_true (by omega)
theorem ipos_f (a:Nat) (h:a=0):decide ((0:Int)<(a:Int))=false:=decide_eq_false (by omega)
theorem igt0_t (a:Nat) (h:0<a):decide ((a:Int)>0)=true:=decide_eq_true (by omega)
theorem igt0_f (a:Nat) (h:a=0):decide ((a:Int)>0)=false:=decide_eq_false (by omega)
theorem ineg_f (a:Nat):decide ((a:Int)<0)=false:=decide_eq_false (by omega)
theorem beq0_t (a:Nat) (h:a=0):((a:Int)==0)=true:=by rw [nbeq0]; simp [h]
theorem beq0_f (a:Nat) (h:a≠0):((a:Int)==0)=false:=by rw [nbeq0]; simp [h]
theorem bne0_t (a:Nat) (h:a≠0):((a:Int) != 0)=true:=by rw [nbne0]; simp [h]
theorem bne0_f (a:Nat) (h:a=0):((a:Int) != 0)=false:=by rw [nbne0]; simp [h]
def pd (B:Nat):Nat→Nat→List Nat
 | 0,_=>[]
 | k+1,v=>v%B::pd B k (v/B)
theorem pd_len (B:Nat):∀ k v,(pd B k v).length=k
 | 0,_=>rfl
 | k+1,v=>by simp [pd,pd_len B k]
theorem pd_lt {B:Nat} (hB:0<B):∀ k v,∀ x∈pd B k v,x<B
 | 0,_,x,hx=>by simp [pd] at hx
 | k+1,v,x,hx=>by
  simp only [pd,List.mem_cons] at hx
  rcases hx with rfl | hx
  ·exact Nat.mod_lt _ hB
  ·exact pd_lt hB k _ x hx
theorem pd_of {B:Nat} (hB:0<B):∀ (l:List Nat),(∀ x∈l,x<B)→l=pd B l.length (nv B l)
 | [],_=>rfl
 | x::r,h=>by
  have hx:=h x (by simp)
  simp only [List.length_cons,pd,nv]
  rw [Nat.add_mul_mod_self_left,Nat.mod_eq_of_lt hx,Nat.add_mul_div_left _ _ hB,Nat.div_eq_of_lt hx,Nat.zero_add,← pd_of hB r fun y hy=>h y (by simp [hy])]
theorem pd_at {B:Nat} (hB:0<B) {l:List Nat} {k v:Nat} (h:∀ x∈l,x<B) (hl:l.length=k) (hv:nv B l=v):l=pd B k v:=by
 have:=pd_of hB l h
 rw [hl,hv] at this
 exact this
theorem pd_nv {B:Nat} (hB:0<B):∀ k v,v<B^k→nv B (pd B k v)=v
 | 0,v,h=>by simp at h; subst h; rfl
 | k+1,v,h=>by
  simp only [pd,nv]
  rw [pd_nv hB k (v/B) (by rw [Nat.div_lt_iff_lt_mul hB,← Nat.pow_succ]; exact h)]
  exact Nat.mod_add_div v B
theorem pd_get (B:Nat):∀ k v i,i<k→(pd B k v).getD i 0=v/B^i%B
 | 0,_,_,h=>by omega
 | k+1,v,0,_=>by simp [pd]
 | k+1,v,i+1,h=>by
  simp only [pd,List.getD_cons_succ]
  rw [pd_get B k (v/B) i (by omega),Nat.div_div_eq_div_mul,← Nat.pow_succ']
theorem pd_zero (B:Nat):∀ k,pd B k 0=List.replicate k 0
 | 0=>rfl
 | k+1=>by simp [pd,pd_zero B k,List.replicate_succ]
theorem nv_set (B:Nat):∀ (l:List Nat) (i x:Nat),i<l.length→nv B (l.set i x)+B^i*l.getD i 0=nv B l+B^i*x
 | [],_,_,h=>by simp at h
 | y::r,0,x,_=>by simp [nv]; omega
 | y::r,i+1,x,h=>by
  have:=nv_set B r i x (by simpa using h)
  simp only [List.set_cons_succ,nv,List.getD_cons_succ,Nat.pow_succ']
  rw [Nat.mul_assoc,Nat.mul_assoc,Nat.add_assoc,Nat.add_assoc,← Nat.mul_add,← Nat.mul_add,this]
theorem set_lt {B:Nat} {l:List Nat} (h:∀ x∈l,x<B) {i v:Nat} (hv:v<B):∀ x∈l.set i v,x<B:=fun x hx=>by
 rcases List.mem_or_eq_of_mem_set hx with h1 | h1
 ·exact h x h1
 ·rw [h1]; exact hv
theorem dg_trim {B:Nat} (hB:2≤B) (n:Nat):trimL (dg B n)=dg B n:=by
 rw [trim_dg hB _ (dg_lt hB n),nv_dg hB]
theorem nv_take_succ (B:Nat) (l:List Nat) (i:Nat) (h:i<l.length):nv B (l.take (i+1))=nv B (l.take i)+B^i*l.getD i 0:=by
 have hs:=nv_split B (l.take (i+1)) i (by simp; omega)
 rw [hs,List.take_take,Nat.min_eq_left (by omega)]
 congr 2
 rw [List.drop_take,Nat.add_sub_cancel_left,List.getD_eq_getElem?_getD]
 rw [List.drop_eq_getElem_cons h,List.getElem?_eq_getElem h]
 show l[i]+B*0=l[i]
 rw [Nat.mul_zero,Nat.add_zero]
theorem two_split {x:Nat} (h:0<x):∃ t k,x=2^t*(2*k+1):=by
 induction x using Nat.strongRecOn with
 | ind x ih =>
  rcases Nat.mod_two_eq_zero_or_one x with h0 | h1
  ·obtain ⟨t,k,e⟩:=ih (x/2) (by omega) (by omega)
   refine ⟨t+1,k,?_⟩
   rw [Nat.pow_succ,Nat.mul_comm (2^t) 2,Nat.mul_assoc,← e]
   omega
  ·exact ⟨0,x/2,by simp; omega⟩
theorem odd_pow {t k n:Nat}:(2^t*(2*k+1))%2^n=0↔n≤t:=by
 constructor
 ·intro h
  rcases Nat.lt_or_ge t n with hlt | hge
  ·exfalso
   have e:n=t+(n-t-1)+1:=by omega
   rw [e,Nat.add_assoc,Nat.pow_add,Nat.mul_mod_mul_left,Nat.pow_succ] at h
   have hp:=Nat.two_pow_pos t
   have h2:(2*k+1)%(2^(n-t-1)*2)=0:=by
    rcases Nat.mul_eq_zero.1 h with h | h
    ·omega
    ·exact h
   have:(2*k+1)%2=0:=by
    have:=Nat.mod_mod_of_dvd (2*k+1) (show 2 ∣ 2^(n-t-1)*2 from ⟨_,Nat.mul_comm _ _⟩)
    rw [h2] at this
    omega
   omega
  ·exact hge
 ·intro h
  have e:t=n+(t-n):=by omega
  rw [e,Nat.pow_add,Nat.mul_assoc]
  exact Nat.mul_mod_right _ _
theorem and_neg {t k:Nat} (h:2^t*(2*k+1)<2^64):2^t*(2*k+1) &&& (2^64-2^t*(2*k+1))=2^t:=by
 have hp:=Nat.two_pow_pos t
 have ht:t<64:=by
  have:2^t*1≤2^t*(2*k+1):=Nat.mul_le_mul_left _ (by omega)
  exact (Nat.pow_lt_pow_iff_right (a:=2) (by decide)).1 (by omega)
 have hz:2^t*(2*k)+(2^t-1)+1=2^t*(2*k+1):=by rw [Nat.mul_add,Nat.mul_one]; omega
 have hb:∀ i,(2^64-2^t*(2*k+1)).testBit i=(decide (i<64)&&!(2^t*(2*k)+(2^t-1)).testBit i):=fun i=>by
  rw [← hz,Nat.testBit_two_pow_sub_succ (by omega)]
 apply Nat.eq_of_testBit_eq
 intro i
 rw [Nat.testBit_and,hb,Nat.testBit_two_pow]
 have h1:(2^t*(2*k+1)).testBit i=(decide (t≤i)&&(2*k+1).testBit (i-t)):=by
  have:=Nat.testBit_two_pow_mul_add (2*k+1) hp i
  rw [Nat.add_zero] at this
  rw [this]
  by_cases hi:i<t
  ·simp [hi]; omega
  ·simp [hi]; omega
 rw [h1,Nat.testBit_two_pow_mul_add (2*k) (show 2^t-1<2^t by omega) i]
 rcases Nat.lt_trichotomy i t with hi | hi | hi
 ·simp [show ¬ t≤i by omega,show ¬ t=i by omega]
 ·subst hi
  simp [ht]
 ·have e:i-t=(i-t-1)+1:=by omega
  simp only [show ¬ i<t by omega,if_false,show ¬ t=i by omega,decide_false]
  rw [e,Nat.testBit_succ,Nat.testBit_succ,show (2*k+1)/2=k by omega,show 2*k/2=k by omega]
  cases k.testBit (i-t-1) <;> simp
theorem andN {a b:Nat} (ha:a<2^64) (hb:b<2^64):andI .u64 (a:Int) (b:Int)=((a &&& b:Nat):Int):=by
 have key:(BitVec.ofInt 64 (a:Int) &&& BitVec.ofInt 64 (b:Int)).toNat=a &&& b:=by
  rw [BitVec.toNat_and,ofInt_u64 ha,ofInt_u64 hb]
 show IntKind.u64.wrap (((BitVec.ofInt 64 (a:Int) &&& BitVec.ofInt 64 (b:Int)).toNat:Nat):Int)=_
 rw [key]
 have:=Nat.and_le_left (n:=a) (m:=b)
 exact wrapU (by omega)
theorem orN2 {a b:Nat} (ha:a<2^64) (hb:b<2^64):orI .u64 (a:Int) (b:Int)=((a ||| b:Nat):Int):=by
 have key:(BitVec.ofInt 64 (a:Int) ||| BitVec.ofInt 64 (b:Int)).toNat=a ||| b:=by
  rw [BitVec.toNat_or,ofInt_u64 ha,ofInt_u64 hb]
 show IntKind.u64.wrap (((BitVec.ofInt 64 (a:Int) ||| BitVec.ofInt 64 (b:Int)).toNat:Nat):Int)=_
 rw [key]
 have:=Nat.or_lt_two_pow ha hb
 exact wrapU (by omega)
theorem deb:∀ t:Nat,t<64→IntKind.wrap .i64 (k_deb.getD (2^t*285870213051353865%2^64/2^58) 0)=(t:Int):=by
 have h:((List.range 64).all fun t=>decide (IntKind.wrap .i64 (k_deb.getD (2^t*285870213051353865%2^64/2^58) (0:Int))=(t:Int)))=true:=by decide +kernel
 intro t ht
 have:=List.all_eq_true.1 h t (List.mem_range.2 ht)
 simpa using this
theorem T92_eq {t k:Nat} (h:2^t*(2*k+1)<2^64):T92 (((2^t*(2*k+1):Nat):Int),())=some ((t:Int),()):=by
 have hp:=Nat.two_pow_pos t
 have h1:2^t*1≤2^t*(2*k+1):=Nat.mul_le_mul_left _ (by omega)
 have ht:t<64:=(Nat.pow_lt_pow_iff_right (a:=2) (by decide)).1 (by omega)
 have han:=and_neg h
 show t92 ((2^t*(2*k+1):Nat):Int)=_
 generalize hx:2^t*(2*k+1)=x at *
 unfold t92
 have e1:IntKind.wrap .u64 ((0:Int)-(x:Int))=((2^64-x:Nat):Int):=by
  have:∀ y:Int,IntKind.wrap .u64 y=y%18446744073709551616:=fun y=>by
   simp [IntKind.wrap,IntKind.bits,IntKind.signed]
  rw [this]; omega
 have e2:IntKind.wrap .u64 (((2^t:Nat):Int)*285870213051353865)=((2^t*285870213051353865%2^64:Nat):Int):=wrapN (2^t*285870213051353865)
 have e3:shrI .u64 ((2^t*285870213051353865%2^64:Nat):Int) 58=((2^t*285870213051353865%2^64/2^58:Nat):Int):=shrN _ 58 (by decide)
 have e4:2^t*285870213051353865%2^64/2^58<64:=by omega
 have e5:(decide ((0:Int)≤((2^t*285870213051353865%2^64/2^58:Nat):Int))&&decide (((2^t*285870213051353865%2^64/2^58:Nat):Int)<(64:Nat)))=true:=by
  rw [decide_eq_true (by omega),decide_eq_true (by omega)]; rfl
 rw [e1,andN h (by omega),han,e2,e3,e5,sealB_eq,cond_true,beq0_f x (by omega),cond_false,Int.toNat_natCast,deb t ht]
end VL
namespace VL
open Go Vx
def Dw (n:Nat):List Int:=Wd (dg (2^64) n)
theorem dg_ws (n:Nat) (h:(dg (2^64) n).length≤1000000):Ws (dg (2^64) n):=⟨dg_lt (by decide) n,h⟩
theorem dg_len_le {B:Nat} (hB:2≤B):∀ (k n:Nat),n<B^k→(dg B n).length≤k
 | 0,n,h=>by simp at h; subst h; rw [dg_zero]; simp
 | k+1,n,h=>by
  rcases Nat.eq_zero_or_pos n with rfl | hn
  ·rw [dg_zero]; simp
  ·rw [dg_pos hB hn]
   have:=dg_len_le hB k (n/B) (by rw [Nat.div_lt_iff_lt_mul (by omega),← Nat.pow_succ]; exact h)
   simp; omega
theorem dg_len_gt {B:Nat} (hB:2≤B) (n:Nat):n<B^(dg B n).length:=by
 have:=nv_lt hB _ (dg_lt hB n)
 rwa [nv_dg hB] at this
theorem div_word {x i t k r n:Nat} (hx:x=2^t*(2*k+1)) (ht:t<64):((2^64)^i*(x+2^64*r))%2^n=0↔n≤64*i+t:=by
 have e:(2^64)^i*(x+2^64*r)=2^(64*i+t)*(2*(k+2^(64-t-1)*r)+1):=by
  have h1:2^64=2^t*(2^(64-t-1)*2):=by rw [← Nat.pow_succ,← Nat.pow_add]; congr 1; omega
  rw [pow64,hx,Nat.pow_add,Nat.mul_assoc]
  congr 1
  rw [h1,Nat.mul_assoc,← Nat.mul_add]
  congr 1
  rw [Nat.mul_assoc,Nat.mul_left_comm]
  omega
 rw [e]
 exact odd_pow
theorem W184_eq (a:List Nat) (ha:∀ x∈a,x<2^64) (hlen:a.length≤1000000) (n:Nat) (hn:n≤1000000000) (i:Nat) (hi:i≤a.length) (hz:nv (2^64) (a.take i)=0) :
  W184_2 (((a.length:Int),(Wd a,((n:Int),((i:Int),())))),())=some (if nv (2^64) a=0 then .inl ((),()) else .inr ((decide (nv (2^64) a%2^n=0),()),())):=by
 have key:=lfix_ind (m184_2 S173.pre S173.F S92.pre S92.F) (fun x=>a.length-x.1.2.2.2.1.toNat)
  (fun x=>∃ i:Nat,i≤a.length∧nv (2^64) (a.take i)=0∧x=(((a.length:Int),(Wd a,((n:Int),((i:Int),())))),()))
  (fun _=>if nv (2^64) a=0 then .inl ((),()) else .inr ((decide (nv (2^64) a%2^n=0),()),())) ?_ _ ⟨i,hi,hz,rfl⟩
 ·exact key
 intro L x hx hL
 obtain ⟨i,hi,hz,rfl⟩:=hx
 unfold h184_2
 rcases Nat.lt_or_ge i a.length with hlt | hge
 ·simp (disch:=omega) only [wadd,wadd1,wadd64,wsubn,wsub1,wmul64,ilt_t,ilt_f,ile_t,ile_f,igt_t,igt_f,ige_t,ige_f,ipos_t,ipos_f,igt0_t,igt0_f,nnn,beq0_t,beq0_f,bne0_t,bne0_f,Int.toNat_natCast,Int.toNat_zero,cond_true,cond_false,Bool.and_self,Bool.true_and,Bool.and_true,Bool.false_and,Bool.and_false,Bool.not_true,Bool.not_false,Bool.or_self,Bool.true_or,Bool.or_true,Bool.false_or,Bool.or_false,Wd_len,Wd_getD]
  have hxl:=getD_lt (by decide) ha i
  rcases Nat.eq_zero_or_pos (a.getD i 0) with h0 | h0
  ·simp (disch:=omega) only [wadd,wadd1,wadd64,wsubn,wsub1,wmul64,ilt_t,ilt_f,ile_t,ile_f,igt_t,igt_f,ige_t,ige_f,ipos_t,ipos_f,igt0_t,igt0_f,nnn,beq0_t,beq0_f,bne0_t,bne0_f,Int.toNat_natCast,Int.toNat_zero,cond_true,cond_false,Bool.and_self,Bool.true_and,Bool.and_true,Bool.false_and,Bool.and_false,Bool.not_true,Bool.not_false,Bool.or_self,Bool.true_or,Bool.or_true,Bool.false_or,Bool.or_false]
   refine hL _ ⟨i+1,by omega,?_,rfl⟩ (by simp only [Int.toNat_natCast]; omega)
   rw [nv_take_succ _ _ _ hlt,hz,h0,Nat.mul_zero]
  ·obtain ⟨t,k,e⟩:=two_split h0
   have ht:t<64:=by
    have hp:=Nat.two_pow_pos t
    have h1:2^t*1≤2^t*(2*k+1):=Nat.mul_le_mul_left _ (by omega)
    exact (Nat.pow_lt_pow_iff_right (a:=2) (by decide)).1 (by omega)
   have p0:=T92_eq (t:=t) (k:=k) (by omega)
   rw [← e] at p0
   have hv:nv (2^64) a=(2^64)^i*(a.getD i 0+2^64*nv (2^64) (a.drop (i+1))):=by
    rw [nv_split _ a i hi,hz,Nat.zero_add,List.drop_eq_getElem_cons hlt]
    simp only [nv]
    rw [List.getD_eq_getElem?_getD,List.getElem?_eq_getElem hlt]
    rfl
   have hne:nv (2^64) a≠0:=by
    rw [hv]
    have:0<(2^64)^i:=Nat.pow_pos (by decide)
    exact Nat.ne_of_gt (Nat.mul_pos this (by omega))
   have hd:=div_word (i:=i) (r:=nv (2^64) (a.drop (i+1))) (n:=n) e ht
   rw [← hv] at hd
   simp (disch:=omega) only [wadd,wadd1,wadd64,wsubn,wsub1,wmul64,ilt_t,ilt_f,ile_t,ile_f,igt_t,igt_f,ige_t,ige_f,ipos_t,ipos_f,igt0_t,igt0_f,nnn,beq0_t,beq0_f,bne0_t,bne0_f,Int.toNat_natCast,Int.toNat_zero,cond_true,cond_false,Bool.and_self,Bool.true_and,Bool.and_true,Bool.false_and,Bool.and_false,Bool.not_true,Bool.not_false,Bool.or_self,Bool.true_or,Bool.or_true,Bool.false_or,Bool.or_false,pre92 p0,fun92 p0,if_neg hne]
   have:decide (((64*i+t:Nat):Int)≥(n:Int))=decide (nv (2^64) a%2^n=0):=by
    rw [Bool.eq_iff_iff,decide_eq_true_eq,decide_eq_true_eq,hd]; omega
   rw [this]
 ·have e:i=a.length:=by omega
  subst e
  rw [List.take_length] at hz
  simp (disch:=omega) only [wadd,wadd1,wadd64,wsubn,wsub1,wmul64,ilt_t,ilt_f,ile_t,ile_f,igt_t,igt_f,ige_t,ige_f,ipos_t,ipos_f,igt0_t,igt0_f,nnn,beq0_t,beq0_f,bne0_t,bne0_f,Int.toNat_natCast,Int.toNat_zero,cond_true,cond_false,Bool.and_self,Bool.true_and,Bool.and_true,Bool.false_and,Bool.and_false,Bool.not_true,Bool.not_false,Bool.or_self,Bool.true_or,Bool.or_true,Bool.false_or,Bool.or_false,if_pos hz]
theorem T184_eq (l:List Nat) (hl:Ws l) (n:Nat) (hn:n≤1000000000):T184 (Wd l,(n:Int),())=some (decide (nv (2^64) l%2^n=0),()):=by
 obtain ⟨h,hlen⟩:=hl
 show t184 S173.pre S173.F S92.pre S92.F W184_2 (Wd l) n=_
 unfold t184
 have p0:=T173_eq l hlen
 have hm:∀ x∈trimL l,x<2^64:=fun x hx=>h x (trim_mem hx)
 have hle:=(trim_len l).1
 have hw:=W184_eq (trimL l) hm (by omega) n hn 0 (Nat.zero_le _) rfl
 rw [nv_trim (by decide) h] at hw
 simp only [pre173 p0,fun173 p0,cond_true,Wd_len]
 rw [show ((0:Nat):Int)=0 from rfl] at hw
 rw [hw]
 by_cases h0:nv (2^64) l=0
 ·rw [if_pos h0,h0,Nat.zero_mod]; rfl
 ·rw [if_neg h0]
def jamN (v n:Nat):Nat:=if v%2^n=0 then v/2^n else v/2^n/2*2+1
theorem or_one (w:Nat):w ||| 1=w/2*2+1:=by
 apply Nat.eq_of_testBit_eq
 intro i
 rw [Nat.testBit_or]
 cases i with
 | zero=>simp [Nat.testBit_zero]
 | succ i =>
  rw [Nat.testBit_succ,Nat.testBit_succ,Nat.testBit_succ,show (w/2*2+1)/2=w/2 by omega,show 1/2=0 by rfl]
  simp
theorem T175_eq (l:List Nat) (hl:Ws l) (n:Nat) (hn:n≤100000000):T175 (Wd l,(n:Int),())=some (Dw (jamN (nv (2^64) l) n),0,()):=by
 show t175 S1171.pre S1171.F S171.pre S171.F S184.pre S184.F (Wd l) n=_
 unfold t175
 have p0:=T1171_eq l hl n hn
 have p1:=T184_eq l hl n (by omega)
 simp only [ineg_f,cond_false,pre1171 p0,fun1171 p0,pre184 p1,fun184 p1,cond_true,Wd_len]
 unfold jamN
 by_cases h0:nv (2^64) l%2^n=0
 ·rw [if_pos h0,decide_eq_true h0]; rfl
 ·rw [if_neg h0,decide_eq_false h0]
  generalize nv (2^64) l/2^n=q
  rcases Nat.eq_zero_or_pos q with rfl | hq
  ·have e:Dw (0/2*2+1)=[1]:=by
    show Wd (dg (2^64) 1)=[1]
    rw [dg_pos (by decide) (by decide),dg_zero]; rfl
   rw [e,dg_zero]; rfl
  ·have hB:2≤2^64:=by decide
   have e:Dw (q/2*2+1)=Wd ((q%2^64/2*2+1)::dg (2^64) (q/2^64)):=by
    show Wd (dg (2^64) (q/2*2+1))=_
    rw [dg_pos hB (by omega)]
    have e1:(q/2*2+1)%2^64=q%2^64/2*2+1:=by omega
    have e2:(q/2*2+1)/2^64=q/2^64:=by omega
    rw [e1,e2]
   have e2:orI .u64 ((q%2^64:Nat):Int) 1=((q%2^64/2*2+1:Nat):Int):=by
    have:=orN2 (a:=q%2^64) (b:=1) (by omega) (by decide)
    rw [or_one] at this
    exact this
   rw [e,dg_pos hB hq]
   simp (disch:=omega) only [wadd,wadd1,wadd64,wsubn,wsub1,wmul64,ilt_t,ilt_f,ile_t,ile_f,igt_t,igt_f,ige_t,ige_f,ipos_t,ipos_f,igt0_t,igt0_f,nnn,beq0_t,beq0_f,bne0_t,bne0_f,Int.toNat_natCast,Int.toNat_zero,cond_true,cond_false,Bool.and_self,Bool.true_and,Bool.and_true,Bool.false_and,Bool.and_false,Bool.not_true,Bool.not_false,Bool.or_self,Bool.true_or,Bool.or_true,Bool.false_or,Bool.or_false,List.length_cons,Wd_getD,List.getD_cons_zero,e2,Wd_set,List.set_cons_zero]
theorem T141_eq (l:List Nat) (hl:Ws l) (n:Nat) (hn:n≤100000000):T141 (Wd l,(n:Int),())=some (Dw (nv (2^64) l/2^n),0,()):=by
 show t141 S171.pre S171.F (Wd l) n=_
 unfold t141
 have p0:=T171_eq l hl n hn
 simp only [ineg_f,cond_false,pre171 p0,fun171 p0,cond_true]
 rfl
end VL
namespace VL
open Go Vx
theorem getD_set_ne {l:List Nat} {i j v:Nat} (h:i≠j):(l.set i v).getD j 0=l.getD j 0:=by
 rw [List.getD_eq_getElem?_getD,List.getD_eq_getElem?_getD,List.getElem?_set_ne h]
theorem left_step {out:List Nat} {K V k s x:Nat} (hs:s<64) (ho:out=pd (2^64) K V) (hk:k+1<K) (hV:V<2^(64*k+s)) (hx:x<2^64) :
  (out.getD k 0<2^s)∧(out.getD k 0+x%2^(64-s)*2^s<2^64)∧((out.set k (out.getD k 0+x%2^(64-s)*2^s)).set (k+1) (x/2^(64-s))=pd (2^64) K (V+2^(64*k+s)*x)):=by
 have hB:0<2^64:=by decide
 have hps:=Nat.two_pow_pos s
 have hpk:=Nat.two_pow_pos (64*k)
 have hlen:out.length=K:=by rw [ho,pd_len]
 have hc:out.getD k 0=V/(2^64)^k%2^64:=by rw [ho,pd_get _ _ _ _ (by omega)]
 have hc2:V/(2^64)^k<2^s:=by
  rw [pow64,Nat.div_lt_iff_lt_mul hpk,Nat.mul_comm,← Nat.pow_add]; exact hV
 have hc1:out.getD (k+1) 0=0:=by
  rw [ho,pd_get _ _ _ _ hk,pow64]
  have:V<2^(64*(k+1)):=Nat.lt_of_lt_of_le hV (Nat.pow_le_pow_right (by decide) (by omega))
  rw [Nat.div_eq_of_lt this]
 have h64:2^64=2^(64-s)*2^s:=by rw [← Nat.pow_add]; congr 1; omega
 have hs64:2^s≤2^64:=Nat.pow_le_pow_right (by decide) (by omega)
 have hce:V/(2^64)^k%2^64=V/(2^64)^k:=Nat.mod_eq_of_lt (by omega)
 have hcl:out.getD k 0<2^s:=by rw [hc,hce]; exact hc2
 have hp1:=Nat.two_pow_pos (64-s)
 have hm:x%2^(64-s)+1≤2^(64-s):=Nat.mod_lt _ hp1
 have hm2:=Nat.mul_le_mul_right (2^s) hm
 rw [← h64,Nat.add_mul,Nat.one_mul] at hm2
 have hsum:out.getD k 0+x%2^(64-s)*2^s<2^64:=by omega
 refine ⟨hcl,hsum,?_⟩
 have hall:∀ y∈out,y<2^64:=by rw [ho]; exact pd_lt hB _ _
 have hxd:x/2^(64-s)<2^64:=Nat.lt_of_le_of_lt (Nat.div_le_self _ _) hx
 refine pd_at hB (set_lt (set_lt hall hsum) hxd) (by simp [hlen]) ?_
 have g1:=nv_set (2^64) out k (out.getD k 0+x%2^(64-s)*2^s) (by omega)
 have g2:=nv_set (2^64) (out.set k (out.getD k 0+x%2^(64-s)*2^s)) (k+1) (x/2^(64-s)) (by rw [List.length_set]; omega)
 rw [getD_set_ne (by omega),hc1,Nat.mul_zero,Nat.add_zero] at g2
 have hVK:V<(2^64)^K:=by
  rw [pow64]; exact Nat.lt_of_lt_of_le hV (Nat.pow_le_pow_right (by decide) (by omega))
 have hnv:nv (2^64) out=V:=by rw [ho,pd_nv hB _ _ hVK]
 rw [hnv,Nat.mul_add] at g1
 rw [g2]
 have hx2:2^(64*k+s)*x=(2^64)^k*(x%2^(64-s)*2^s)+(2^64)^(k+1)*(x/2^(64-s)):=by
  have hdm:=Nat.div_add_mod x (2^(64-s))
  generalize x/2^(64-s)=q at *
  generalize x%2^(64-s)=r at *
  rw [Nat.pow_add 2 (64*k) s,← pow64,show (2^64)^(k+1)=(2^64)^k*2^64 from Nat.pow_succ _ _,Nat.mul_assoc ((2^64)^k),Nat.mul_assoc ((2^64)^k),← Nat.mul_add,← hdm]
  congr 1
  rw [Nat.mul_add,Nat.mul_comm r,Nat.add_comm]
  congr 1
  rw [← Nat.mul_assoc,Nat.mul_comm (2^s),← h64]
 omega
theorem W186_eq (a:List Nat) (ha:∀ x∈a,x<2^64) (hlen:a.length≤1000000) (w s:Nat) (hs:s<64) (hw:w≤10000000) (i:Nat) (hi:i≤a.length) :
  W186_7 (((a.length:Int),(Wd a,((w:Int),((s:Int),((i:Int),((),())))))),(Wd (pd (2^64) (w+a.length+1) (2^(64*w+s)*nv (2^64) (a.take i))),()))=some (.inl (((),()),(Wd (pd (2^64) (w+a.length+1) (2^(64*w+s)*nv (2^64) a)),()))):=by
 have key:=lfix_ind (m186_7 S173.pre S173.F) (fun x=>a.length-x.1.2.2.2.2.1.toNat)
  (fun x=>∃ i:Nat,i≤a.length∧x=(((a.length:Int),(Wd a,((w:Int),((s:Int),((i:Int),((),())))))),(Wd (pd (2^64) (w+a.length+1) (2^(64*w+s)*nv (2^64) (a.take i))),())))
  (fun _=>.inl (((),()),(Wd (pd (2^64) (w+a.length+1) (2^(64*w+s)*nv (2^64) a)),()))) ?_ _ ⟨i,hi,rfl⟩
 ·exact key
 intro L x hx hL
 obtain ⟨i,hi,rfl⟩:=hx
 unfold h186_7
 rcases Nat.lt_or_ge i a.length with hlt | hge
 ·have hxl:=getD_lt (by decide) ha i
  have ht:=nv_lt (B:=2^64) (by decide) (a.take i) fun x hx=>ha x (List.mem_of_mem_take hx)
  rw [List.length_take,Nat.min_eq_left (by omega),pow64] at ht
  have hV:2^(64*w+s)*nv (2^64) (a.take i)<2^(64*(w+i)+s):=by
   have e:64*(w+i)+s=(64*w+s)+64*i:=by omega
   rw [e,Nat.pow_add _ (64*w+s)]
   exact Nat.mul_lt_mul_of_pos_left ht (Nat.two_pow_pos _)
  have hnext:=nv_take_succ (2^64) a i hlt
  have hgo:=hL (((a.length:Int),(Wd a,((w:Int),((s:Int),(((i+1:Nat):Int),((),())))))),(Wd (pd (2^64) (w+a.length+1) (2^(64*w+s)*nv (2^64) (a.take (i+1)))),())) ⟨i+1,by omega,rfl⟩ (by simp only [Int.toNat_natCast]; omega)
  rw [hnext,Nat.mul_add,← Nat.mul_assoc,show 2^(64*w+s)*(2^64)^i=2^(64*(w+i)+s) by rw [pow64,← Nat.pow_add]; congr 1; omega] at hgo
  generalize hout:pd (2^64) (w+a.length+1) (2^(64*w+s)*nv (2^64) (a.take i))=out at *
  obtain ⟨q1,q2,q3⟩:=left_step (k:=w+i) hs hout.symm (by omega) hV hxl
  have hol:out.length=w+a.length+1:=by rw [← hout,pd_len]
  have g1:a.getD i 0*2^s%2^64=(a.getD i 0%2^(64-s))*2^s:=by
   have:2^64=2^(64-s)*2^s:=by rw [← Nat.pow_add]; congr 1; omega
   rw [this,Nat.mul_mod_mul_right]
  have e8:IntKind.wrap .i64 (64-(s:Int))=((64-s:Nat):Int):=wsub 64 s (by omega) (by omega)
  simp (disch:=omega) only [wadd,wadd1,wadd64,wsubn,wsub1,wmul64,ilt_t,ilt_f,ile_t,ile_f,igt_t,igt_f,ige_t,ige_f,ipos_t,ipos_f,igt0_t,igt0_f,nnn,beq0_t,beq0_f,bne0_t,bne0_f,Int.toNat_natCast,Int.toNat_zero,cond_true,cond_false,Bool.and_self,Bool.true_and,Bool.and_true,Bool.false_and,Bool.and_false,Bool.not_true,Bool.not_false,Bool.or_self,Bool.true_or,Bool.or_true,Bool.false_or,Bool.or_false,Wd_len,Wd_getD,e8,shlN _ s (by omega),shrN _ (64-s) (by omega),g1,orN q1 q2,Wd_set,List.length_set,q3]
  exact hgo
 ·have e:i=a.length:=by omega
  subst e
  rw [List.take_length]
  simp (disch:=omega) only [wadd,wadd1,wadd64,wsubn,wsub1,wmul64,ilt_t,ilt_f,ile_t,ile_f,igt_t,igt_f,ige_t,ige_f,ipos_t,ipos_f,igt0_t,igt0_f,nnn,beq0_t,beq0_f,bne0_t,bne0_f,Int.toNat_natCast,Int.toNat_zero,cond_true,cond_false,Bool.and_self,Bool.true_and,Bool.and_true,Bool.false_and,Bool.and_false,Bool.not_true,Bool.not_false,Bool.or_self,Bool.true_or,Bool.or_true,Bool.false_or,Bool.or_false]
theorem T186_eq (l:List Nat) (hl:Ws l) (n:Nat) (hn:n/64+(trimL l).length+1≤1000000):T186 (Wd l,(n:Int),())=some (Dw (nv (2^64) l*2^n),()):=by
 obtain ⟨h,hlen⟩:=hl
 show t186 S173.pre S173.F W186_7 (Wd l) n=_
 unfold t186
 have hB:2≤2^64:=by decide
 have p0:=T173_eq l hlen
 have hm:∀ x∈trimL l,x<2^64:=fun x hx=>h x (trim_mem hx)
 have hle:=(trim_len l).1
 have hv:=nv_trim hB h
 simp only [pre173 p0,fun173 p0,cond_true,Wd_len]
 rcases Nat.eq_zero_or_pos (trimL l).length with h0 | h0
 ·rw [h0,trim_nil h h0,Nat.zero_mul]
  unfold Dw
  rw [dg_zero]; rfl
 ·have e4:Int.tmod (n:Int) 64=((n%64:Nat):Int):=rfl
  have e3:decide (((n/64+(trimL l).length+1:Nat):Int)*8≤140737488355328)=true:=decide_eq_true (by omega)
  have hw:=W186_eq (trimL l) hm (by omega) (n/64) (n%64) (Nat.mod_lt _ (by decide)) (by omega) 0 (Nat.zero_le _)
  rw [show nv (2^64) ((trimL l).take 0)=0 by rfl,Nat.mul_zero,pd_zero,show 64*(n/64)+n%64=n by omega,show ((0:Nat):Int)=0 from rfl] at hw
  simp (disch:=omega) only [wadd,wadd1,wadd64,wsubn,wsub1,wmul64,ilt_t,ilt_f,ile_t,ile_f,igt_t,igt_f,ige_t,ige_f,ipos_t,ipos_f,igt0_t,igt0_f,nnn,beq0_t,beq0_f,bne0_t,bne0_f,Int.toNat_natCast,Int.toNat_zero,cond_true,cond_false,Bool.and_self,Bool.true_and,Bool.and_true,Bool.false_and,Bool.and_false,Bool.not_true,Bool.not_false,Bool.or_self,Bool.true_or,Bool.or_true,Bool.false_or,Bool.or_false,quoN n (by omega),e4,e3,Wd_rep,hw]
  have hV:2^n*nv (2^64) (trimL l)<(2^64)^(n/64+(trimL l).length+1):=by
   have:=nv_lt hB (trimL l) hm
   rw [pow64] at this ⊢
   have h1:2^n*nv (2^64) (trimL l)<2^n*2^(64*(trimL l).length):=Nat.mul_lt_mul_of_pos_left this (Nat.two_pow_pos _)
   rw [← Nat.pow_add] at h1
   exact Nat.lt_of_lt_of_le h1 (Nat.pow_le_pow_right (by decide) (by omega))
  have p1:=T173_eq (pd (2^64) (n/64+(trimL l).length+1) (2^n*nv (2^64) (trimL l))) (by rw [pd_len]; omega)
  rw [trim_dg hB _ (pd_lt (by decide) _ _),pd_nv (by decide) _ _ hV,hv,Nat.mul_comm (2^n)] at p1
  rw [hv,Nat.mul_comm (2^n)]
  generalize pd (2^64) (n/64+(trimL l).length+1) (nv (2^64) l*2^n)=out at *
  show (bif S173.pre (Wd out,()) then some (S173.F (Wd out,())) else none)=_
  rw [pre173 p1,fun173 p1]
  rfl
theorem W185_eq (ls:List (List Nat)) (hls:∀ l∈ls,l.length≤1000000) (hn:ls.length≤1000000) (i:Nat) (hi:i≤ls.length) (hz:∀ l∈ls.take i,(trimL l).length≤1024) :
  W185_2 (((ls.length:Int),(ls.map Wd,((i:Int),()))),())=some (if (∀ l∈ls,(trimL l).length≤1024) then .inl ((),()) else .inr ((true,()),())):=by
 have key:=lfix_ind (m185_2 S173.pre S173.F) (fun x=>ls.length-x.1.2.2.1.toNat)
  (fun x=>∃ i:Nat,i≤ls.length∧(∀ l∈ls.take i,(trimL l).length≤1024)∧x=(((ls.length:Int),(ls.map Wd,((i:Int),()))),()))
  (fun _=>if (∀ l∈ls,(trimL l).length≤1024) then .inl ((),()) else .inr ((true,()),())) ?_ _ ⟨i,hi,hz,rfl⟩
 ·exact key
 intro L x hx hL
 obtain ⟨i,hi,hz,rfl⟩:=hx
 unfold h185_2
 rcases Nat.lt_or_ge i ls.length with hlt | hge
 ·have eg:(ls.map Wd).getD i []=Wd (ls[i]):=by
   rw [List.getD_eq_getElem?_getD,List.getElem?_map,List.getElem?_eq_getElem hlt]; rfl
  have hil:ls[i]∈ls:=List.getElem_mem hlt
  have p0:=T173_eq ls[i] (hls _ hil)
  simp (disch:=omega) only [wadd,wadd1,wadd64,wsubn,wsub1,wmul64,ilt_t,ilt_f,ile_t,ile_f,igt_t,igt_f,ige_t,ige_f,ipos_t,ipos_f,igt0_t,igt0_f,nnn,beq0_t,beq0_f,bne0_t,bne0_f,Int.toNat_natCast,Int.toNat_zero,cond_true,cond_false,Bool.and_self,Bool.true_and,Bool.and_true,Bool.false_and,Bool.and_false,Bool.not_true,Bool.not_false,Bool.or_self,Bool.true_or,Bool.or_true,Bool.false_or,Bool.or_false,List.length_map,eg,pre173 p0,fun173 p0,Wd_len]
  rcases Nat.lt_or_ge 1024 (trimL ls[i]).length with hg | hg
  ·have e:decide (((trimL ls[i]).length:Int)>1024)=true:=decide_eq_true (by omega)
   have hnot:¬ ∀ l∈ls,(trimL l).length≤1024:=fun hh=>by have:=hh _ hil; omega
   rw [e,cond_true,if_neg hnot]
  ·have e:decide (((trimL ls[i]).length:Int)>1024)=false:=decide_eq_false (by omega)
   rw [e,cond_false]
   refine hL _ ⟨i+1,by omega,?_,rfl⟩ (by simp only [Int.toNat_natCast]; omega)
   intro l hl
   rw [List.take_succ,List.getElem?_eq_getElem hlt] at hl
   rcases List.mem_append.1 hl with hl | hl
   ·exact hz l hl
   ·have:l=ls[i]:=by simpa using hl
    rw [this]; exact hg
 ·have e:i=ls.length:=by omega
  subst e
  rw [List.take_length] at hz
  simp (disch:=omega) only [wadd,wadd1,wadd64,wsubn,wsub1,wmul64,ilt_t,ilt_f,ile_t,ile_f,igt_t,igt_f,ige_t,ige_f,ipos_t,ipos_f,igt0_t,igt0_f,nnn,beq0_t,beq0_f,bne0_t,bne0_f,Int.toNat_natCast,Int.toNat_zero,cond_true,cond_false,Bool.and_self,Bool.true_and,Bool.and_true,Bool.false_and,Bool.and_false,Bool.not_true,Bool.not_false,Bool.or_self,Bool.true_or,Bool.or_true,Bool.false_or,Bool.or_false,if_pos hz]
theorem T185_eq (ls:List (List Nat)) (hls:∀ l∈ls,l.length≤1000000) (hn:ls.length≤1000000) :
  T185 (ls.map Wd,())=some (!decide (∀ l∈ls,(trimL l).length≤1024),()):=by
 show t185 S173.pre S173.F W185_2 (ls.map Wd)=_
 unfold t185
 have hw:=W185_eq ls hls hn 0 (Nat.zero_le _) (fun l hl=>by simp at hl)
 rw [show ((0:Nat):Int)=0 from rfl] at hw
 rw [List.length_map,hw]
 by_cases h:∀ l∈ls,(trimL l).length≤1024
 ·rw [if_pos h,decide_eq_true h]; rfl
 ·rw [if_neg h,decide_eq_false h]; rfl
theorem T185_one (l:List Nat) (hl:l.length≤1000000):T185 ((Wd l::[]),())=some (!decide ((trimL l).length≤1024),()):=by
 have:=T185_eq [l] (by simp; exact hl) (by simp)
 rw [show [l].map Wd=Wd l::[] from rfl] at this
 rw [this]
 simp
theorem T176_eq (l:List Nat) (hl:Ws l) (n:Nat) (hn:n≤65536) (hv:nv (2^64) l*2^n<(2^64)^1024):T176 (Wd l,(n:Int),())=some (Dw (nv (2^64) l*2^n),0,()):=by
 show t176 S186.pre S186.F S185.pre S185.F (Wd l) n=_
 unfold t176
 have p0:=T185_one l hl.2
 have hB:2≤2^64:=by decide
 have h1:=dg_len_le hB 1024 _ hv
 have h0:(trimL l).length≤1024:=by
  rw [trim_dg hB _ hl.1]
  apply dg_len_le hB
  exact Nat.lt_of_le_of_lt (Nat.le_mul_of_pos_right _ (Nat.two_pow_pos _)) hv
 have p1:=T186_eq l hl n (by omega)
 have p2:=T185_one (dg (2^64) (nv (2^64) l*2^n)) (by omega)
 rw [dg_trim hB] at p2
 rw [decide_eq_true h0] at p0
 rw [decide_eq_true h1] at p2
 have e2:decide ((n:Int)>65536)=false:=decide_eq_false (by omega)
 simp only [ineg_f,e2,Bool.or_self,cond_false,pre185 p0,fun185 p0,cond_true,Bool.not_true,pre186 p1,fun186 p1]
 unfold Dw
 simp only [pre185 p2,fun185 p2,cond_true,Bool.not_true,cond_false]
end VL
namespace VL
open Go Vx
theorem nv_take_next (B:Nat) (l:List Nat) (i:Nat):nv B (l.take (i+1))=nv B (l.take i)+B^i*l.getD i 0:=by
 rcases Nat.lt_or_ge i l.length with h | h
 ·exact nv_take_succ B l i h
 ·rw [List.take_of_length_le (by omega),List.take_of_length_le h,List.getD_eq_getElem?_getD,List.getElem?_eq_none h]
  simp
def sumAt (a b:List Nat) (i:Nat):Nat:=nv (2^64) (a.take i)+nv (2^64) (b.take i)
def outAt (a b:List Nat) (i:Nat):List Nat:=pd (2^64) i (sumAt a b i%(2^64)^i)++(a++[0]).drop i
theorem nv_take_lt {l:List Nat} (h:∀ x∈l,x<2^64) (i:Nat):nv (2^64) (l.take i)<(2^64)^i:=by
 have:=nv_lt (B:=2^64) (by decide) (l.take i) fun x hx=>h x (List.mem_of_mem_take hx)
 refine Nat.lt_of_lt_of_le this (Nat.pow_le_pow_right (by decide) ?_)
 rw [List.length_take]
 exact Nat.min_le_left _ _
theorem carry_le {a b:List Nat} (ha:∀ x∈a,x<2^64) (hb:∀ x∈b,x<2^64) (i:Nat):sumAt a b i/(2^64)^i≤1:=by
 have h1:=nv_take_lt ha i
 have h2:=nv_take_lt hb i
 have hp:0<(2^64)^i:=Nat.pow_pos (by decide)
 unfold sumAt
 have:(nv (2^64) (a.take i)+nv (2^64) (b.take i))/(2^64)^i<2:=by
  rw [Nat.div_lt_iff_lt_mul hp]; omega
 omega
theorem sum_next (a b:List Nat) (i:Nat):sumAt a b (i+1)=sumAt a b i%(2^64)^i+(2^64)^i*(a.getD i 0+b.getD i 0+sumAt a b i/(2^64)^i):=by
 have hdm:=Nat.div_add_mod (sumAt a b i) ((2^64)^i)
 have h1:sumAt a b (i+1)=sumAt a b i+(2^64)^i*(a.getD i 0+b.getD i 0):=by
  unfold sumAt
  rw [nv_take_next,nv_take_next,Nat.mul_add]
  omega
 rw [h1,Nat.mul_add ((2^64)^i) (a.getD i 0+b.getD i 0)]
 omega
theorem sum_next_div (a b:List Nat) (i:Nat):sumAt a b (i+1)/(2^64)^(i+1)=(a.getD i 0+b.getD i 0+sumAt a b i/(2^64)^i)/2^64:=by
 have hp:0<(2^64)^i:=Nat.pow_pos (by decide)
 rw [sum_next,Nat.pow_succ (2^64) i,← Nat.div_div_eq_div_mul,Nat.add_mul_div_left _ _ hp,Nat.div_eq_of_lt (Nat.mod_lt _ hp),Nat.zero_add]
theorem sum_next_mod (a b:List Nat) (i:Nat):sumAt a b (i+1)%(2^64)^(i+1)=sumAt a b i%(2^64)^i+(2^64)^i*((a.getD i 0+b.getD i 0+sumAt a b i/(2^64)^i)%2^64):=by
 have hp:0<(2^64)^i:=Nat.pow_pos (by decide)
 rw [sum_next a b i,Nat.pow_succ (2^64) i,Nat.mod_mul,Nat.add_mul_mod_self_left,Nat.mod_mod,Nat.add_mul_div_left _ _ hp,Nat.div_eq_of_lt (Nat.mod_lt _ hp),Nat.zero_add]
theorem pd_snoc {k r v:Nat} (hr:r<(2^64)^k) (hv:v<2^64):pd (2^64) k r++[v]=pd (2^64) (k+1) (r+(2^64)^k*v):=by
 refine pd_at (by decide) ?_ (by simp [pd_len]) ?_
 ·intro x hx
  rcases List.mem_append.1 hx with hx | hx
  ·exact pd_lt (by decide) _ _ x hx
  ·have:x=v:=by simpa using hx
   rw [this]; exact hv
 ·rw [nv_append,pd_len,pd_nv (by decide) _ _ hr]
  simp [nv]
theorem out_set (a b:List Nat) (i:Nat) (hi:i<a.length):(outAt a b i).set i ((a.getD i 0+b.getD i 0+sumAt a b i/(2^64)^i)%2^64)=outAt a b (i+1):=by
 have hp:0<(2^64)^i:=Nat.pow_pos (by decide)
 unfold outAt
 rw [sum_next_mod,← pd_snoc (Nat.mod_lt _ hp) (Nat.mod_lt _ (by decide)),List.set_append_right _ _ (by rw [pd_len]; exact Nat.le_refl _),pd_len,Nat.sub_self,
  List.drop_eq_getElem_cons (l:=a++[0]) (i:=i) (by simp; omega),List.set_cons_zero,List.append_assoc]
 rfl
theorem out_len (a b:List Nat) (i:Nat) (hi:i≤a.length):(outAt a b i).length=a.length+1:=by
 unfold outAt; rw [List.length_append,pd_len]; simp; omega
theorem W143_eq (a b:List Nat) (ha:∀ x∈a,x<2^64) (hb:∀ x∈b,x<2^64) (hlen:a.length≤1000000) (i:Nat) (hi:i≤a.length) :
  W143_8 (((a.length:Int),(Wd b,((i:Int),(Wd a,(((sumAt a b i/(2^64)^i:Nat):Int),((),())))))),(Wd (outAt a b i),()))=some (.inl ((Wd a,(((sumAt a b a.length/(2^64)^a.length:Nat):Int),((),()))),(Wd (outAt a b a.length),()))):=by
 have key:=lfix_ind (m143_8 S155.pre S155.F S173.pre S173.F) (fun x=>a.length-x.1.2.2.1.toNat)
  (fun x=>∃ i:Nat,i≤a.length∧x=(((a.length:Int),(Wd b,((i:Int),(Wd a,(((sumAt a b i/(2^64)^i:Nat):Int),((),())))))),(Wd (outAt a b i),())))
  (fun _=>.inl ((Wd a,(((sumAt a b a.length/(2^64)^a.length:Nat):Int),((),()))),(Wd (outAt a b a.length),()))) ?_ _ ⟨i,hi,rfl⟩
 ·exact key
 intro L x hx hL
 obtain ⟨i,hi,rfl⟩:=hx
 unfold h143_8
 rcases Nat.lt_or_ge i a.length with hlt | hge
 ·have hc:=carry_le ha hb i
  have hol:=out_len a b i hi
  have hset:=out_set a b i hlt
  have hgo:=hL (((a.length:Int),(Wd b,(((i+1:Nat):Int),(Wd a,(((sumAt a b (i+1)/(2^64)^(i+1):Nat):Int),((),())))))),(Wd (outAt a b (i+1)),())) ⟨i+1,by omega,rfl⟩ (by simp only [Int.toNat_natCast]; omega)
  rw [sum_next_div,← hset] at hgo
  have hF:∀ x y c:Nat,S155.F ((x:Int),((y:Int),((c:Int),())))=(((((x+y+c)%2^64:Nat):Int)),((((x+y+c)/2^64:Nat):Int)),()):=fun x y c=>rfl
  have hP:∀ (x y:Int) (c:Nat),c≤1→S155.pre (x,(y,((c:Int),())))=true:=fun x y c h=>by
   show (decide ((0:Int)≤(c:Int))&&decide ((c:Int)≤1))=true
   rw [decide_eq_true (by omega),decide_eq_true (by omega)]; rfl
  generalize sumAt a b i/(2^64)^i=c at *
  generalize outAt a b i=out at *
  rcases Nat.lt_or_ge i b.length with hbl | hbl
  ·simp (disch:=omega) only [wadd,wadd1,wadd64,wsubn,wsub1,wmul64,ilt_t,ilt_f,ile_t,ile_f,igt_t,igt_f,ige_t,ige_f,ipos_t,ipos_f,igt0_t,igt0_f,nnn,beq0_t,beq0_f,bne0_t,bne0_f,Int.toNat_natCast,Int.toNat_zero,cond_true,cond_false,Bool.and_self,Bool.true_and,Bool.and_true,Bool.false_and,Bool.and_false,Bool.not_true,Bool.not_false,Bool.or_self,Bool.true_or,Bool.or_true,Bool.false_or,Bool.or_false,Wd_len,Wd_getD,hP _ _ c hc,hF,Wd_set]
   exact hgo
  ·have hbz:b.getD i 0=0:=by rw [List.getD_eq_getElem?_getD,List.getElem?_eq_none hbl]; rfl
   have hF0:S155.F (((a.getD i 0:Nat):Int),((0:Int),((c:Int),())))=((((a.getD i 0+b.getD i 0+c)%2^64:Nat):Int),(((a.getD i 0+b.getD i 0+c)/2^64:Nat):Int),()):=by rw [hbz]; rfl
   simp (disch:=omega) only [wadd,wadd1,wadd64,wsubn,wsub1,wmul64,ilt_t,ilt_f,ile_t,ile_f,igt_t,igt_f,ige_t,ige_f,ipos_t,ipos_f,igt0_t,igt0_f,nnn,beq0_t,beq0_f,bne0_t,bne0_f,Int.toNat_natCast,Int.toNat_zero,cond_true,cond_false,Bool.and_self,Bool.true_and,Bool.and_true,Bool.false_and,Bool.and_false,Bool.not_true,Bool.not_false,Bool.or_self,Bool.true_or,Bool.or_true,Bool.false_or,Bool.or_false,Wd_len,Wd_getD,hP _ _ c hc,hF0,Wd_set]
   exact hgo
 ·have e:i=a.length:=by omega
  subst e
  simp (disch:=omega) only [wadd,wadd1,wadd64,wsubn,wsub1,wmul64,ilt_t,ilt_f,ile_t,ile_f,igt_t,igt_f,ige_t,ige_f,ipos_t,ipos_f,igt0_t,igt0_f,nnn,beq0_t,beq0_f,bne0_t,bne0_f,Int.toNat_natCast,Int.toNat_zero,cond_true,cond_false,Bool.and_self,Bool.true_and,Bool.and_true,Bool.false_and,Bool.and_false,Bool.not_true,Bool.not_false,Bool.or_self,Bool.true_or,Bool.or_true,Bool.false_or,Bool.or_false]
theorem sum_end (a b:List Nat) (ha:∀ x∈a,x<2^64) (hb:∀ x∈b,x<2^64) (hab:b.length≤a.length) :
  (outAt a b a.length).set a.length (sumAt a b a.length/(2^64)^a.length)=pd (2^64) (a.length+1) (nv (2^64) a+nv (2^64) b)∧nv (2^64) a+nv (2^64) b<(2^64)^(a.length+1):=by
 have hp:0<(2^64)^a.length:=Nat.pow_pos (by decide)
 have hc:=carry_le ha hb a.length
 have hs:sumAt a b a.length=nv (2^64) a+nv (2^64) b:=by
  unfold sumAt; rw [List.take_length,List.take_of_length_le hab]
 have hdm:=Nat.div_add_mod (sumAt a b a.length) ((2^64)^a.length)
 refine ⟨?_,?_⟩
 ·have hd:(a++[0]).drop a.length=[0]:=by simp
  unfold outAt
  rw [hd,List.set_append_right _ _ (by rw [pd_len]; exact Nat.le_refl _),pd_len,Nat.sub_self,List.set_cons_zero,pd_snoc (Nat.mod_lt _ hp) (by omega),Nat.add_comm (sumAt a b a.length%(2^64)^a.length),hdm,hs]
 ·rw [← hs]
  have h1:=nv_take_lt ha a.length
  have h2:=nv_take_lt hb a.length
  unfold sumAt
  rw [Nat.pow_succ (2^64) a.length]
  omega
theorem add_len {a:List Nat}:List.take (List.replicate (a.length+1) (0:Int)).length (Wd a)++List.drop a.length (List.replicate (a.length+1) (0:Int))=Wd (outAt a ([]:List Nat) 0):=by
 rw [List.length_replicate,List.drop_replicate,Nat.add_sub_cancel_left,List.take_of_length_le (by rw [Wd_len]; omega)]
 unfold outAt
 simp [Wd,pd]
theorem out_zero (a b c:List Nat):outAt a b 0=outAt a c 0:=by unfold outAt; simp [pd]
theorem add_main (a b:List Nat) (ha:∀ x∈a,x<2^64) (hb:∀ x∈b,x<2^64) (hlen:a.length+1≤1000000) (hab:b.length≤a.length) :
  (bif decide (0≤IntKind.wrap .i64 ((a.length:Int)+1))&&decide (IntKind.wrap .i64 ((a.length:Int)+1)*8≤140737488355328) then
   obind (W143_8 (((a.length:Int),(Wd b,((0:Int),(Wd a,((0:Int),((),())))))),(List.take (List.replicate (Int.toNat (IntKind.wrap .i64 ((a.length:Int)+1))) (0:Int)).length (Wd a)++List.drop a.length (List.replicate (Int.toNat (IntKind.wrap .i64 ((a.length:Int)+1))) (0:Int)),()))) fun y4 =>
    obind2 y4 (fun y5=>bif decide (0≤((y5.1.1.length:Nat):Int))&&decide (((y5.1.1.length:Nat):Int)<((y5.2.1.length:Nat):Int)) then
     (bif S173.pre ((y5.2.1.set (Int.toNat ((y5.1.1.length:Nat):Int)) y5.1.2.1),()) then some (S173.F ((y5.2.1.set (Int.toNat ((y5.1.1.length:Nat):Int)) y5.1.2.1),())) else none) else none) fun _=>none
  else none:Option (DenS O143))=some (Dw (nv (2^64) a+nv (2^64) b),()):=by
 have hw:=W143_eq a b ha hb (by omega) 0 (Nat.zero_le _)
 have h0:sumAt a b 0/(2^64)^0=0:=by unfold sumAt; simp [nv]
 rw [h0,show ((0:Nat):Int)=0 from rfl,out_zero a b [],← add_len] at hw
 have e3:decide (((a.length+1:Nat):Int)*8≤140737488355328)=true:=decide_eq_true (by omega)
 rw [wadd1 _ (by omega),e3,nnn,Int.toNat_natCast,hw]
 obtain ⟨g1,g2⟩:=sum_end a b ha hb hab
 have hol:=out_len a b a.length (Nat.le_refl _)
 have p1:=T173_eq (pd (2^64) (a.length+1) (nv (2^64) a+nv (2^64) b)) (by rw [pd_len]; exact hlen)
 rw [trim_dg (by decide) _ (pd_lt (by decide) _ _),pd_nv (by decide) _ _ g2,← g1,← Wd_set] at p1
 generalize sumAt a b a.length/(2^64)^a.length=c at *
 generalize outAt a b a.length=out at *
 show (bif decide (0≤(((Wd a).length:Nat):Int))&&decide ((((Wd a).length:Nat):Int)<(((Wd out).length:Nat):Int)) then
     (bif S173.pre ((Wd out).set (Wd a).length (c:Int),()) then some (S173.F ((Wd out).set (Wd a).length (c:Int),())) else none) else none)=_
 simp (disch:=omega) only [wadd,wadd1,wadd64,wsubn,wsub1,wmul64,ilt_t,ilt_f,ile_t,ile_f,igt_t,igt_f,ige_t,ige_f,ipos_t,ipos_f,igt0_t,igt0_f,nnn,beq0_t,beq0_f,bne0_t,bne0_f,Int.toNat_natCast,Int.toNat_zero,cond_true,cond_false,Bool.and_self,Bool.true_and,Bool.and_true,Bool.false_and,Bool.and_false,Bool.not_true,Bool.not_false,Bool.or_self,Bool.true_or,Bool.or_true,Bool.false_or,Bool.or_false,Wd_len,pre173 p1,fun173 p1]
 rfl
theorem T143_eq (l m:List Nat) (hl:Ws l) (hm:Ws m) (hl2:(trimL l).length<1000000) (hm2:(trimL m).length<1000000):T143 (Wd l,Wd m,())=some (Dw (nv (2^64) l+nv (2^64) m),()):=by
 show t143 S155.pre S155.F S173.pre S173.F W143_8 (Wd l) (Wd m)=_
 unfold t143
 have p0:=T173_eq l hl.2
 have p1:=T173_eq m hm.2
 have h1:∀ x∈trimL l,x<2^64:=fun x hx=>hl.1 x (trim_mem hx)
 have h2:∀ x∈trimL m,x<2^64:=fun x hx=>hm.1 x (trim_mem hx)
 simp only [pre173 p0,fun173 p0,pre173 p1,fun173 p1,cond_true]
 rcases Nat.lt_or_ge (trimL l).length (trimL m).length with h | h
 ·rw [Wd_len,Wd_len,ilt_t _ _ h,cond_true]
  have:=add_main (trimL m) (trimL l) h2 h1 hm2 (by omega)
  rw [nv_trim (by decide) hl.1,nv_trim (by decide) hm.1,Nat.add_comm] at this
  exact this
 ·rw [Wd_len,Wd_len,ilt_f _ _ h,cond_false]
  have:=add_main (trimL l) (trimL m) h1 h2 hl2 (by omega)
  rw [nv_trim (by decide) hl.1,nv_trim (by decide) hm.1] at this
  exact this
theorem T146_eq (l:List Nat) (hl:Ws l):T146 (Wd l,())=some (Dw (nv (2^64) l),()):=by
 show t146 S173.pre S173.F (Wd l)=_
 unfold t146
 have p0:=T173_eq l hl.2
 have hle:=(trim_len l).1
 have h2:=hl.2
 have e3:decide ((((trimL l).length:Nat):Int)*8≤140737488355328)=true:=decide_eq_true (by omega)
 simp (disch:=omega) only [wadd,wadd1,wadd64,wsubn,wsub1,wmul64,ilt_t,ilt_f,ile_t,ile_f,igt_t,igt_f,ige_t,ige_f,ipos_t,ipos_f,igt0_t,igt0_f,nnn,beq0_t,beq0_f,bne0_t,bne0_f,Int.toNat_natCast,Int.toNat_zero,cond_true,cond_false,Bool.and_self,Bool.true_and,Bool.and_true,Bool.false_and,Bool.and_false,Bool.not_true,Bool.not_false,Bool.or_self,Bool.true_or,Bool.or_true,Bool.false_or,Bool.or_false,pre173 p0,fun173 p0,Wd_len,e3,List.length_replicate,List.drop_replicate,Nat.sub_self]
 rw [List.take_of_length_le (by rw [Wd_len]; exact Nat.le_refl _),List.replicate_zero,List.append_nil,trim_dg (by decide) l hl.1]
 rfl
theorem T102_eq (l:List Nat) (hl:Ws l):T102 (Wd l,())=some (Dw (nv (2^64) l),()):=by
 show t102 S146.pre S146.F (Wd l)=_
 unfold t102
 have p0:=T146_eq l hl
 simp only [pre146 p0,fun146 p0,cond_true]
end VL
namespace VL
open Go Vx
def Wi (n:Nat):Den (.pair (.int .u64) (.pair (.int .u64) .unit)):=(((n/2^64:Nat):Int),(((n%2^64:Nat):Int),()))
theorem W_le0 (k:Nat) (h:0<k):decide ((k:Int)≤0)=false:=decide_eq_false (by omega)
theorem aux1 {A q R P:Nat} (g1:A%2^64=R) (g2:q<P) (g4:R+P≤2^64):(A+q)%2^64=q+R:=by omega
theorem aux2 {X Y r:Nat} (h:X%2^64=Y) (hr:r<2^64):(2^64*X+r)%2^128=2^64*Y+r:=by omega
theorem aux3 {X h q R P:Nat} (e:X=2^64*h+R+q) (g2:q<P) (g4:R+P≤2^64):X/2^64=h∧X%2^64=q+R:=by omega
theorem T119_eq (n k:Nat) (hn:n<2^128):T119 (Wi n,(k:Int),())=some (Wi (n*2^k%2^128),()):=by
 show t119 (Wi n) k=_
 unfold t119
 rcases Nat.eq_zero_or_pos k with rfl | hk
 ·have e:n*2^0%2^128=n:=by rw [Nat.pow_zero,Nat.mul_one,Nat.mod_eq_of_lt hn]
  rw [e]; rfl
 rw [W_le0 k hk,cond_false]
 rcases Nat.lt_or_ge k 128 with h128 | h128
 ·rw [show decide ((k:Int)≥128)=false from decide_eq_false (by omega),cond_false]
  have hlo:(n%2^64)<2^64:=Nat.mod_lt _ (by decide)
  have hhi:n/2^64<2^64:=by omega
  have hsplit:n=2^64*(n/2^64)+n%2^64:=(Nat.div_add_mod n (2^64)).symm
  rcases Nat.lt_or_ge k 64 with h64 | h64
  ·have e8:IntKind.wrap .i64 (64-(k:Int))=((64-k:Nat):Int):=wsub 64 k (by omega) (by omega)
   rw [show decide ((k:Int)≥64)=false from decide_eq_false (by omega),cond_false,nnn,cond_true,e8,nnn,cond_true,cond_true]
   show some ((orI .u64 (shlI .u64 ((n/2^64:Nat):Int) k) (shrI .u64 ((n%2^64:Nat):Int) ((64-k:Nat):Int)),(shlI .u64 ((n%2^64:Nat):Int) k,())),())=_
   rw [shlN _ k (by omega),shlN _ k (by omega),shrN _ (64-k) (by omega)]
   have hp:=Nat.two_pow_pos k
   have hp2:=Nat.two_pow_pos (64-k)
   have h2:2^64=2^(64-k)*2^k:=by rw [← Nat.pow_add]; congr 1; omega
   generalize n/2^64=hi at *
   generalize n%2^64=lo at *
   have g1:hi*2^k%2^64=(hi%2^(64-k))*2^k:=by rw [h2,Nat.mul_mod_mul_right]
   have g2:lo/2^(64-k)<2^k:=by rw [Nat.div_lt_iff_lt_mul hp2,Nat.mul_comm,← h2]; exact hlo
   have g3:hi%2^(64-k)+1≤2^(64-k):=Nat.mod_lt _ hp2
   have g4:=Nat.mul_le_mul_right (2^k) g3
   rw [← h2,Nat.add_mul,Nat.one_mul] at g4
   have hor:orI .u64 ((hi*2^k%2^64:Nat):Int) ((lo/2^(64-k):Nat):Int)=((lo/2^(64-k)+(hi%2^(64-k))*2^k:Nat):Int):=by
    have:=orN g2 (b:=hi%2^(64-k)) (by omega)
    rw [g1]
    have hc:∀ a b:Nat,a<2^64→b<2^64→orI .u64 (a:Int) (b:Int)=orI .u64 (b:Int) (a:Int):=fun a b ha hb=>by
     rw [orN2 ha hb,orN2 hb ha,Nat.or_comm]
    rw [hc _ _ (by omega) (by omega)]
    exact this
   rw [hor]
   have hdm:=Nat.div_add_mod lo (2^(64-k))
   have v1:n*2^k=2^64*(hi*2^k+lo/2^(64-k))+lo*2^k%2^64:=by
    have g5:lo*2^k%2^64=(lo%2^(64-k))*2^k:=by rw [h2,Nat.mul_mod_mul_right]
    have g6:2^64*(lo/2^(64-k))=2^(64-k)*(lo/2^(64-k))*2^k:=by
     rw [Nat.mul_right_comm,← h2]
    rw [hsplit,Nat.add_mul,Nat.mul_add,Nat.mul_assoc,Nat.add_assoc,g6,g5,← Nat.add_mul,hdm]
   have v2:n*2^k%2^128=2^64*(lo/2^(64-k)+(hi%2^(64-k))*2^k)+lo*2^k%2^64:=by
    rw [v1]
    have hlo2:lo*2^k%2^64<2^64:=Nat.mod_lt _ (by decide)
    exact aux2 (aux1 g1 g2 g4) hlo2
   have hlo2:lo*2^k%2^64<2^64:=Nat.mod_lt _ (by decide)
   have e1:n*2^k%2^128/2^64=lo/2^(64-k)+(hi%2^(64-k))*2^k:=by rw [v2]; omega
   have e2:n*2^k%2^128%2^64=lo*2^k%2^64:=by rw [v2]; omega
   unfold Wi
   rw [e1,e2]
  ·have e8:IntKind.wrap .i64 ((k:Int)-64)=((k-64:Nat):Int):=wsub k 64 (by omega) (by omega)
   rw [show decide ((k:Int)≥64)=true from decide_eq_true (by omega),cond_true,e8,nnn,cond_true]
   show some ((shlI .u64 ((n%2^64:Nat):Int) ((k-64:Nat):Int),((0:Int),())),())=_
   rw [shlN _ (k-64) (by omega)]
   have v1:n*2^k%2^128=2^64*(n%2^64*2^(k-64)%2^64):=by
    have h2:2^k=2^(k-64)*2^64:=by rw [← Nat.pow_add]; congr 1; omega
    rw [h2,← Nat.mul_assoc,show 2^128=2^64*2^64 by decide,Nat.mul_mod_mul_right,Nat.mul_comm _ (2^64),Nat.mul_mod n (2^(k-64)),Nat.mul_mod (n%2^64) (2^(k-64)),Nat.mod_mod]
   have e1:n*2^k%2^128/2^64=n%2^64*2^(k-64)%2^64:=by rw [v1]; omega
   have e2:n*2^k%2^128%2^64=0:=by rw [v1]; omega
   unfold Wi
   rw [e1,e2]
   rfl
 ·rw [show decide ((k:Int)≥128)=true from decide_eq_true (by omega),cond_true]
  have e:n*2^k%2^128=0:=by
   rw [show k=(k-128)+128 by omega,Nat.pow_add,← Nat.mul_assoc]
   exact Nat.mul_mod_left _ _
  rw [e]
  rfl
theorem T120_eq (n k:Nat) (hn:n<2^128):T120 (Wi n,(k:Int),())=some (Wi (n/2^k),()):=by
 show t120 (Wi n) k=_
 unfold t120
 rcases Nat.eq_zero_or_pos k with rfl | hk
 ·have e:n/2^0=n:=by rw [Nat.pow_zero,Nat.div_one]
  rw [e]; rfl
 rw [W_le0 k hk,cond_false]
 rcases Nat.lt_or_ge k 128 with h128 | h128
 ·rw [show decide ((k:Int)≥128)=false from decide_eq_false (by omega),cond_false]
  have hlo:(n%2^64)<2^64:=Nat.mod_lt _ (by decide)
  have hhi:n/2^64<2^64:=by omega
  rcases Nat.lt_or_ge k 64 with h64 | h64
  ·have e8:IntKind.wrap .i64 (64-(k:Int))=((64-k:Nat):Int):=wsub 64 k (by omega) (by omega)
   rw [show decide ((k:Int)≥64)=false from decide_eq_false (by omega),cond_false,nnn,cond_true,e8,nnn,cond_true,cond_true]
   show some ((shrI .u64 ((n/2^64:Nat):Int) k,(orI .u64 (shrI .u64 ((n%2^64:Nat):Int) k) (shlI .u64 ((n/2^64:Nat):Int) ((64-k:Nat):Int)),())),())=_
   rw [shlN _ (64-k) (by omega),shrN _ k (by omega),shrN _ k (by omega)]
   have hp:=Nat.two_pow_pos k
   have hp2:=Nat.two_pow_pos (64-k)
   have h2:2^64=2^k*2^(64-k):=by rw [← Nat.pow_add]; congr 1; omega
   have hsplit:n=2^64*(n/2^64)+n%2^64:=(Nat.div_add_mod n (2^64)).symm
   generalize n/2^64=hi at *
   generalize n%2^64=lo at *
   have g1:hi*2^(64-k)%2^64=(hi%2^k)*2^(64-k):=by rw [h2,Nat.mul_mod_mul_right]
   have g2:lo/2^k<2^(64-k):=by rw [Nat.div_lt_iff_lt_mul hp,Nat.mul_comm,← h2]; exact hlo
   have g3:hi%2^k+1≤2^k:=Nat.mod_lt _ hp
   have g4:=Nat.mul_le_mul_right (2^(64-k)) g3
   rw [← h2,Nat.add_mul,Nat.one_mul] at g4
   rw [g1,orN g2 (by omega)]
   have v1:n/2^k=hi*2^(64-k)+lo/2^k:=by
    have:n=lo+2^k*(hi*2^(64-k)):=by rw [hsplit,h2,Nat.mul_assoc,Nat.mul_comm hi]; omega
    rw [this,Nat.add_mul_div_left _ _ hp,Nat.add_comm]
   have hdm:=Nat.div_add_mod hi (2^k)
   have v2:hi*2^(64-k)=2^64*(hi/2^k)+(hi%2^k)*2^(64-k):=by
    rw [h2,Nat.mul_right_comm,← Nat.add_mul,hdm]
   rw [v2] at v1
   obtain ⟨e1,e2⟩:=aux3 v1 g2 g4
   unfold Wi
   rw [e1,e2]
  ·have e8:IntKind.wrap .i64 ((k:Int)-64)=((k-64:Nat):Int):=wsub k 64 (by omega) (by omega)
   rw [show decide ((k:Int)≥64)=true from decide_eq_true (by omega),cond_true,e8,nnn,cond_true]
   show some (((0:Int),(shrI .u64 ((n/2^64:Nat):Int) ((k-64:Nat):Int),())),())=_
   rw [shrN _ (k-64) (by omega)]
   have v1:n/2^k=n/2^64/2^(k-64):=by
    rw [Nat.div_div_eq_div_mul,← Nat.pow_add]; congr 2; omega
   have hs:n/2^k<2^64:=by
    rw [v1]; exact Nat.lt_of_le_of_lt (Nat.div_le_self _ _) hhi
   have e1:n/2^k/2^64=0:=Nat.div_eq_of_lt hs
   have e2:n/2^k%2^64=n/2^64/2^(k-64):=by rw [← v1]; exact Nat.mod_eq_of_lt hs
   unfold Wi
   rw [e1,e2]
   rfl
 ·rw [show decide ((k:Int)≥128)=true from decide_eq_true (by omega),cond_true]
  have e:n/2^k=0:=Nat.div_eq_of_lt (Nat.lt_of_lt_of_le hn (Nat.pow_le_pow_right (by decide) h128))
  rw [e]
  rfl
theorem addF (x y c:Nat):S155.F ((x:Int),((y:Int),((c:Int),())))=(((((x+y+c)%2^64:Nat):Int)),((((x+y+c)/2^64:Nat):Int)),()):=rfl
theorem addP (x y:Int) (c:Nat) (h:c≤1):S155.pre (x,(y,((c:Int),())))=true:=by
 show (decide ((0:Int)≤(c:Int))&&decide ((c:Int)≤1))=true
 rw [decide_eq_true (by omega),decide_eq_true (by omega)]; rfl
theorem subF (x y c:Nat) (h:c≤1) (hx:x<2^64) (hy:y<2^64):S157.F ((x:Int),((y:Int),((c:Int),())))=(((((x+2^64-y-c)%2^64:Nat):Int)),((if x<y+c then 1 else 0:Nat):Int),()):=by
 show ((((x:Int)-y-c)%18446744073709551616:Int),((if (x:Int)<y+c then 1 else 0:Int)),())=_
 have e1:((x:Int)-y-c)%18446744073709551616=((x+2^64-y-c)%2^64:Nat):=by omega
 rw [e1]
 by_cases h:x<y+c
 ·rw [if_pos h,if_pos (by omega)]; rfl
 ·rw [if_neg h,if_neg (by omega)]; rfl
theorem subP (x y:Int) (c:Nat) (h:c≤1):S157.pre (x,(y,((c:Int),())))=true:=by
 show (decide ((0:Int)≤(c:Int))&&decide ((c:Int)≤1))=true
 rw [decide_eq_true (by omega),decide_eq_true (by omega)]; rfl
theorem T121_eq (n m:Nat) (h:n+m<2^128):T121 (Wi n,Wi m,())=some (Wi (n+m),0,()):=by
 show t121 S155.pre S155.F (Wi n) (Wi m)=_
 unfold t121
 have c1:(n%2^64+m%2^64+0)/2^64≤1:=by omega
 have p1:S155.pre ((Wi n).2.1,((Wi m).2.1,((0:Int),())))=true:=addP _ _ 0 (by decide)
 have q1:S155.F ((Wi n).2.1,((Wi m).2.1,((0:Int),())))=_:=addF (n%2^64) (m%2^64) 0
 rw [p1,q1,cond_true]
 have p2:S155.pre ((Wi n).1,((Wi m).1,((((n%2^64+m%2^64+0)/2^64:Nat):Int),())))=true:=addP _ _ _ c1
 have q2:S155.F ((Wi n).1,((Wi m).1,((((n%2^64+m%2^64+0)/2^64:Nat):Int),())))=_:=addF (n/2^64) (m/2^64) ((n%2^64+m%2^64+0)/2^64)
 dsimp only
 rw [p2,q2,cond_true]
 have e1:(n/2^64+m/2^64+(n%2^64+m%2^64+0)/2^64)%2^64=(n+m)/2^64:=by omega
 have e2:(n%2^64+m%2^64+0)%2^64=(n+m)%2^64:=by omega
 have e3:(n/2^64+m/2^64+(n%2^64+m%2^64+0)/2^64)/2^64=0:=by omega
 rw [e1,e2,e3]
 rfl
theorem T124_eq (n m:Nat) (hn:n<2^128) (h:m≤n):T124 (Wi n,Wi m,())=some (Wi (n-m),0,()):=by
 show t124 S157.pre S157.F (Wi n) (Wi m)=_
 unfold t124
 have p1:S157.pre ((Wi n).2.1,((Wi m).2.1,((0:Int),())))=true:=subP _ _ 0 (by decide)
 have q1:S157.F ((Wi n).2.1,((Wi m).2.1,((0:Int),())))=_:=subF (n%2^64) (m%2^64) 0 (by decide) (by omega) (by omega)
 rw [p1,q1,cond_true]
 have c1:(if n%2^64<m%2^64+0 then 1 else 0)≤1:=by split <;> omega
 have p2:S157.pre ((Wi n).1,((Wi m).1,(((if n%2^64<m%2^64+0 then 1 else 0:Nat):Int),())))=true:=subP _ _ _ c1
 have q2:S157.F ((Wi n).1,((Wi m).1,(((if n%2^64<m%2^64+0 then 1 else 0:Nat):Int),())))=_:=subF (n/2^64) (m/2^64) _ c1 (by omega) (by omega)
 dsimp only
 rw [p2,q2,cond_true]
 have e2:(n%2^64+2^64-m%2^64-0)%2^64=(n-m)%2^64:=by omega
 rw [e2]
 by_cases hb:n%2^64<m%2^64+0
 ·rw [if_pos hb,if_neg (by omega)]
  have e1:(n/2^64+2^64-m/2^64-1)%2^64=(n-m)/2^64:=by omega
  rw [e1]
  rfl
 ·rw [if_neg hb,if_neg (by omega)]
  have e1:(n/2^64+2^64-m/2^64-0)%2^64=(n-m)/2^64:=by omega
  rw [e1]
  rfl
theorem T123_eq (n m:Nat):T123 (Wi n,Wi m,())=some (if n=m then 0 else if n<m then -1 else 1,()):=by
 show t123 (Wi n) (Wi m)=_
 unfold t123
 show (bif (((n/2^64:Nat):Int)==((m/2^64:Nat):Int)&&((n%2^64:Nat):Int)==((m%2^64:Nat):Int)) then some ((0:Int),())
  else bif (decide (((n/2^64:Nat):Int)<((m/2^64:Nat):Int))||(((n/2^64:Nat):Int)==((m/2^64:Nat):Int)&&decide (((n%2^64:Nat):Int)<((m%2^64:Nat):Int)))) then some ((-1:Int),()) else some ((1:Int),()):Option (Int×Unit))=_
 rw [nbeq,nbeq,nlt,nlt]
 rcases Nat.lt_trichotomy n m with h | h | h
 ·have e1:(n/2^64==m/2^64&&n%2^64==m%2^64)=false:=by
   rw [Bool.and_eq_false_iff,beq_eq_false_iff_ne,beq_eq_false_iff_ne]; omega
  have e2:(decide (n/2^64<m/2^64)||(n/2^64==m/2^64&&decide (n%2^64<m%2^64)))=true:=by
   rw [Bool.or_eq_true,Bool.and_eq_true,decide_eq_true_eq,decide_eq_true_eq,beq_iff_eq]; omega
  rw [e1,e2,if_neg (by omega),if_pos h]; rfl
 ·subst h
  rw [if_pos rfl]
  simp
 ·have e1:(n/2^64==m/2^64&&n%2^64==m%2^64)=false:=by
   rw [Bool.and_eq_false_iff,beq_eq_false_iff_ne,beq_eq_false_iff_ne]; omega
  have e2:(decide (n/2^64<m/2^64)||(n/2^64==m/2^64&&decide (n%2^64<m%2^64)))=false:=by
   rw [Bool.or_eq_false_iff,Bool.and_eq_false_iff,decide_eq_false_iff_not,decide_eq_false_iff_not,beq_eq_false_iff_ne]; omega
  rw [e1,e2,if_neg (by omega),if_neg (by omega)]; rfl
end VL
namespace VL
open Go Vx
def furM (m:Int) (neg odd:Bool) (rest:Nat):Bool :=
 if m=4 then neg else if m=3 then !neg else if m=0 then (if rest=2 then odd else decide (2≤rest)) else if m=1 then decide (2≤rest) else if m=5 then !odd else false
theorem ibeq_f (a b:Int) (h:a≠b):(a==b)=false:=by simp [h]
theorem T177_eq (m:Int) (neg odd:Bool) (rest:Nat):T177 (m,neg,odd,(rest:Int),())=some (furM m neg odd rest,()):=by
 show t177 m neg odd (rest:Int)=_
 have e2:decide ((rest:Int)≥2)=decide (2≤rest):=by rw [Bool.eq_iff_iff,decide_eq_true_eq,decide_eq_true_eq]; omega
 have e3:((rest:Int)==2)=decide (rest=2):=by rw [Bool.eq_iff_iff,decide_eq_true_eq,beq_iff_eq]; omega
 unfold t177 furM
 rw [e2,e3]
 by_cases h4:m=4
 ·subst h4; cases neg <;> rfl
 rw [ibeq_f m 4 h4,cond_false,if_neg h4]
 by_cases h3:m=3
 ·subst h3; rfl
 rw [ibeq_f m 3 h3,cond_false,if_neg h3]
 by_cases h0:m=0
 ·subst h0
  by_cases hr:rest=2
  ·subst hr; rfl
  ·rw [decide_eq_false hr,if_pos rfl,if_neg hr]; rfl
 rw [ibeq_f m 0 h0,cond_false,if_neg h0]
 by_cases h1:m=1
 ·subst h1; rfl
 rw [ibeq_f m 1 h1,cond_false,if_neg h1]
 by_cases h5:m=5
 ·subst h5; rfl
 rw [ibeq_f m 5 h5,cond_false,if_neg h5]
def quoE (n:Nat) (e q:Int):Nat:=if q≤e then n*2^(e-q).toNat else n/2^(q-e).toNat
def clsR (r s:Nat):Nat:=if r=0 then 0 else if r<2^(s-1) then 1 else if r=2^(s-1) then 2 else 3
def rstE (n:Nat) (e q:Int):Nat:=if q≤e then 0 else clsR (n%2^(q-e).toNat) (q-e).toNat
def j4 (n:Nat) (e q:Int):Nat:=if 2≤q-e then jamN n (q-e-2).toNat else n*2^(2-(q-e)).toNat
theorem j4_eq (n:Nat) (e q:Int):j4 n e q/4=quoE n e q∧j4 n e q%4=rstE n e q:=by
 unfold j4 quoE rstE
 by_cases h2:2≤q-e
 ·rw [if_pos h2,if_neg (by omega),if_neg (by omega)]
  have es:(q-e).toNat=(q-e-2).toNat+2:=by omega
  rw [es]
  generalize (q-e-2).toNat=s
  have hp:=Nat.two_pow_pos s
  have e1:2^(s+2)=2^s*4:=by rw [Nat.pow_add]
  have e2:2^(s+2-1)=2^s*2:=by rw [show s+2-1=s+1 by omega,Nat.pow_succ]
  unfold jamN clsR
  rw [e2,e1,← Nat.div_div_eq_div_mul,Nat.mod_mul]
  have hr:=Nat.mod_lt n hp
  generalize n%2^s=r at *
  generalize n/2^s=u at *
  have h4:u%4=0∨u%4=1∨u%4=2∨u%4=3:=by omega
  constructor
  ·split <;> omega
  ·rcases h4 with h | h | h | h <;> rw [h] <;> by_cases hz:r=0
   ·rw [if_pos hz,if_pos (by omega)]; exact h
   ·rw [if_neg hz,if_neg (by omega),if_pos (by omega)]; omega
   ·rw [if_pos hz,if_neg (by omega),if_pos (by omega)]; exact h
   ·rw [if_neg hz,if_neg (by omega),if_pos (by omega)]; omega
   ·rw [if_pos hz,if_neg (by omega),if_neg (by omega),if_pos (by omega)]; exact h
   ·rw [if_neg hz,if_neg (by omega),if_neg (by omega),if_neg (by omega)]; omega
   ·rw [if_pos hz,if_neg (by omega),if_neg (by omega),if_neg (by omega)]; exact h
   ·rw [if_neg hz,if_neg (by omega),if_neg (by omega),if_neg (by omega)]; omega
 ·rw [if_neg h2]
  by_cases h1:q≤e
  ·rw [if_pos h1,if_pos h1,show (2-(q-e)).toNat=(e-q).toNat+2 by omega,Nat.pow_add,← Nat.mul_assoc]
   generalize n*2^(e-q).toNat=x
   omega
  ·rw [if_neg h1,if_neg h1,show (2-(q-e)).toNat=1 by omega,show (q-e).toNat=1 by omega]
   unfold clsR
   rcases Nat.mod_two_eq_zero_or_one n with h | h
   ·rw [show n%2^1=0 from h,if_pos rfl]; omega
   ·rw [show n%2^1=1 from h,if_neg (by omega),if_neg (by decide),if_pos (by decide)]; omega
def cutR (n:Nat) (e q:Int) (more:Bool):Nat:=if more then rstE n e q/2*2+1 else rstE n e q
def cutN (m:Int) (neg:Bool) (n:Nat) (e q:Int) (more:Bool):Nat :=
 if cutR n e q more≠0∧furM m neg (decide (quoE n e q%2=1)) (cutR n e q more)=true then quoE n e q+1 else quoE n e q
theorem Dw_zero:Dw 0=[]:=by unfold Dw; rw [dg_zero]; rfl
theorem Dw_len {n:Nat} (h:n≠0):0<(Dw n).length:=by
 unfold Dw; rw [Wd_len,dg_pos (by decide) (by omega)]; simp
theorem Dw_len_gt {n:Nat} (h:n≠0):decide ((((Dw n).length:Nat):Int)>0)=true:=decide_eq_true (by have:=Dw_len h; omega)
theorem Dw_len_pos {n:Nat} (h:n≠0):decide ((0:Int)<(((Dw n).length:Nat):Int))=true:=decide_eq_true (by have:=Dw_len h; omega)
theorem Dw_get (n:Nat):(Dw n).getD 0 0=((n%2^64:Nat):Int):=by
 unfold Dw; rw [Wd_getD]
 rcases Nat.eq_zero_or_pos n with rfl | h
 ·rw [dg_zero]; rfl
 ·rw [dg_pos (by decide) h]; rfl
theorem Dw_one:Dw 1=(1:Int)::[]:=by
 unfold Dw; rw [dg_pos (by decide) (by decide),dg_zero]; rfl
theorem Dw_guard (n:Nat):(decide ((0:Int)<(((Dw n).length:Nat):Int))||!decide ((((Dw n).length:Nat):Int)>0))=true:=by
 by_cases h:0<(Dw n).length
 ·rw [decide_eq_true (by omega)]; rfl
 ·rw [decide_eq_false (p:=(((Dw n).length:Nat):Int)>0) (by omega)]; simp
theorem and3 (n:Nat):andI .u64 ((n%2^64:Nat):Int) 3=((n%4:Nat):Int):=by
 have:=andI_mask (m:=n%2^64) (n:=2) (Nat.mod_lt _ (by decide)) (by decide)
 rw [show n%2^64%2^2=n%4 by omega] at this
 exact this
theorem and1 (n:Nat):andI .u64 ((n%2^64:Nat):Int) 1=((n%2:Nat):Int):=by
 have:=andI_mask (m:=n%2^64) (n:=1) (Nat.mod_lt _ (by decide)) (by decide)
 rw [show n%2^64%2^1=n%2 by omega] at this
 exact this
theorem or1 (n:Nat) (h:n<2^64):orI .u64 (n:Int) 1=((n/2*2+1:Nat):Int):=by
 have:=orN2 (a:=n) (b:=1) h (by decide)
 rw [or_one] at this
 exact this
theorem or01:orI .u64 0 1=1:=by decide
theorem odd_guard (u:Nat):(decide ((((Dw u).length:Nat):Int)>0)&&(andI .u64 ((Dw u).getD 0 0) 1==1))=decide (u%2=1):=by
 rw [Dw_get,and1]
 rcases Nat.eq_zero_or_pos u with rfl | h
 ·rw [Dw_zero]; rfl
 ·rw [Dw_len_gt (by omega),Bool.true_and,Bool.eq_iff_iff,decide_eq_true_eq,beq_iff_eq]; omega
theorem Dw_ws {n:Nat} (h:n<(2^64)^5000):Ws (dg (2^64) n):=by
 have:=dg_len_le (B:=2^64) (by decide) 5000 n h
 exact dg_ws n (by omega)
theorem nv_Dw (n:Nat):nv (2^64) (dg (2^64) n)=n:=nv_dg (by decide) n
theorem shr2 {j:Nat} (hj:Ws (dg (2^64) j)):T141 (Dw j,(2:Int),())=some (Dw (j/4),0,()):=by
 have:=T141_eq (dg (2^64) j) hj 2 (by decide)
 rw [nv_Dw] at this
 exact this
theorem add1 {u:Nat} (hu:Ws (dg (2^64) u)) (hl:(dg (2^64) u).length<1000000):T143 (Dw u,((1:Int)::[]),())=some (Dw (u+1),()):=by
 have:=T143_eq (dg (2^64) u) [1] hu ⟨by simp,by simp⟩ (by rw [dg_trim (by decide)]; exact hl) (by simp [trimL])
 rw [nv_Dw,show nv (2^64) [1]=1 by rfl] at this
 exact this
end VL
namespace VL
open Go Vx
theorem gt00:decide ((0:Int)>0)=false:=rfl
theorem T150_eq (m:Int) (neg:Bool) (n:Nat) (e q:Int) (more:Bool) (hn:n<(2^64)^2000) (hq:q-e≤10000000) (he:-1000000000≤e∧e≤1000000000) (hqb:-1000000000≤q∧q≤1000000000)
  (hs:q-e<2→2-(q-e)≤65536∧n*2^(2-(q-e)).toNat<(2^64)^1024) :
  T150 ((neg,Dw n,e,more,()),m,q,())=some (Dw (cutN m neg n e q more),decide (cutR n e q more≠0),()):=by
 show t150 _ _ _ _ _ _ _ _ _ _ (neg,Dw n,e,more,()) m q=_
 unfold t150
 have hnw:Ws (dg (2^64) n):=Dw_ws (Nat.lt_trans hn (Nat.pow_lt_pow_right (by decide) (by decide)))
 have e0:IntKind.wrap .i64 (q-e)=q-e:=wrapI (by omega)
 have hj4:=j4_eq n e q
 dsimp only
 rw [e0]
 by_cases h2:2≤q-e
 ·rw [show decide (q-e≥2)=true from decide_eq_true h2,cond_true]
  obtain ⟨s,hs⟩:=Int.eq_ofNat_of_zero_le (show 0≤q-e-2 by omega)
  have e1:IntKind.wrap .i64 (q-e-2)=(s:Int):=by rw [wrapI (by omega)]; exact hs
  have hj:j4 n e q=jamN n s:=by unfold j4; rw [if_pos h2]; congr 1; omega
  rw [hj] at hj4
  have hjn:jamN n s≤n+1:=by
   unfold jamN
   have:=Nat.div_le_self n (2^s)
   split <;> omega
  have p0:=T175_eq (dg (2^64) n) hnw s (by omega)
  rw [nv_Dw] at p0
  have hjl:jamN n s<(2^64)^5000:=by
   have h1:(2^64)^2000<(2^64)^5000:=Nat.pow_lt_pow_right (by decide) (by decide)
   generalize (2^64)^2000=A at *
   generalize (2^64)^5000=B at *
   omega
  clear hj
  generalize jamN n s=j at *
  have hj:Ws (dg (2^64) j):=Dw_ws hjl
  rw [e1]
  have p0:T175 (Dw n,(s:Int),())=some (Dw j,0,()):=p0
  have p1:=shr2 hj
  have hu:Ws (dg (2^64) (j/4)):=Dw_ws (Nat.lt_of_le_of_lt (Nat.div_le_self _ _) hjl)
  have hul:=dg_len_le (B:=2^64) (by decide) 5000 (j/4) (Nat.lt_of_le_of_lt (Nat.div_le_self _ _) hjl)
  have p3:=add1 hu (by omega)
  have h4:j%4<4:=Nat.mod_lt _ (by decide)
  unfold cutN cutR
  rw [← hj4.1,← hj4.2]
  rcases Nat.eq_zero_or_pos j with hj0 | hj0
  ·subst hj0
   have pz:T141 ([],(2:Int),())=some (Dw (0/4),0,()):=by rw [← Dw_zero]; exact p1
   cases more with
   | true =>
    have p2:T177 (m,neg,decide (0/4%2=1),(1:Int),())=some (furM m neg (decide (0/4%2=1)) 1,()):=T177_eq m neg _ 1
    simp only [pre175 p0,fun175 p0,cond_true,Dw_zero,List.length_nil,igt0_f,Int.natCast_zero,cond_false,Int.toNat_zero,gt00,or01,pre141 pz,fun141 pz,Dw_guard,odd_guard,pre177 p2,fun177 p2,Bool.true_or,Bool.or_true,Bool.true_and]
    cases hf:furM m neg (decide (0/4%2=1)) 1 with
    | true=>simp only [cond_true,pre143 p3,fun143 p3]; have hf:furM m neg false 1=true:=hf; simp [hf]
    | false=>simp only [cond_false]; have hf:furM m neg false 1=false:=hf; simp [hf]
   | false =>
    simp only [pre175 p0,fun175 p0,cond_true,Dw_zero,List.length_nil,Int.natCast_zero,cond_false,Int.toNat_zero,gt00,pre141 pz,fun141 pz,Dw_guard,Bool.or_true]
    simp
  ·have hjn:j≠0:=by omega
   cases more with
   | true =>
    have p2:=T177_eq m neg (decide (j/4%2=1)) (j%4/2*2+1)
    have hr:j%4/2*2+1≠0:=by omega
    simp only [pre175 p0,fun175 p0,cond_true,Dw_len_gt hjn,Dw_len_pos hjn,Int.toNat_zero,Dw_get j,and3,or1 (j%4) (by omega),pre141 p1,fun141 p1,Dw_guard,odd_guard,pre177 p2,fun177 p2,Bool.true_or,Bool.or_true,bne0_t _ hr,Bool.true_and]
    cases hf:furM m neg (decide (j/4%2=1)) (j%4/2*2+1) with
    | true=>simp only [cond_true,pre143 p3,fun143 p3]; simp [hf]
    | false=>simp only [cond_false]; simp [hf]
   | false =>
    have p2:=T177_eq m neg (decide (j/4%2=1)) (j%4)
    simp only [pre175 p0,fun175 p0,cond_true,cond_false,Dw_len_gt hjn,Dw_len_pos hjn,Int.toNat_zero,Dw_get j,and3,pre141 p1,fun141 p1,Dw_guard,odd_guard,pre177 p2,fun177 p2,Bool.true_or,Bool.or_true]
    rcases Nat.eq_zero_or_pos (j%4) with hz | hz
    ·rw [bne0_f _ hz,Bool.false_and,cond_false]
     simp [hz]
    ·have hr:j%4≠0:=by omega
     rw [bne0_t _ hr,Bool.true_and]
     cases hf:furM m neg (decide (j/4%2=1)) (j%4) with
     | true=>simp only [cond_true,pre143 p3,fun143 p3]; simp [hf,hr]
     | false=>simp only [cond_false]; simp [hf,hr]
 ·rw [show decide (q-e≥2)=false from decide_eq_false h2,cond_false]
  obtain ⟨s,hse⟩:=Int.eq_ofNat_of_zero_le (show 0≤2-(q-e) by omega)
  have e1:IntKind.wrap .i64 (2-(q-e))=(s:Int):=by rw [wrapI (by omega)]; exact hse
  have hj:j4 n e q=n*2^s:=by unfold j4; rw [if_neg h2]; congr 2; omega
  rw [hj] at hj4
  obtain ⟨hs1,hs2⟩:=hs (by omega)
  rw [show (2-(q-e)).toNat=s by omega] at hs2
  have p0:=T176_eq (dg (2^64) n) hnw s (by omega) (by rw [nv_Dw]; exact hs2)
  rw [nv_Dw] at p0
  have hjl:n*2^s<(2^64)^5000:=Nat.lt_trans hs2 (Nat.pow_lt_pow_right (by decide) (by decide))
  clear hj
  generalize n*2^s=j at *
  have hj:Ws (dg (2^64) j):=Dw_ws hjl
  rw [e1]
  have p0:T176 (Dw n,(s:Int),())=some (Dw j,0,()):=p0
  have p1:=shr2 hj
  have hu:Ws (dg (2^64) (j/4)):=Dw_ws (Nat.lt_of_le_of_lt (Nat.div_le_self _ _) hjl)
  have hul:=dg_len_le (B:=2^64) (by decide) 5000 (j/4) (Nat.lt_of_le_of_lt (Nat.div_le_self _ _) hjl)
  have p3:=add1 hu (by omega)
  have h4:j%4<4:=Nat.mod_lt _ (by decide)
  unfold cutN cutR
  rw [← hj4.1,← hj4.2]
  rcases Nat.eq_zero_or_pos j with hj0 | hj0
  ·subst hj0
   have pz:T141 ([],(2:Int),())=some (Dw (0/4),0,()):=by rw [← Dw_zero]; exact p1
   cases more with
   | true =>
    have p2:T177 (m,neg,decide (0/4%2=1),(1:Int),())=some (furM m neg (decide (0/4%2=1)) 1,()):=T177_eq m neg _ 1
    simp only [pre176 p0,fun176 p0,cond_true,Dw_zero,List.length_nil,igt0_f,Int.natCast_zero,cond_false,Int.toNat_zero,gt00,or01,pre141 pz,fun141 pz,Dw_guard,odd_guard,pre177 p2,fun177 p2,Bool.true_or,Bool.or_true,Bool.true_and]
    cases hf:furM m neg (decide (0/4%2=1)) 1 with
    | true=>simp only [cond_true,pre143 p3,fun143 p3]; have hf:furM m neg false 1=true:=hf; simp [hf]
    | false=>simp only [cond_false]; have hf:furM m neg false 1=false:=hf; simp [hf]
   | false =>
    simp only [pre176 p0,fun176 p0,cond_true,Dw_zero,List.length_nil,Int.natCast_zero,cond_false,Int.toNat_zero,gt00,pre141 pz,fun141 pz,Dw_guard,Bool.or_true]
    simp
  ·have hjn:j≠0:=by omega
   cases more with
   | true =>
    have p2:=T177_eq m neg (decide (j/4%2=1)) (j%4/2*2+1)
    have hr:j%4/2*2+1≠0:=by omega
    simp only [pre176 p0,fun176 p0,cond_true,Dw_len_gt hjn,Dw_len_pos hjn,Int.toNat_zero,Dw_get j,and3,or1 (j%4) (by omega),pre141 p1,fun141 p1,Dw_guard,odd_guard,pre177 p2,fun177 p2,Bool.true_or,Bool.or_true,bne0_t _ hr,Bool.true_and]
    cases hf:furM m neg (decide (j/4%2=1)) (j%4/2*2+1) with
    | true=>simp only [cond_true,pre143 p3,fun143 p3]; simp [hf]
    | false=>simp only [cond_false]; simp [hf]
   | false =>
    have p2:=T177_eq m neg (decide (j/4%2=1)) (j%4)
    simp only [pre176 p0,fun176 p0,cond_true,cond_false,Dw_len_gt hjn,Dw_len_pos hjn,Int.toNat_zero,Dw_get j,and3,pre141 p1,fun141 p1,Dw_guard,odd_guard,pre177 p2,fun177 p2,Bool.true_or,Bool.or_true]
    rcases Nat.eq_zero_or_pos (j%4) with hz | hz
    ·rw [bne0_f _ hz,Bool.false_and,cond_false]
     simp [hz]
    ·have hr:j%4≠0:=by omega
     rw [bne0_t _ hr,Bool.true_and]
     cases hf:furM m neg (decide (j/4%2=1)) (j%4) with
     | true=>simp only [cond_true,pre143 p3,fun143 p3]; simp [hf,hr]
     | false=>simp only [cond_false]; simp [hf,hr]
end VL
namespace VL
open Go Vx
def sgnF (f:Int) (neg:Bool):Nat:=if neg then 2^(fW f-1) else 0
def infB (f:Int) (neg:Bool):Nat:=(2^(fW f-fP f)-1)*2^(fP f-1)+sgnF f neg
def upw (m:Int) (neg:Bool):Bool:=((m==0||m==1)||(m==3&&!neg))||(m==4&&neg)
def beyB (f m:Int) (neg:Bool):Nat:=if upw m neg then infB f neg else infB f neg-1
theorem T97_ok {f:Int} (h:Fm f) (neg:Bool):T97 (f,neg,())=some ((infB f neg:Int),0,()):=by
 rcases Fm_cases h with rfl | rfl | rfl | rfl <;> cases neg <;> kernel_rfl
theorem T43_ok {f:Int} (h:Fm f) (neg:Bool):T43 (f,neg,())=some (((infB f neg-1:Nat):Int),0,()):=by
 rcases Fm_cases h with rfl | rfl | rfl | rfl <;> cases neg <;> kernel_rfl
theorem T118_ok {f:Int} (h:Fm f) (neg:Bool):T118 (f,neg,())=some ((sgnF f neg:Int),0,()):=by
 rcases Fm_cases h with rfl | rfl | rfl | rfl <;> cases neg <;> kernel_rfl
theorem T149_eq {f:Int} (h:Fm f) (m:Int) (neg:Bool):T149 (f,m,neg,())=some ((beyB f m neg:Int),()):=by
 show t149 S97.pre S97.F S43.pre S43.F f m neg=_
 have p0:=T97_ok h neg
 have p1:=T43_ok h neg
 unfold t149 beyB
 show (bif upw m neg then (bif S97.pre (f,neg,()) then some ((S97.F (f,neg,())).1,()) else none) else (bif S43.pre (f,neg,()) then some ((S43.F (f,neg,())).1,()) else none))=_
 rw [pre97 p0,fun97 p0,pre43 p1,fun43 p1]
 cases upw m neg <;> rfl
def topE (n:Nat) (e:Int):Int:=e+(blen n:Int)-1
theorem blen_bound {n k:Nat} (h:n<2^k):blen n≤k:=by
 rcases Nat.eq_zero_or_pos n with rfl | hn
 ·exact Nat.zero_le _
 ·have:=blen_le (n:=n) (by omega)
  have:blen n-1<k:=(Nat.pow_lt_pow_iff_right (a:=2) (by decide)).1 (Nat.lt_of_le_of_lt this h)
  omega
theorem blen_pos {n:Nat} (h:n≠0):1≤blen n:=by unfold blen; rw [if_neg h]; omega
theorem big_blen {n:Nat} (h:n<(2^64)^2000):blen n≤128000:=by
 apply blen_bound
 rw [pow64] at h
 exact h
theorem T151_Dw {n:Nat} (h:n<(2^64)^5000):T151 (Dw n,())=some ((blen n:Int),()):=by
 have:=T151_eq _ (Dw_ws h)
 rw [nv_Dw] at this
 exact this
theorem lt5000 {n:Nat} (h:n<(2^64)^2000):n<(2^64)^5000:=Nat.lt_trans h (Nat.pow_lt_pow_right (by decide) (by decide))
theorem T148_eq (neg:Bool) (n:Nat) (e:Int) (more:Bool) (hn:n<(2^64)^2000) (he:-1000000≤e∧e≤1000000):T148 ((neg,Dw n,e,more,()),())=some (topE n e,()):=by
 show t148 S151.pre S151.F (neg,Dw n,e,more,())=_
 unfold t148
 have p0:=T151_Dw (lt5000 hn)
 have hb:=big_blen hn
 simp only [pre151 p0,fun151 p0,cond_true]
 rw [wrapI (n:=e+(blen n:Int)) (by omega),wrapI (by omega)]
 rfl
theorem quo_lt {n:Nat} {e q:Int} {p:Nat} (h:topE n e-p+1≤q):quoE n e q<2^p:=by
 unfold topE at h
 unfold quoE
 have hb:=blen_lt n
 by_cases hq:q≤e
 ·rw [if_pos hq]
  have h1:n*2^(e-q).toNat<2^blen n*2^(e-q).toNat:=Nat.mul_lt_mul_of_pos_right hb (Nat.two_pow_pos _)
  rw [← Nat.pow_add] at h1
  exact Nat.lt_of_lt_of_le h1 (Nat.pow_le_pow_right (by decide) (by omega))
 ·rw [if_neg hq,Nat.div_lt_iff_lt_mul (Nat.two_pow_pos _),← Nat.pow_add]
  exact Nat.lt_of_lt_of_le hb (Nat.pow_le_pow_right (by decide) (by omega))
theorem cut_le {m:Int} {neg:Bool} {n:Nat} {e q:Int} {more:Bool} {p:Nat} (h:topE n e-p+1≤q):cutN m neg n e q more≤2^p:=by
 have:=quo_lt h
 unfold cutN
 split <;> omega
theorem T150_ok (m:Int) (neg:Bool) (n:Nat) (e q:Int) (more:Bool) (hn:n<(2^64)^2000) (he:-1000000≤e∧e≤1000000) {p:Nat} (hp:p≤60) (h1:topE n e-p+1≤q) (h2:q≤topE n e∨q≤1000) :
  T150 ((neg,Dw n,e,more,()),m,q,())=some (Dw (cutN m neg n e q more),decide (cutR n e q more≠0),()):=by
 have hb:=big_blen hn
 unfold topE at h1 h2
 refine T150_eq m neg n e q more hn (by omega) (by omega) (by omega) fun hs=>?_
 refine ⟨by omega,?_⟩
 have hl:=blen_lt n
 have h3:n*2^(2-(q-e)).toNat<2^blen n*2^(2-(q-e)).toNat:=Nat.mul_lt_mul_of_pos_right hl (Nat.two_pow_pos _)
 rw [← Nat.pow_add] at h3
 rw [pow64]
 exact Nat.lt_of_lt_of_le h3 (Nat.pow_le_pow_right (by decide) (by omega))
theorem T152_eq (neg:Bool) (n:Nat) (e:Int) (more:Bool) (f m:Int) (hf:Fm f) (hn:n<(2^64)^2000) (he:-1000000≤e∧e≤1000000) :
  T152 ((neg,Dw n,e,more,()),rowOf f,m,topE n e,())=some (decide (topE n e<1-(fX f:Int)∧topE n e-fP f+blen (cutN m neg n e (topE n e-fP f+1) more)<1-(fX f:Int)),()):=by
 show t152 S150.pre S150.F S151.pre S151.F (neg,Dw n,e,more,()) ((fW f:Int),((fP f:Int),((1-(fX f:Int)),((fX f:Int),())))) m (topE n e)=_
 unfold t152
 have hb:=big_blen hn
 have hp:=fP_lt hf
 have hw:=fW_le hf
 have hx:=fX_le hf
 have hp8:=fP_ge hf
 have ht:topE n e=e+(blen n:Int)-1:=rfl
 have p0:=T150_ok m neg n e (topE n e-fP f+1) more hn he (p:=fP f) (by omega) (by omega) (by omega)
 have hc:=cut_le (m:=m) (neg:=neg) (more:=more) (n:=n) (e:=e) (q:=topE n e-fP f+1) (p:=fP f) (by omega)
 generalize cutN m neg n e (topE n e-fP f+1) more=u at *
 have hu:u<(2^64)^5000:=by
  rw [pow64]
  exact Nat.lt_of_le_of_lt hc (Nat.pow_lt_pow_right (by decide) (by omega))
 have hub:blen u≤fP f+1:=blen_bound (Nat.lt_of_le_of_lt hc (Nat.pow_lt_pow_right (by decide) (by omega)))
 have p1:=T151_Dw hu
 have e1:IntKind.wrap .i64 (topE n e-(fP f:Int))=topE n e-(fP f:Int):=wrapI (by omega)
 have e2:IntKind.wrap .i64 (topE n e-(fP f:Int)+1)=topE n e-(fP f:Int)+1:=wrapI (by omega)
 have e3:IntKind.wrap .i64 (topE n e-(fP f:Int)+(blen u:Int))=topE n e-(fP f:Int)+(blen u:Int):=wrapI (by omega)
 dsimp only
 rw [e1,e2]
 by_cases h:topE n e≥1-(fX f:Int)
 ·rw [decide_eq_true h,cond_true,decide_eq_false (by omega)]
 ·rw [decide_eq_false h,cond_false]
  simp only [pre150 p0,fun150 p0,cond_true,pre151 p1,fun151 p1,e3]
  have:(topE n e<1-(fX f:Int)):=by omega
  simp only [this,true_and]
end VL
namespace VL
open Go Vx
def lowE (f:Int) (t:Int):Int:=(if 1-(fX f:Int)>t then 1-(fX f:Int) else t)-fP f+1
def isTiny (f m:Int) (neg:Bool) (n:Nat) (e:Int) (more:Bool):Prop:=topE n e<1-(fX f:Int)∧topE n e-fP f+blen (cutN m neg n e (topE n e-fP f+1) more)<1-(fX f:Int)
instance (f m:Int) (neg:Bool) (n:Nat) (e:Int) (more:Bool):Decidable (isTiny f m neg n e more):=by unfold isTiny; infer_instance
def rndN (f m:Int) (neg:Bool) (n:Nat) (e:Int) (more:Bool):Nat×Nat :=
 if topE n e>fX f then (beyB f m neg,20)
 else
  let q:=lowE f (topE n e)
  let u:=cutN m neg n e q more
  if q+blen u-1>fX f then (beyB f m neg,20)
  else ((q-(1-(fX f:Int)-fP f+1)).toNat*2^(fP f-1)+u+sgnF f neg,
   if cutR n e q more=0 then 0 else if isTiny f m neg n e more then 24 else 16)
theorem half_eq {f:Int} (hf:Fm f):(2*fX f-1)*2^(fP f-1)+2^fP f+2^(fP f-1)=2^(fW f-1):=by
 rcases Fm_cases hf with rfl | rfl | rfl | rfl <;> decide
theorem fX_ge {f:Int} (hf:Fm f):15≤fX f:=by
 rcases Fm_cases hf with rfl | rfl | rfl | rfl <;> decide
theorem T107_eq (neg:Bool) (n:Nat) (e:Int) (more:Bool) (f m:Int) (hf:Fm f) (hn:n<(2^64)^2000) (he:-1000000≤e∧e≤1000000) :
  T107 ((neg,Dw n,e,more,()),f,rowOf f,m,())=some (((rndN f m neg n e more).1:Int),((rndN f m neg n e more).2:Int),()):=by
 show t107 _ _ _ _ _ _ _ _ _ _ (neg,Dw n,e,more,()) f ((fW f:Int),((fP f:Int),((1-(fX f:Int)),((fX f:Int),())))) m=_
 unfold t107 rndN
 have hb:=big_blen hn
 have hp:=fP_lt hf
 have hp8:=fP_ge hf
 have hw:=fW_le hf
 have hx:=fX_le hf
 have hx15:=fX_ge hf
 have ht:topE n e=e+(blen n:Int)-1:=rfl
 have pt:=T148_eq neg n e more hn he
 have pb:=T149_eq hf m neg
 have py:=T152_eq neg n e more f m hf hn he
 have hrow:rowOf f=((fW f:Int),((fP f:Int),((1-(fX f:Int)),((fX f:Int),())))):=rfl
 rw [hrow] at py
 simp only [pre148 pt,fun148 pt,cond_true]
 by_cases h1:topE n e>(fX f:Int)
 ·rw [if_pos h1,decide_eq_true h1,cond_true]
  simp only [pre149 pb,fun149 pb,cond_true]
  rfl
 rw [if_neg h1,decide_eq_false h1,cond_false]
 have hM:∃ M:Int,(if 1-(fX f:Int)>topE n e then 1-(fX f:Int) else topE n e)=M∧topE n e≤M∧1-(fX f:Int)≤M∧M≤fX f∧(M=topE n e∨M=1-(fX f:Int)):=by
  refine ⟨_,rfl,?_⟩
  split <;> omega
 obtain ⟨M,hMe,m1,m2,m3,m4⟩:=hM
 have hq:lowE f (topE n e)=M-fP f+1:=by unfold lowE; rw [hMe]
 simp only [hMe,hq]
 have e1:IntKind.wrap .i64 (M-(fP f:Int))=M-(fP f:Int):=wrapI (by omega)
 have e2:IntKind.wrap .i64 (M-(fP f:Int)+1)=M-(fP f:Int)+1:=wrapI (by omega)
 simp only [e1,e2]
 have p0:=T150_ok m neg n e (M-(fP f:Int)+1) more hn he (p:=fP f) (by omega) (by omega) (by omega)
 have hc:=cut_le (m:=m) (neg:=neg) (more:=more) (n:=n) (e:=e) (q:=M-(fP f:Int)+1) (p:=fP f) (by omega)
 generalize cutN m neg n e (M-(fP f:Int)+1) more=u at *
 generalize cutR n e (M-(fP f:Int)+1) more=r at *
 have hP60:2^fP f≤2^60:=Nat.pow_le_pow_right (by decide) (by omega)
 have hu:u<(2^64)^5000:=by
  rw [pow64]
  exact Nat.lt_of_le_of_lt hc (Nat.pow_lt_pow_right (by decide) (by omega))
 have hub:blen u≤fP f+1:=blen_bound (Nat.lt_of_le_of_lt hc (Nat.pow_lt_pow_right (by decide) (by omega)))
 have p1:=T151_Dw hu
 have e3:IntKind.wrap .i64 ((fP f:Int)-1)=((fP f-1:Nat):Int):=wsub1 _ (by omega)
 have e4:IntKind.wrap .i64 ((fW f:Int)-1)=((fW f-1:Nat):Int):=wsub1 _ (by omega)
 have e5:IntKind.wrap .i64 (M-(fP f:Int)+1+(blen u:Int))=M-(fP f:Int)+1+(blen u:Int):=wrapI (by omega)
 have e6:IntKind.wrap .i64 (M-(fP f:Int)+1+(blen u:Int)-1)=M-(fP f:Int)+1+(blen u:Int)-1:=wrapI (by omega)
 have e7:IntKind.wrap .i64 (1-(fX f:Int)-(fP f:Int))=1-(fX f:Int)-(fP f:Int):=wrapI (by omega)
 have e8:IntKind.wrap .i64 (1-(fX f:Int)-(fP f:Int)+1)=1-(fX f:Int)-(fP f:Int)+1:=wrapI (by omega)
 obtain ⟨k,hk⟩:=Int.eq_ofNat_of_zero_le (show 0≤M-(fP f:Int)+1-(1-(fX f:Int)-(fP f:Int)+1) by omega)
 have e9:IntKind.wrap .i64 (M-(fP f:Int)+1-(1-(fX f:Int)-(fP f:Int)+1))=(k:Int):=by rw [wrapI (by omega)]; exact hk
 have e10:IntKind.wrap .u64 (k:Int)=(k:Int):=wrapU (by omega)
 have hkn:(M-(fP f:Int)+1-(1-(fX f:Int)-(fP f:Int)+1)).toNat=k:=by omega
 have hhalf:=half_eq hf
 have hk2:k≤2*fX f-1:=by omega
 have hk3:=Nat.mul_le_mul_right (2^(fP f-1)) hk2
 have hW64:2^(fW f-1)≤2^63:=Nat.pow_le_pow_right (by decide) (by omega)
 have hpp:=Nat.two_pow_pos (fP f-1)
 have e11:shlI .u64 (k:Int) ((fP f-1:Nat):Int)=((k*2^(fP f-1):Nat):Int):=by
  rw [shlN _ _ (by omega),Nat.mod_eq_of_lt (by omega)]
 have e12:shlI .u64 1 ((fW f-1:Nat):Int)=((1*2^(fW f-1):Nat):Int):=by rw [shlI_one (by omega),Nat.one_mul]
 generalize hA:k*2^(fP f-1)=A at *
 have hbits:A+u<2^(fW f-1):=by omega
 have e13:IntKind.wrap .u64 ((A:Int)+((u%2^64:Nat):Int))=((A+u:Nat):Int):=by
  rw [Nat.mod_eq_of_lt (by omega),wrapU (by omega)]; omega
 have hor:∀ b:Nat,b<2^(fW f-1)→orI .u64 (b:Int) ((1*2^(fW f-1):Nat):Int)=((b+2^(fW f-1):Nat):Int):=fun b hb=>by
  have:=orN (a:=b) (b:=1) (k:=fW f-1) hb (by omega)
  rw [Nat.one_mul] at this ⊢
  exact this
 have hsg:sgnF f neg=if neg then 2^(fW f-1) else 0:=rfl
 have htd:decide (topE n e<1-(fX f:Int)∧topE n e-fP f+blen (cutN m neg n e (topE n e-fP f+1) more)<1-(fX f:Int))=decide (isTiny f m neg n e more):=by
  unfold isTiny; rfl
 rw [htd] at py
 simp only [pre150 p0,fun150 p0,cond_true,e3,nnn,pre151 p1,fun151 p1,e5,e6,e7,e8,e9,e10,e11,e4,e12,hkn,hA]
 rcases Nat.eq_zero_or_pos u with hu0 | hu0
 ·subst hu0
  have hl0:decide ((((Dw 0).length:Nat):Int)>0)=false:=by rw [Dw_zero]; rfl
  rw [hl0,cond_false]
  by_cases h2:M-(fP f:Int)+1+(blen 0:Int)-1>(fX f:Int)
  ·rw [decide_eq_true h2,cond_true,if_pos h2]
   simp only [pre149 pb,fun149 pb,cond_true]
   rfl
  ·rw [decide_eq_false h2,cond_false,if_neg h2]
   have hbi:=hor (A) (by omega)
   rw [hbi]
   by_cases hr:r=0
   ·rw [if_pos hr,decide_eq_false (p:=r≠0) (by omega)]
    simp only [Bool.not_false,cond_true]
    cases neg <;> rfl
   ·rw [if_neg hr,decide_eq_true (p:=r≠0) hr]
    simp only [Bool.not_true,cond_false,pre152 py,fun152 py,cond_true]
    by_cases hti:isTiny f m neg n e more
    ·rw [if_pos hti,decide_eq_true hti]
     cases neg <;> rfl
    ·rw [if_neg hti,decide_eq_false hti]
     cases neg <;> rfl
 ·have hun:u≠0:=by omega
  simp only [Dw_len_gt hun,Dw_len_pos hun,cond_true,Int.toNat_zero,Dw_get,e13]
  by_cases h2:M-(fP f:Int)+1+(blen u:Int)-1>(fX f:Int)
  ·rw [decide_eq_true h2,cond_true,if_pos h2]
   simp only [pre149 pb,fun149 pb,cond_true]
   rfl
  ·rw [decide_eq_false h2,cond_false,if_neg h2]
   have hbi:=hor (A+u) (by omega)
   rw [hbi]
   by_cases hr:r=0
   ·rw [if_pos hr,decide_eq_false (p:=r≠0) (by omega)]
    simp only [Bool.not_false,cond_true]
    cases neg <;> rfl
   ·rw [if_neg hr,decide_eq_true (p:=r≠0) hr]
    simp only [Bool.not_true,cond_false,pre152 py,fun152 py,cond_true]
    by_cases hti:isTiny f m neg n e more
    ·rw [if_pos hti,decide_eq_true hti]
     cases neg <;> rfl
    ·rw [if_neg hti,decide_eq_false hti]
     cases neg <;> rfl
theorem T105_ok {f m:Int} (hf:Fm f) (hm:0≤m∧m≤5):T105 (f,m,())=some (rowOf f,0,()):=by
 show t105 S69.pre S69.F S147.pre S147.F f m=_
 unfold t105
 have p0:=T69_ok hf
 have p1:T147 (m,())=some (0,()):=by
  show t147 m=_
  unfold t147
  rw [decide_eq_false (show ¬ m<0 by omega),decide_eq_false (show ¬ m>5 by omega)]; rfl
 simp only [pre69 p0,fun69 p0,cond_true,pre147 p1,fun147 p1]
 rfl
theorem T156_ok {f:Int} (h:Fm f) (neg:Bool):T156 (f,neg,())=some ((sgnF f neg:Int),0,0,()):=by
 show t156 S118.pre S118.F f neg=_
 unfold t156
 have p0:=T118_ok h neg
 simp only [pre118 p0,fun118 p0,cond_true]
theorem two_words (s:Nat) (hs:s<2^128):(Wi s).2.1::(Wi s).1::[]=Wd [s%2^64,s/2^64]∧Ws [s%2^64,s/2^64]∧nv (2^64) [s%2^64,s/2^64]=s:=by
 refine ⟨rfl,⟨?_,by simp⟩,?_⟩
 ·intro x hx
  have:x=s%2^64∨x=s/2^64:=by simpa using hx
  omega
 ·simp only [nv]; omega
theorem T122_eq {f m:Int} (hf:Fm f) (hm:0≤m∧m≤5) (neg:Bool) (s:Nat) (hs:s<2^128) (e:Int) (he:-40000≤e∧e≤40000) (more:Bool) (hmore:more=true→fP f+2≤blen s) :
  T122 (f,m,neg,Wi s,e,more,())=some (if s=0 then ((sgnF f neg:Int),0,0,()) else (((rndN f m neg s e more).1:Int),((rndN f m neg s e more).2:Int),0,())):=by
 show t122 _ _ _ _ _ _ _ _ _ _ f m neg (Wi s) e more=_
 unfold t122
 obtain ⟨w1,w2,w3⟩:=two_words s hs
 have hP:=fP_lt hf
 have hW:=fW_le hf
 have p0:=T105_ok hf hm
 have p1:=T102_eq _ w2
 rw [← w1,w3] at p1
 have hs2:s<(2^64)^2000:=by
  rw [pow64]
  exact Nat.lt_of_lt_of_le hs (Nat.pow_le_pow_right (by decide) (by decide))
 have p2:=T151_Dw (lt5000 hs2)
 have p3:=T156_ok hf neg
 have p4:=T107_eq neg s e more f m hf hs2 (by omega)
 have e1:decide (e < -40000)=false:=decide_eq_false (by omega)
 have e2:decide (e>40000)=false:=decide_eq_false (by omega)
 have e3:IntKind.wrap .i64 ((rowOf f).2.1+2)=((fP f+2:Nat):Int):=by
  show IntKind.wrap .i64 ((fP f:Int)+2)=_
  rw [wrapI (by omega)]; rfl
 have e4:(more&&decide ((blen s:Int)<((fP f+2:Nat):Int)))=false:=by
  cases more with
  | false=>rfl
  | true=>rw [decide_eq_false (by have:=hmore rfl; omega)]; rfl
 have z0:((0:Int) != 0)=false:=rfl
 simp only [pre105 p0,fun105 p0,cond_true,z0,cond_false,pre102 p1,fun102 p1,e1,e2,Bool.or_self,pre151 p2,fun151 p2,Bool.true_or,e3,e4]
 by_cases h0:s=0
 ·rw [if_pos h0]
  subst h0
  rw [show ((((Dw 0).length:Nat):Int)==0)=true by rw [Dw_zero]; rfl,cond_true]
  simp only [pre156 p3,fun156 p3,cond_true]
 ·rw [if_neg h0,beq0_f _ (by have:=Dw_len h0; omega),cond_false]
  simp only [pre107 p4,fun107 p4,cond_true]
end VL
namespace VL
open Go Vx
theorem cls_more {r k s ρ:Nat} (hρ:0<ρ) (hρ2:ρ<2^k) (hs:1≤s):clsR (ρ+2^k*r) (k+s)=clsR r s/2*2+1:=by
 unfold clsR
 have hp:2^(k+s-1)=2^k*2^(s-1):=by rw [← Nat.pow_add]; congr 1; omega
 rw [hp]
 have hh:=Nat.two_pow_pos (s-1)
 generalize 2^(s-1)=h at *
 generalize 2^k=K at *
 rw [if_neg (by omega)]
 rcases Nat.lt_trichotomy r h with h1 | h1 | h1
 ·have:K*(r+1)≤K*h:=Nat.mul_le_mul_left _ h1
  rw [Nat.mul_add,Nat.mul_one] at this
  rw [if_pos (by omega)]
  by_cases hr:r=0
  ·rw [if_pos hr]
  ·rw [if_neg hr,if_pos h1]
 ·subst h1
  rw [if_neg (by omega),if_neg (by omega),if_neg (by omega),if_neg (by omega),if_pos rfl]
 ·have:K*(h+1)≤K*r:=Nat.mul_le_mul_left _ h1
  rw [Nat.mul_add,Nat.mul_one] at this
  rw [if_neg (by omega),if_neg (by omega),if_neg (by omega),if_neg (by omega),if_neg (by omega)]
theorem cls_scale {r k s:Nat} (hs:1≤s):clsR (2^k*r) (k+s)=clsR r s:=by
 unfold clsR
 have hp:2^(k+s-1)=2^k*2^(s-1):=by rw [← Nat.pow_add]; congr 1; omega
 rw [hp]
 have hk:=Nat.two_pow_pos k
 generalize 2^(s-1)=h at *
 generalize 2^k=K at *
 have h1:K*r=0↔r=0:=by
  constructor
  ·intro h; rcases Nat.mul_eq_zero.1 h with h | h <;> omega
  ·intro h; rw [h,Nat.mul_zero]
 have h2:K*r<K*h↔r<h:=Nat.mul_lt_mul_left hk
 have h3:K*r=K*h↔r=h:=Nat.mul_right_inj (by omega)
 simp only [h1,h2,h3]
theorem mod_split (N k s:Nat):N%2^(k+s)=N%2^k+2^k*(N/2^k%2^s):=by
 rw [Nat.pow_add,Nat.mod_mul]
theorem quoE_lo {n:Nat} {e q:Int} (h:q≤e):quoE n e q=n*2^(e-q).toNat:=if_pos h
theorem quoE_hi {n:Nat} {e q:Int} (h:e<q):quoE n e q=n/2^(q-e).toNat:=if_neg (by omega)
theorem rstE_lo {n:Nat} {e q:Int} (h:q≤e):rstE n e q=0:=if_pos h
theorem rstE_hi {n:Nat} {e q:Int} (h:e<q):rstE n e q=clsR (n%2^(q-e).toNat) (q-e).toNat:=if_neg (by omega)
theorem cutR_f (n:Nat) (e q:Int):cutR n e q false=rstE n e q:=rfl
theorem cutR_t (n:Nat) (e q:Int):cutR n e q true=rstE n e q/2*2+1:=rfl
theorem cut_trunc {N k:Nat} {E q:Int} (hq:N%2^k≠0→E+k<q) :
  quoE (N/2^k) (E+k) q=quoE N E q∧cutR (N/2^k) (E+k) q (decide (N%2^k≠0))=cutR N E q false:=by
 have hk:=Nat.two_pow_pos k
 have hdm:=Nat.div_add_mod N (2^k)
 by_cases h1:E+k<q
 ·have es:(q-E).toNat=k+(q-(E+k)).toNat:=by omega
  have hs:1≤(q-(E+k)).toNat:=by omega
  rw [quoE_hi h1,quoE_hi (by omega),cutR_f,rstE_hi (e:=E) (by omega),es]
  have hrs:=rstE_hi (n:=N/2^k) h1
  generalize (q-(E+k)).toNat=s at *
  refine ⟨by rw [Nat.div_div_eq_div_mul,← Nat.pow_add],?_⟩
  rw [mod_split]
  by_cases hr:N%2^k=0
  ·rw [hr,Nat.zero_add,cls_scale hs,show decide ((0:Nat)≠0)=false by decide,cutR_f,hrs]
  ·have hρ:0<N%2^k:=by omega
   rw [cls_more hρ (Nat.mod_lt _ hk) hs,decide_eq_true hr,cutR_t,hrs]
 ·have hr:N%2^k=0:=by
   by_cases h:N%2^k=0
   ·exact h
   ·exact absurd (hq h) h1
  rw [hr,Nat.add_zero] at hdm
  rw [hr]
  clear hq hr
  generalize N/2^k=n at *
  subst hdm
  have hz:decide ((0:Nat)≠0)=false:=by decide
  rw [hz,quoE_lo (by omega),cutR_f,cutR_f,rstE_lo (by omega)]
  by_cases h2:q≤E
  ·rw [quoE_lo h2,rstE_lo h2,show (E+k-q).toNat=k+(E-q).toNat by omega,Nat.pow_add,Nat.mul_comm (2^k) n,Nat.mul_assoc]
   exact ⟨rfl,rfl⟩
  ·rw [quoE_hi (by omega),rstE_hi (by omega)]
   have ek:k=(q-E).toNat+(E+k-q).toNat:=by omega
   generalize (q-E).toNat=s at *
   generalize (E+k-q).toNat=t at *
   have:2^k*n=2^s*(2^t*n):=by rw [ek,Nat.pow_add,Nat.mul_assoc]
   rw [this,Nat.mul_div_cancel_left _ (Nat.two_pow_pos s),Nat.mul_mod_right]
   exact ⟨Nat.mul_comm _ _,rfl⟩
theorem cutN_trunc {m:Int} {neg:Bool} {N k:Nat} {E q:Int} (hq:N%2^k≠0→E+k<q):cutN m neg (N/2^k) (E+k) q (decide (N%2^k≠0))=cutN m neg N E q false:=by
 obtain ⟨h1,h2⟩:=cut_trunc hq
 unfold cutN
 rw [h1,h2]
theorem top_trunc {N k:Nat} {E:Int} (hn:N/2^k≠0):topE (N/2^k) (E+k)=topE N E:=by
 have hk:=Nat.two_pow_pos k
 have h1:2^k≤N:=by
  rcases Nat.lt_or_ge N (2^k) with h | h
  ·exact absurd (Nat.div_eq_of_lt h) hn
  ·exact h
 have:=blen_shift h1
 unfold topE
 omega
theorem rnd_trunc {f m:Int} {neg:Bool} {N k:Nat} {E:Int} (hf:Fm f) (hn:N/2^k≠0) (hm:N%2^k≠0→fP f+2≤blen (N/2^k)):rndN f m neg (N/2^k) (E+k) (decide (N%2^k≠0))=rndN f m neg N E false:=by
 have ht:=top_trunc (E:=E) hn
 have htd:topE (N/2^k) (E+k)=E+k+(blen (N/2^k):Int)-1:=rfl
 have hq1:N%2^k≠0→E+k<lowE f (topE N E):=fun h=>by
  have:=hm h
  unfold lowE
  split <;> omega
 have hq2:N%2^k≠0→E+k<topE N E-fP f+1:=fun h=>by
  have:=hm h
  omega
 have hti:isTiny f m neg (N/2^k) (E+k) (decide (N%2^k≠0))=isTiny f m neg N E false:=by
  unfold isTiny
  rw [ht,cutN_trunc hq2]
 unfold rndN
 simp only [ht,cutN_trunc hq1,(cut_trunc hq1).2,hti]
theorem rnd_scale {f m:Int} {neg:Bool} (hf:Fm f) {n:Nat} (hn:n≠0) (k:Nat) (e:Int):rndN f m neg (n*2^k) e false=rndN f m neg n (e+k) false:=by
 have hk:=Nat.two_pow_pos k
 have:=rnd_trunc (f:=f) (m:=m) (neg:=neg) (N:=n*2^k) (k:=k) (E:=e) hf (by rw [Nat.mul_div_cancel _ hk]; exact hn) (by rw [Nat.mul_mod_left]; omega)
 rw [Nat.mul_div_cancel _ hk,Nat.mul_mod_left] at this
 exact this.symm
end VL
namespace VL
open Go Vx
noncomputable def tail71 (f m:Int) (nx:Bool) (X ex:Int) (ny:Bool) (Y ey:Int):Option (DenS O71) :=
 bif (S119.pre (((0:Int),(X,())),((if ((70:Int)<(Go.IntKind.wrap Go.IntKind.i64 (ex-ey))) then (70:Int) else (Go.IntKind.wrap Go.IntKind.i64 (ex-ey))),()))) then
  (bif (S120.pre (((0:Int),(Y,())),((Go.IntKind.wrap Go.IntKind.i64 ((Go.IntKind.wrap Go.IntKind.i64 (ex-(if ((70:Int)<(Go.IntKind.wrap Go.IntKind.i64 (ex-ey))) then (70:Int) else (Go.IntKind.wrap Go.IntKind.i64 (ex-ey)))))-ey)),()))) then
   (bif (S119.pre ((S120.F (((0:Int),(Y,())),((Go.IntKind.wrap Go.IntKind.i64 ((Go.IntKind.wrap Go.IntKind.i64 (ex-(if ((70:Int)<(Go.IntKind.wrap Go.IntKind.i64 (ex-ey))) then (70:Int) else (Go.IntKind.wrap Go.IntKind.i64 (ex-ey)))))-ey)),()))).1,((Go.IntKind.wrap Go.IntKind.i64 ((Go.IntKind.wrap Go.IntKind.i64 (ex-(if ((70:Int)<(Go.IntKind.wrap Go.IntKind.i64 (ex-ey))) then (70:Int) else (Go.IntKind.wrap Go.IntKind.i64 (ex-ey)))))-ey)),()))) then
    (bif (S120.pre (((0:Int),(Y,())),((Go.IntKind.wrap Go.IntKind.i64 ((Go.IntKind.wrap Go.IntKind.i64 (ex-(if ((70:Int)<(Go.IntKind.wrap Go.IntKind.i64 (ex-ey))) then (70:Int) else (Go.IntKind.wrap Go.IntKind.i64 (ex-ey)))))-ey)),()))) then
     (bif (nx==ny) then
      (bif (S121.pre ((S119.F (((0:Int),(X,())),((if ((70:Int)<(Go.IntKind.wrap Go.IntKind.i64 (ex-ey))) then (70:Int) else (Go.IntKind.wrap Go.IntKind.i64 (ex-ey))),()))).1,(S120.F (((0:Int),(Y,())),((Go.IntKind.wrap Go.IntKind.i64 ((Go.IntKind.wrap Go.IntKind.i64 (ex-(if ((70:Int)<(Go.IntKind.wrap Go.IntKind.i64 (ex-ey))) then (70:Int) else (Go.IntKind.wrap Go.IntKind.i64 (ex-ey)))))-ey)),()))))) then
       (bif (S122.pre (f,(m,(nx,((S121.F ((S119.F (((0:Int),(X,())),((if ((70:Int)<(Go.IntKind.wrap Go.IntKind.i64 (ex-ey))) then (70:Int) else (Go.IntKind.wrap Go.IntKind.i64 (ex-ey))),()))).1,(S120.F (((0:Int),(Y,())),((Go.IntKind.wrap Go.IntKind.i64 ((Go.IntKind.wrap Go.IntKind.i64 (ex-(if ((70:Int)<(Go.IntKind.wrap Go.IntKind.i64 (ex-ey))) then (70:Int) else (Go.IntKind.wrap Go.IntKind.i64 (ex-ey)))))-ey)),()))))).1,((Go.IntKind.wrap Go.IntKind.i64 (ex-(if ((70:Int)<(Go.IntKind.wrap Go.IntKind.i64 (ex-ey))) then (70:Int) else (Go.IntKind.wrap Go.IntKind.i64 (ex-ey))))),(((!(((S119.F ((S120.F (((0:Int),(Y,())),((Go.IntKind.wrap Go.IntKind.i64 ((Go.IntKind.wrap Go.IntKind.i64 (ex-(if ((70:Int)<(Go.IntKind.wrap Go.IntKind.i64 (ex-ey))) then (70:Int) else (Go.IntKind.wrap Go.IntKind.i64 (ex-ey)))))-ey)),()))).1,((Go.IntKind.wrap Go.IntKind.i64 ((Go.IntKind.wrap Go.IntKind.i64 (ex-(if ((70:Int)<(Go.IntKind.wrap Go.IntKind.i64 (ex-ey))) then (70:Int) else (Go.IntKind.wrap Go.IntKind.i64 (ex-ey)))))-ey)),()))).1.1==(0:Int))&&((S119.F ((S120.F (((0:Int),(Y,())),((Go.IntKind.wrap Go.IntKind.i64 ((Go.IntKind.wrap Go.IntKind.i64 (ex-(if ((70:Int)<(Go.IntKind.wrap Go.IntKind.i64 (ex-ey))) then (70:Int) else (Go.IntKind.wrap Go.IntKind.i64 (ex-ey)))))-ey)),()))).1,((Go.IntKind.wrap Go.IntKind.i64 ((Go.IntKind.wrap Go.IntKind.i64 (ex-(if ((70:Int)<(Go.IntKind.wrap Go.IntKind.i64 (ex-ey))) then (70:Int) else (Go.IntKind.wrap Go.IntKind.i64 (ex-ey)))))-ey)),()))).1.2.1==Y)))||((decide ((Go.IntKind.wrap Go.IntKind.i64 ((Go.IntKind.wrap Go.IntKind.i64 (ex-(if ((70:Int)<(Go.IntKind.wrap Go.IntKind.i64 (ex-ey))) then (70:Int) else (Go.IntKind.wrap Go.IntKind.i64 (ex-ey)))))-ey))>(63:Int)))&&(Y != (0:Int)))),()))))))) then
        (some (S122.F (f,(m,(nx,((S121.F ((S119.F (((0:Int),(X,())),((if ((70:Int)<(Go.IntKind.wrap Go.IntKind.i64 (ex-ey))) then (70:Int) else (Go.IntKind.wrap Go.IntKind.i64 (ex-ey))),()))).1,(S120.F (((0:Int),(Y,())),((Go.IntKind.wrap Go.IntKind.i64 ((Go.IntKind.wrap Go.IntKind.i64 (ex-(if ((70:Int)<(Go.IntKind.wrap Go.IntKind.i64 (ex-ey))) then (70:Int) else (Go.IntKind.wrap Go.IntKind.i64 (ex-ey)))))-ey)),()))))).1,((Go.IntKind.wrap Go.IntKind.i64 (ex-(if ((70:Int)<(Go.IntKind.wrap Go.IntKind.i64 (ex-ey))) then (70:Int) else (Go.IntKind.wrap Go.IntKind.i64 (ex-ey))))),(((!(((S119.F ((S120.F (((0:Int),(Y,())),((Go.IntKind.wrap Go.IntKind.i64 ((Go.IntKind.wrap Go.IntKind.i64 (ex-(if ((70:Int)<(Go.IntKind.wrap Go.IntKind.i64 (ex-ey))) then (70:Int) else (Go.IntKind.wrap Go.IntKind.i64 (ex-ey)))))-ey)),()))).1,((Go.IntKind.wrap Go.IntKind.i64 ((Go.IntKind.wrap Go.IntKind.i64 (ex-(if ((70:Int)<(Go.IntKind.wrap Go.IntKind.i64 (ex-ey))) then (70:Int) else (Go.IntKind.wrap Go.IntKind.i64 (ex-ey)))))-ey)),()))).1.1==(0:Int))&&((S119.F ((S120.F (((0:Int),(Y,())),((Go.IntKind.wrap Go.IntKind.i64 ((Go.IntKind.wrap Go.IntKind.i64 (ex-(if ((70:Int)<(Go.IntKind.wrap Go.IntKind.i64 (ex-ey))) then (70:Int) else (Go.IntKind.wrap Go.IntKind.i64 (ex-ey)))))-ey)),()))).1,((Go.IntKind.wrap Go.IntKind.i64 ((Go.IntKind.wrap Go.IntKind.i64 (ex-(if ((70:Int)<(Go.IntKind.wrap Go.IntKind.i64 (ex-ey))) then (70:Int) else (Go.IntKind.wrap Go.IntKind.i64 (ex-ey)))))-ey)),()))).1.2.1==Y)))||((decide ((Go.IntKind.wrap Go.IntKind.i64 ((Go.IntKind.wrap Go.IntKind.i64 (ex-(if ((70:Int)<(Go.IntKind.wrap Go.IntKind.i64 (ex-ey))) then (70:Int) else (Go.IntKind.wrap Go.IntKind.i64 (ex-ey)))))-ey))>(63:Int)))&&(Y != (0:Int)))),()))))))))
       else none)
      else none)
     else bif (S123.pre ((S119.F (((0:Int),(X,())),((if ((70:Int)<(Go.IntKind.wrap Go.IntKind.i64 (ex-ey))) then (70:Int) else (Go.IntKind.wrap Go.IntKind.i64 (ex-ey))),()))).1,(S120.F (((0:Int),(Y,())),((Go.IntKind.wrap Go.IntKind.i64 ((Go.IntKind.wrap Go.IntKind.i64 (ex-(if ((70:Int)<(Go.IntKind.wrap Go.IntKind.i64 (ex-ey))) then (70:Int) else (Go.IntKind.wrap Go.IntKind.i64 (ex-ey)))))-ey)),()))))) then
      (bif (decide ((S123.F ((S119.F (((0:Int),(X,())),((if ((70:Int)<(Go.IntKind.wrap Go.IntKind.i64 (ex-ey))) then (70:Int) else (Go.IntKind.wrap Go.IntKind.i64 (ex-ey))),()))).1,(S120.F (((0:Int),(Y,())),((Go.IntKind.wrap Go.IntKind.i64 ((Go.IntKind.wrap Go.IntKind.i64 (ex-(if ((70:Int)<(Go.IntKind.wrap Go.IntKind.i64 (ex-ey))) then (70:Int) else (Go.IntKind.wrap Go.IntKind.i64 (ex-ey)))))-ey)),()))))).1<(0:Int))) then
       (bif (S124.pre ((S120.F (((0:Int),(Y,())),((Go.IntKind.wrap Go.IntKind.i64 ((Go.IntKind.wrap Go.IntKind.i64 (ex-(if ((70:Int)<(Go.IntKind.wrap Go.IntKind.i64 (ex-ey))) then (70:Int) else (Go.IntKind.wrap Go.IntKind.i64 (ex-ey)))))-ey)),()))).1,(S119.F (((0:Int),(X,())),((if ((70:Int)<(Go.IntKind.wrap Go.IntKind.i64 (ex-ey))) then (70:Int) else (Go.IntKind.wrap Go.IntKind.i64 (ex-ey))),()))))) then
        (bif ((!(((S119.F ((S120.F (((0:Int),(Y,())),((Go.IntKind.wrap Go.IntKind.i64 ((Go.IntKind.wrap Go.IntKind.i64 (ex-(if ((70:Int)<(Go.IntKind.wrap Go.IntKind.i64 (ex-ey))) then (70:Int) else (Go.IntKind.wrap Go.IntKind.i64 (ex-ey)))))-ey)),()))).1,((Go.IntKind.wrap Go.IntKind.i64 ((Go.IntKind.wrap Go.IntKind.i64 (ex-(if ((70:Int)<(Go.IntKind.wrap Go.IntKind.i64 (ex-ey))) then (70:Int) else (Go.IntKind.wrap Go.IntKind.i64 (ex-ey)))))-ey)),()))).1.1==(0:Int))&&((S119.F ((S120.F (((0:Int),(Y,())),((Go.IntKind.wrap Go.IntKind.i64 ((Go.IntKind.wrap Go.IntKind.i64 (ex-(if ((70:Int)<(Go.IntKind.wrap Go.IntKind.i64 (ex-ey))) then (70:Int) else (Go.IntKind.wrap Go.IntKind.i64 (ex-ey)))))-ey)),()))).1,((Go.IntKind.wrap Go.IntKind.i64 ((Go.IntKind.wrap Go.IntKind.i64 (ex-(if ((70:Int)<(Go.IntKind.wrap Go.IntKind.i64 (ex-ey))) then (70:Int) else (Go.IntKind.wrap Go.IntKind.i64 (ex-ey)))))-ey)),()))).1.2.1==Y)))||((decide ((Go.IntKind.wrap Go.IntKind.i64 ((Go.IntKind.wrap Go.IntKind.i64 (ex-(if ((70:Int)<(Go.IntKind.wrap Go.IntKind.i64 (ex-ey))) then (70:Int) else (Go.IntKind.wrap Go.IntKind.i64 (ex-ey)))))-ey))>(63:Int)))&&(Y != (0:Int)))) then
         (bif (S124.pre ((S124.F ((S120.F (((0:Int),(Y,())),((Go.IntKind.wrap Go.IntKind.i64 ((Go.IntKind.wrap Go.IntKind.i64 (ex-(if ((70:Int)<(Go.IntKind.wrap Go.IntKind.i64 (ex-ey))) then (70:Int) else (Go.IntKind.wrap Go.IntKind.i64 (ex-ey)))))-ey)),()))).1,(S119.F (((0:Int),(X,())),((if ((70:Int)<(Go.IntKind.wrap Go.IntKind.i64 (ex-ey))) then (70:Int) else (Go.IntKind.wrap Go.IntKind.i64 (ex-ey))),()))))).1,(((0:Int),((1:Int),())),()))) then
          (bif ((((S124.F ((S124.F ((S120.F (((0:Int),(Y,())),((Go.IntKind.wrap Go.IntKind.i64 ((Go.IntKind.wrap Go.IntKind.i64 (ex-(if ((70:Int)<(Go.IntKind.wrap Go.IntKind.i64 (ex-ey))) then (70:Int) else (Go.IntKind.wrap Go.IntKind.i64 (ex-ey)))))-ey)),()))).1,(S119.F (((0:Int),(X,())),((if ((70:Int)<(Go.IntKind.wrap Go.IntKind.i64 (ex-ey))) then (70:Int) else (Go.IntKind.wrap Go.IntKind.i64 (ex-ey))),()))))).1,(((0:Int),((1:Int),())),()))).1.1==(0:Int))&&((S124.F ((S124.F ((S120.F (((0:Int),(Y,())),((Go.IntKind.wrap Go.IntKind.i64 ((Go.IntKind.wrap Go.IntKind.i64 (ex-(if ((70:Int)<(Go.IntKind.wrap Go.IntKind.i64 (ex-ey))) then (70:Int) else (Go.IntKind.wrap Go.IntKind.i64 (ex-ey)))))-ey)),()))).1,(S119.F (((0:Int),(X,())),((if ((70:Int)<(Go.IntKind.wrap Go.IntKind.i64 (ex-ey))) then (70:Int) else (Go.IntKind.wrap Go.IntKind.i64 (ex-ey))),()))))).1,(((0:Int),((1:Int),())),()))).1.2.1==(0:Int)))&&(!((!(((S119.F ((S120.F (((0:Int),(Y,())),((Go.IntKind.wrap Go.IntKind.i64 ((Go.IntKind.wrap Go.IntKind.i64 (ex-(if ((70:Int)<(Go.IntKind.wrap Go.IntKind.i64 (ex-ey))) then (70:Int) else (Go.IntKind.wrap Go.IntKind.i64 (ex-ey)))))-ey)),()))).1,((Go.IntKind.wrap Go.IntKind.i64 ((Go.IntKind.wrap Go.IntKind.i64 (ex-(if ((70:Int)<(Go.IntKind.wrap Go.IntKind.i64 (ex-ey))) then (70:Int) else (Go.IntKind.wrap Go.IntKind.i64 (ex-ey)))))-ey)),()))).1.1==(0:Int))&&((S119.F ((S120.F (((0:Int),(Y,())),((Go.IntKind.wrap Go.IntKind.i64 ((Go.IntKind.wrap Go.IntKind.i64 (ex-(if ((70:Int)<(Go.IntKind.wrap Go.IntKind.i64 (ex-ey))) then (70:Int) else (Go.IntKind.wrap Go.IntKind.i64 (ex-ey)))))-ey)),()))).1,((Go.IntKind.wrap Go.IntKind.i64 ((Go.IntKind.wrap Go.IntKind.i64 (ex-(if ((70:Int)<(Go.IntKind.wrap Go.IntKind.i64 (ex-ey))) then (70:Int) else (Go.IntKind.wrap Go.IntKind.i64 (ex-ey)))))-ey)),()))).1.2.1==Y)))||((decide ((Go.IntKind.wrap Go.IntKind.i64 ((Go.IntKind.wrap Go.IntKind.i64 (ex-(if ((70:Int)<(Go.IntKind.wrap Go.IntKind.i64 (ex-ey))) then (70:Int) else (Go.IntKind.wrap Go.IntKind.i64 (ex-ey)))))-ey))>(63:Int)))&&(Y != (0:Int)))))) then
           (bif (S118.pre (f,((m==(4:Int)),()))) then
            (some ((S118.F (f,((m==(4:Int)),()))).1,((0:Int),((0:Int),()))))
           else none)
          else bif (S122.pre (f,(m,(ny,((S124.F ((S124.F ((S120.F (((0:Int),(Y,())),((Go.IntKind.wrap Go.IntKind.i64 ((Go.IntKind.wrap Go.IntKind.i64 (ex-(if ((70:Int)<(Go.IntKind.wrap Go.IntKind.i64 (ex-ey))) then (70:Int) else (Go.IntKind.wrap Go.IntKind.i64 (ex-ey)))))-ey)),()))).1,(S119.F (((0:Int),(X,())),((if ((70:Int)<(Go.IntKind.wrap Go.IntKind.i64 (ex-ey))) then (70:Int) else (Go.IntKind.wrap Go.IntKind.i64 (ex-ey))),()))))).1,(((0:Int),((1:Int),())),()))).1,((Go.IntKind.wrap Go.IntKind.i64 (ex-(if ((70:Int)<(Go.IntKind.wrap Go.IntKind.i64 (ex-ey))) then (70:Int) else (Go.IntKind.wrap Go.IntKind.i64 (ex-ey))))),(((!(((S119.F ((S120.F (((0:Int),(Y,())),((Go.IntKind.wrap Go.IntKind.i64 ((Go.IntKind.wrap Go.IntKind.i64 (ex-(if ((70:Int)<(Go.IntKind.wrap Go.IntKind.i64 (ex-ey))) then (70:Int) else (Go.IntKind.wrap Go.IntKind.i64 (ex-ey)))))-ey)),()))).1,((Go.IntKind.wrap Go.IntKind.i64 ((Go.IntKind.wrap Go.IntKind.i64 (ex-(if ((70:Int)<(Go.IntKind.wrap Go.IntKind.i64 (ex-ey))) then (70:Int) else (Go.IntKind.wrap Go.IntKind.i64 (ex-ey)))))-ey)),()))).1.1==(0:Int))&&((S119.F ((S120.F (((0:Int),(Y,())),((Go.IntKind.wrap Go.IntKind.i64 ((Go.IntKind.wrap Go.IntKind.i64 (ex-(if ((70:Int)<(Go.IntKind.wrap Go.IntKind.i64 (ex-ey))) then (70:Int) else (Go.IntKind.wrap Go.IntKind.i64 (ex-ey)))))-ey)),()))).1,((Go.IntKind.wrap Go.IntKind.i64 ((Go.IntKind.wrap Go.IntKind.i64 (ex-(if ((70:Int)<(Go.IntKind.wrap Go.IntKind.i64 (ex-ey))) then (70:Int) else (Go.IntKind.wrap Go.IntKind.i64 (ex-ey)))))-ey)),()))).1.2.1==Y)))||((decide ((Go.IntKind.wrap Go.IntKind.i64 ((Go.IntKind.wrap Go.IntKind.i64 (ex-(if ((70:Int)<(Go.IntKind.wrap Go.IntKind.i64 (ex-ey))) then (70:Int) else (Go.IntKind.wrap Go.IntKind.i64 (ex-ey)))))-ey))>(63:Int)))&&(Y != (0:Int)))),()))))))) then
           (some (S122.F (f,(m,(ny,((S124.F ((S124.F ((S120.F (((0:Int),(Y,())),((Go.IntKind.wrap Go.IntKind.i64 ((Go.IntKind.wrap Go.IntKind.i64 (ex-(if ((70:Int)<(Go.IntKind.wrap Go.IntKind.i64 (ex-ey))) then (70:Int) else (Go.IntKind.wrap Go.IntKind.i64 (ex-ey)))))-ey)),()))).1,(S119.F (((0:Int),(X,())),((if ((70:Int)<(Go.IntKind.wrap Go.IntKind.i64 (ex-ey))) then (70:Int) else (Go.IntKind.wrap Go.IntKind.i64 (ex-ey))),()))))).1,(((0:Int),((1:Int),())),()))).1,((Go.IntKind.wrap Go.IntKind.i64 (ex-(if ((70:Int)<(Go.IntKind.wrap Go.IntKind.i64 (ex-ey))) then (70:Int) else (Go.IntKind.wrap Go.IntKind.i64 (ex-ey))))),(((!(((S119.F ((S120.F (((0:Int),(Y,())),((Go.IntKind.wrap Go.IntKind.i64 ((Go.IntKind.wrap Go.IntKind.i64 (ex-(if ((70:Int)<(Go.IntKind.wrap Go.IntKind.i64 (ex-ey))) then (70:Int) else (Go.IntKind.wrap Go.IntKind.i64 (ex-ey)))))-ey)),()))).1,((Go.IntKind.wrap Go.IntKind.i64 ((Go.IntKind.wrap Go.IntKind.i64 (ex-(if ((70:Int)<(Go.IntKind.wrap Go.IntKind.i64 (ex-ey))) then (70:Int) else (Go.IntKind.wrap Go.IntKind.i64 (ex-ey)))))-ey)),()))).1.1==(0:Int))&&((S119.F ((S120.F (((0:Int),(Y,())),((Go.IntKind.wrap Go.IntKind.i64 ((Go.IntKind.wrap Go.IntKind.i64 (ex-(if ((70:Int)<(Go.IntKind.wrap Go.IntKind.i64 (ex-ey))) then (70:Int) else (Go.IntKind.wrap Go.IntKind.i64 (ex-ey)))))-ey)),()))).1,((Go.IntKind.wrap Go.IntKind.i64 ((Go.IntKind.wrap Go.IntKind.i64 (ex-(if ((70:Int)<(Go.IntKind.wrap Go.IntKind.i64 (ex-ey))) then (70:Int) else (Go.IntKind.wrap Go.IntKind.i64 (ex-ey)))))-ey)),()))).1.2.1==Y)))||((decide ((Go.IntKind.wrap Go.IntKind.i64 ((Go.IntKind.wrap Go.IntKind.i64 (ex-(if ((70:Int)<(Go.IntKind.wrap Go.IntKind.i64 (ex-ey))) then (70:Int) else (Go.IntKind.wrap Go.IntKind.i64 (ex-ey)))))-ey))>(63:Int)))&&(Y != (0:Int)))),()))))))))
          else none)
         else none)
        else bif ((((S124.F ((S120.F (((0:Int),(Y,())),((Go.IntKind.wrap Go.IntKind.i64 ((Go.IntKind.wrap Go.IntKind.i64 (ex-(if ((70:Int)<(Go.IntKind.wrap Go.IntKind.i64 (ex-ey))) then (70:Int) else (Go.IntKind.wrap Go.IntKind.i64 (ex-ey)))))-ey)),()))).1,(S119.F (((0:Int),(X,())),((if ((70:Int)<(Go.IntKind.wrap Go.IntKind.i64 (ex-ey))) then (70:Int) else (Go.IntKind.wrap Go.IntKind.i64 (ex-ey))),()))))).1.1==(0:Int))&&((S124.F ((S120.F (((0:Int),(Y,())),((Go.IntKind.wrap Go.IntKind.i64 ((Go.IntKind.wrap Go.IntKind.i64 (ex-(if ((70:Int)<(Go.IntKind.wrap Go.IntKind.i64 (ex-ey))) then (70:Int) else (Go.IntKind.wrap Go.IntKind.i64 (ex-ey)))))-ey)),()))).1,(S119.F (((0:Int),(X,())),((if ((70:Int)<(Go.IntKind.wrap Go.IntKind.i64 (ex-ey))) then (70:Int) else (Go.IntKind.wrap Go.IntKind.i64 (ex-ey))),()))))).1.2.1==(0:Int)))&&(!((!(((S119.F ((S120.F (((0:Int),(Y,())),((Go.IntKind.wrap Go.IntKind.i64 ((Go.IntKind.wrap Go.IntKind.i64 (ex-(if ((70:Int)<(Go.IntKind.wrap Go.IntKind.i64 (ex-ey))) then (70:Int) else (Go.IntKind.wrap Go.IntKind.i64 (ex-ey)))))-ey)),()))).1,((Go.IntKind.wrap Go.IntKind.i64 ((Go.IntKind.wrap Go.IntKind.i64 (ex-(if ((70:Int)<(Go.IntKind.wrap Go.IntKind.i64 (ex-ey))) then (70:Int) else (Go.IntKind.wrap Go.IntKind.i64 (ex-ey)))))-ey)),()))).1.1==(0:Int))&&((S119.F ((S120.F (((0:Int),(Y,())),((Go.IntKind.wrap Go.IntKind.i64 ((Go.IntKind.wrap Go.IntKind.i64 (ex-(if ((70:Int)<(Go.IntKind.wrap Go.IntKind.i64 (ex-ey))) then (70:Int) else (Go.IntKind.wrap Go.IntKind.i64 (ex-ey)))))-ey)),()))).1,((Go.IntKind.wrap Go.IntKind.i64 ((Go.IntKind.wrap Go.IntKind.i64 (ex-(if ((70:Int)<(Go.IntKind.wrap Go.IntKind.i64 (ex-ey))) then (70:Int) else (Go.IntKind.wrap Go.IntKind.i64 (ex-ey)))))-ey)),()))).1.2.1==Y)))||((decide ((Go.IntKind.wrap Go.IntKind.i64 ((Go.IntKind.wrap Go.IntKind.i64 (ex-(if ((70:Int)<(Go.IntKind.wrap Go.IntKind.i64 (ex-ey))) then (70:Int) else (Go.IntKind.wrap Go.IntKind.i64 (ex-ey)))))-ey))>(63:Int)))&&(Y != (0:Int)))))) then
         (bif (S118.pre (f,((m==(4:Int)),()))) then
          (some ((S118.F (f,((m==(4:Int)),()))).1,((0:Int),((0:Int),()))))
         else none)
        else bif (S122.pre (f,(m,(ny,((S124.F ((S120.F (((0:Int),(Y,())),((Go.IntKind.wrap Go.IntKind.i64 ((Go.IntKind.wrap Go.IntKind.i64 (ex-(if ((70:Int)<(Go.IntKind.wrap Go.IntKind.i64 (ex-ey))) then (70:Int) else (Go.IntKind.wrap Go.IntKind.i64 (ex-ey)))))-ey)),()))).1,(S119.F (((0:Int),(X,())),((if ((70:Int)<(Go.IntKind.wrap Go.IntKind.i64 (ex-ey))) then (70:Int) else (Go.IntKind.wrap Go.IntKind.i64 (ex-ey))),()))))).1,((Go.IntKind.wrap Go.IntKind.i64 (ex-(if ((70:Int)<(Go.IntKind.wrap Go.IntKind.i64 (ex-ey))) then (70:Int) else (Go.IntKind.wrap Go.IntKind.i64 (ex-ey))))),(((!(((S119.F ((S120.F (((0:Int),(Y,())),((Go.IntKind.wrap Go.IntKind.i64 ((Go.IntKind.wrap Go.IntKind.i64 (ex-(if ((70:Int)<(Go.IntKind.wrap Go.IntKind.i64 (ex-ey))) then (70:Int) else (Go.IntKind.wrap Go.IntKind.i64 (ex-ey)))))-ey)),()))).1,((Go.IntKind.wrap Go.IntKind.i64 ((Go.IntKind.wrap Go.IntKind.i64 (ex-(if ((70:Int)<(Go.IntKind.wrap Go.IntKind.i64 (ex-ey))) then (70:Int) else (Go.IntKind.wrap Go.IntKind.i64 (ex-ey)))))-ey)),()))).1.1==(0:Int))&&((S119.F ((S120.F (((0:Int),(Y,())),((Go.IntKind.wrap Go.IntKind.i64 ((Go.IntKind.wrap Go.IntKind.i64 (ex-(if ((70:Int)<(Go.IntKind.wrap Go.IntKind.i64 (ex-ey))) then (70:Int) else (Go.IntKind.wrap Go.IntKind.i64 (ex-ey)))))-ey)),()))).1,((Go.IntKind.wrap Go.IntKind.i64 ((Go.IntKind.wrap Go.IntKind.i64 (ex-(if ((70:Int)<(Go.IntKind.wrap Go.IntKind.i64 (ex-ey))) then (70:Int) else (Go.IntKind.wrap Go.IntKind.i64 (ex-ey)))))-ey)),()))).1.2.1==Y)))||((decide ((Go.IntKind.wrap Go.IntKind.i64 ((Go.IntKind.wrap Go.IntKind.i64 (ex-(if ((70:Int)<(Go.IntKind.wrap Go.IntKind.i64 (ex-ey))) then (70:Int) else (Go.IntKind.wrap Go.IntKind.i64 (ex-ey)))))-ey))>(63:Int)))&&(Y != (0:Int)))),()))))))) then
         (some (S122.F (f,(m,(ny,((S124.F ((S120.F (((0:Int),(Y,())),((Go.IntKind.wrap Go.IntKind.i64 ((Go.IntKind.wrap Go.IntKind.i64 (ex-(if ((70:Int)<(Go.IntKind.wrap Go.IntKind.i64 (ex-ey))) then (70:Int) else (Go.IntKind.wrap Go.IntKind.i64 (ex-ey)))))-ey)),()))).1,(S119.F (((0:Int),(X,())),((if ((70:Int)<(Go.IntKind.wrap Go.IntKind.i64 (ex-ey))) then (70:Int) else (Go.IntKind.wrap Go.IntKind.i64 (ex-ey))),()))))).1,((Go.IntKind.wrap Go.IntKind.i64 (ex-(if ((70:Int)<(Go.IntKind.wrap Go.IntKind.i64 (ex-ey))) then (70:Int) else (Go.IntKind.wrap Go.IntKind.i64 (ex-ey))))),(((!(((S119.F ((S120.F (((0:Int),(Y,())),((Go.IntKind.wrap Go.IntKind.i64 ((Go.IntKind.wrap Go.IntKind.i64 (ex-(if ((70:Int)<(Go.IntKind.wrap Go.IntKind.i64 (ex-ey))) then (70:Int) else (Go.IntKind.wrap Go.IntKind.i64 (ex-ey)))))-ey)),()))).1,((Go.IntKind.wrap Go.IntKind.i64 ((Go.IntKind.wrap Go.IntKind.i64 (ex-(if ((70:Int)<(Go.IntKind.wrap Go.IntKind.i64 (ex-ey))) then (70:Int) else (Go.IntKind.wrap Go.IntKind.i64 (ex-ey)))))-ey)),()))).1.1==(0:Int))&&((S119.F ((S120.F (((0:Int),(Y,())),((Go.IntKind.wrap Go.IntKind.i64 ((Go.IntKind.wrap Go.IntKind.i64 (ex-(if ((70:Int)<(Go.IntKind.wrap Go.IntKind.i64 (ex-ey))) then (70:Int) else (Go.IntKind.wrap Go.IntKind.i64 (ex-ey)))))-ey)),()))).1,((Go.IntKind.wrap Go.IntKind.i64 ((Go.IntKind.wrap Go.IntKind.i64 (ex-(if ((70:Int)<(Go.IntKind.wrap Go.IntKind.i64 (ex-ey))) then (70:Int) else (Go.IntKind.wrap Go.IntKind.i64 (ex-ey)))))-ey)),()))).1.2.1==Y)))||((decide ((Go.IntKind.wrap Go.IntKind.i64 ((Go.IntKind.wrap Go.IntKind.i64 (ex-(if ((70:Int)<(Go.IntKind.wrap Go.IntKind.i64 (ex-ey))) then (70:Int) else (Go.IntKind.wrap Go.IntKind.i64 (ex-ey)))))-ey))>(63:Int)))&&(Y != (0:Int)))),()))))))))
        else none)
       else none)
      else bif (S124.pre ((S119.F (((0:Int),(X,())),((if ((70:Int)<(Go.IntKind.wrap Go.IntKind.i64 (ex-ey))) then (70:Int) else (Go.IntKind.wrap Go.IntKind.i64 (ex-ey))),()))).1,(S120.F (((0:Int),(Y,())),((Go.IntKind.wrap Go.IntKind.i64 ((Go.IntKind.wrap Go.IntKind.i64 (ex-(if ((70:Int)<(Go.IntKind.wrap Go.IntKind.i64 (ex-ey))) then (70:Int) else (Go.IntKind.wrap Go.IntKind.i64 (ex-ey)))))-ey)),()))))) then
       (bif ((!(((S119.F ((S120.F (((0:Int),(Y,())),((Go.IntKind.wrap Go.IntKind.i64 ((Go.IntKind.wrap Go.IntKind.i64 (ex-(if ((70:Int)<(Go.IntKind.wrap Go.IntKind.i64 (ex-ey))) then (70:Int) else (Go.IntKind.wrap Go.IntKind.i64 (ex-ey)))))-ey)),()))).1,((Go.IntKind.wrap Go.IntKind.i64 ((Go.IntKind.wrap Go.IntKind.i64 (ex-(if ((70:Int)<(Go.IntKind.wrap Go.IntKind.i64 (ex-ey))) then (70:Int) else (Go.IntKind.wrap Go.IntKind.i64 (ex-ey)))))-ey)),()))).1.1==(0:Int))&&((S119.F ((S120.F (((0:Int),(Y,())),((Go.IntKind.wrap Go.IntKind.i64 ((Go.IntKind.wrap Go.IntKind.i64 (ex-(if ((70:Int)<(Go.IntKind.wrap Go.IntKind.i64 (ex-ey))) then (70:Int) else (Go.IntKind.wrap Go.IntKind.i64 (ex-ey)))))-ey)),()))).1,((Go.IntKind.wrap Go.IntKind.i64 ((Go.IntKind.wrap Go.IntKind.i64 (ex-(if ((70:Int)<(Go.IntKind.wrap Go.IntKind.i64 (ex-ey))) then (70:Int) else (Go.IntKind.wrap Go.IntKind.i64 (ex-ey)))))-ey)),()))).1.2.1==Y)))||((decide ((Go.IntKind.wrap Go.IntKind.i64 ((Go.IntKind.wrap Go.IntKind.i64 (ex-(if ((70:Int)<(Go.IntKind.wrap Go.IntKind.i64 (ex-ey))) then (70:Int) else (Go.IntKind.wrap Go.IntKind.i64 (ex-ey)))))-ey))>(63:Int)))&&(Y != (0:Int)))) then
        (bif (S124.pre ((S124.F ((S119.F (((0:Int),(X,())),((if ((70:Int)<(Go.IntKind.wrap Go.IntKind.i64 (ex-ey))) then (70:Int) else (Go.IntKind.wrap Go.IntKind.i64 (ex-ey))),()))).1,(S120.F (((0:Int),(Y,())),((Go.IntKind.wrap Go.IntKind.i64 ((Go.IntKind.wrap Go.IntKind.i64 (ex-(if ((70:Int)<(Go.IntKind.wrap Go.IntKind.i64 (ex-ey))) then (70:Int) else (Go.IntKind.wrap Go.IntKind.i64 (ex-ey)))))-ey)),()))))).1,(((0:Int),((1:Int),())),()))) then
         (bif ((((S124.F ((S124.F ((S119.F (((0:Int),(X,())),((if ((70:Int)<(Go.IntKind.wrap Go.IntKind.i64 (ex-ey))) then (70:Int) else (Go.IntKind.wrap Go.IntKind.i64 (ex-ey))),()))).1,(S120.F (((0:Int),(Y,())),((Go.IntKind.wrap Go.IntKind.i64 ((Go.IntKind.wrap Go.IntKind.i64 (ex-(if ((70:Int)<(Go.IntKind.wrap Go.IntKind.i64 (ex-ey))) then (70:Int) else (Go.IntKind.wrap Go.IntKind.i64 (ex-ey)))))-ey)),()))))).1,(((0:Int),((1:Int),())),()))).1.1==(0:Int))&&((S124.F ((S124.F ((S119.F (((0:Int),(X,())),((if ((70:Int)<(Go.IntKind.wrap Go.IntKind.i64 (ex-ey))) then (70:Int) else (Go.IntKind.wrap Go.IntKind.i64 (ex-ey))),()))).1,(S120.F (((0:Int),(Y,())),((Go.IntKind.wrap Go.IntKind.i64 ((Go.IntKind.wrap Go.IntKind.i64 (ex-(if ((70:Int)<(Go.IntKind.wrap Go.IntKind.i64 (ex-ey))) then (70:Int) else (Go.IntKind.wrap Go.IntKind.i64 (ex-ey)))))-ey)),()))))).1,(((0:Int),((1:Int),())),()))).1.2.1==(0:Int)))&&(!((!(((S119.F ((S120.F (((0:Int),(Y,())),((Go.IntKind.wrap Go.IntKind.i64 ((Go.IntKind.wrap Go.IntKind.i64 (ex-(if ((70:Int)<(Go.IntKind.wrap Go.IntKind.i64 (ex-ey))) then (70:Int) else (Go.IntKind.wrap Go.IntKind.i64 (ex-ey)))))-ey)),()))).1,((Go.IntKind.wrap Go.IntKind.i64 ((Go.IntKind.wrap Go.IntKind.i64 (ex-(if ((70:Int)<(Go.IntKind.wrap Go.IntKind.i64 (ex-ey))) then (70:Int) else (Go.IntKind.wrap Go.IntKind.i64 (ex-ey)))))-ey)),()))).1.1==(0:Int))&&((S119.F ((S120.F (((0:Int),(Y,())),((Go.IntKind.wrap Go.IntKind.i64 ((Go.IntKind.wrap Go.IntKind.i64 (ex-(if ((70:Int)<(Go.IntKind.wrap Go.IntKind.i64 (ex-ey))) then (70:Int) else (Go.IntKind.wrap Go.IntKind.i64 (ex-ey)))))-ey)),()))).1,((Go.IntKind.wrap Go.IntKind.i64 ((Go.IntKind.wrap Go.IntKind.i64 (ex-(if ((70:Int)<(Go.IntKind.wrap Go.IntKind.i64 (ex-ey))) then (70:Int) else (Go.IntKind.wrap Go.IntKind.i64 (ex-ey)))))-ey)),()))).1.2.1==Y)))||((decide ((Go.IntKind.wrap Go.IntKind.i64 ((Go.IntKind.wrap Go.IntKind.i64 (ex-(if ((70:Int)<(Go.IntKind.wrap Go.IntKind.i64 (ex-ey))) then (70:Int) else (Go.IntKind.wrap Go.IntKind.i64 (ex-ey)))))-ey))>(63:Int)))&&(Y != (0:Int)))))) then
          (bif (S118.pre (f,((m==(4:Int)),()))) then
           (some ((S118.F (f,((m==(4:Int)),()))).1,((0:Int),((0:Int),()))))
          else none)
         else bif (S122.pre (f,(m,(nx,((S124.F ((S124.F ((S119.F (((0:Int),(X,())),((if ((70:Int)<(Go.IntKind.wrap Go.IntKind.i64 (ex-ey))) then (70:Int) else (Go.IntKind.wrap Go.IntKind.i64 (ex-ey))),()))).1,(S120.F (((0:Int),(Y,())),((Go.IntKind.wrap Go.IntKind.i64 ((Go.IntKind.wrap Go.IntKind.i64 (ex-(if ((70:Int)<(Go.IntKind.wrap Go.IntKind.i64 (ex-ey))) then (70:Int) else (Go.IntKind.wrap Go.IntKind.i64 (ex-ey)))))-ey)),()))))).1,(((0:Int),((1:Int),())),()))).1,((Go.IntKind.wrap Go.IntKind.i64 (ex-(if ((70:Int)<(Go.IntKind.wrap Go.IntKind.i64 (ex-ey))) then (70:Int) else (Go.IntKind.wrap Go.IntKind.i64 (ex-ey))))),(((!(((S119.F ((S120.F (((0:Int),(Y,())),((Go.IntKind.wrap Go.IntKind.i64 ((Go.IntKind.wrap Go.IntKind.i64 (ex-(if ((70:Int)<(Go.IntKind.wrap Go.IntKind.i64 (ex-ey))) then (70:Int) else (Go.IntKind.wrap Go.IntKind.i64 (ex-ey)))))-ey)),()))).1,((Go.IntKind.wrap Go.IntKind.i64 ((Go.IntKind.wrap Go.IntKind.i64 (ex-(if ((70:Int)<(Go.IntKind.wrap Go.IntKind.i64 (ex-ey))) then (70:Int) else (Go.IntKind.wrap Go.IntKind.i64 (ex-ey)))))-ey)),()))).1.1==(0:Int))&&((S119.F ((S120.F (((0:Int),(Y,())),((Go.IntKind.wrap Go.IntKind.i64 ((Go.IntKind.wrap Go.IntKind.i64 (ex-(if ((70:Int)<(Go.IntKind.wrap Go.IntKind.i64 (ex-ey))) then (70:Int) else (Go.IntKind.wrap Go.IntKind.i64 (ex-ey)))))-ey)),()))).1,((Go.IntKind.wrap Go.IntKind.i64 ((Go.IntKind.wrap Go.IntKind.i64 (ex-(if ((70:Int)<(Go.IntKind.wrap Go.IntKind.i64 (ex-ey))) then (70:Int) else (Go.IntKind.wrap Go.IntKind.i64 (ex-ey)))))-ey)),()))).1.2.1==Y)))||((decide ((Go.IntKind.wrap Go.IntKind.i64 ((Go.IntKind.wrap Go.IntKind.i64 (ex-(if ((70:Int)<(Go.IntKind.wrap Go.IntKind.i64 (ex-ey))) then (70:Int) else (Go.IntKind.wrap Go.IntKind.i64 (ex-ey)))))-ey))>(63:Int)))&&(Y != (0:Int)))),()))))))) then
          (some (S122.F (f,(m,(nx,((S124.F ((S124.F ((S119.F (((0:Int),(X,())),((if ((70:Int)<(Go.IntKind.wrap Go.IntKind.i64 (ex-ey))) then (70:Int) else (Go.IntKind.wrap Go.IntKind.i64 (ex-ey))),()))).1,(S120.F (((0:Int),(Y,())),((Go.IntKind.wrap Go.IntKind.i64 ((Go.IntKind.wrap Go.IntKind.i64 (ex-(if ((70:Int)<(Go.IntKind.wrap Go.IntKind.i64 (ex-ey))) then (70:Int) else (Go.IntKind.wrap Go.IntKind.i64 (ex-ey)))))-ey)),()))))).1,(((0:Int),((1:Int),())),()))).1,((Go.IntKind.wrap Go.IntKind.i64 (ex-(if ((70:Int)<(Go.IntKind.wrap Go.IntKind.i64 (ex-ey))) then (70:Int) else (Go.IntKind.wrap Go.IntKind.i64 (ex-ey))))),(((!(((S119.F ((S120.F (((0:Int),(Y,())),((Go.IntKind.wrap Go.IntKind.i64 ((Go.IntKind.wrap Go.IntKind.i64 (ex-(if ((70:Int)<(Go.IntKind.wrap Go.IntKind.i64 (ex-ey))) then (70:Int) else (Go.IntKind.wrap Go.IntKind.i64 (ex-ey)))))-ey)),()))).1,((Go.IntKind.wrap Go.IntKind.i64 ((Go.IntKind.wrap Go.IntKind.i64 (ex-(if ((70:Int)<(Go.IntKind.wrap Go.IntKind.i64 (ex-ey))) then (70:Int) else (Go.IntKind.wrap Go.IntKind.i64 (ex-ey)))))-ey)),()))).1.1==(0:Int))&&((S119.F ((S120.F (((0:Int),(Y,())),((Go.IntKind.wrap Go.IntKind.i64 ((Go.IntKind.wrap Go.IntKind.i64 (ex-(if ((70:Int)<(Go.IntKind.wrap Go.IntKind.i64 (ex-ey))) then (70:Int) else (Go.IntKind.wrap Go.IntKind.i64 (ex-ey)))))-ey)),()))).1,((Go.IntKind.wrap Go.IntKind.i64 ((Go.IntKind.wrap Go.IntKind.i64 (ex-(if ((70:Int)<(Go.IntKind.wrap Go.IntKind.i64 (ex-ey))) then (70:Int) else (Go.IntKind.wrap Go.IntKind.i64 (ex-ey)))))-ey)),()))).1.2.1==Y)))||((decide ((Go.IntKind.wrap Go.IntKind.i64 ((Go.IntKind.wrap Go.IntKind.i64 (ex-(if ((70:Int)<(Go.IntKind.wrap Go.IntKind.i64 (ex-ey))) then (70:Int) else (Go.IntKind.wrap Go.IntKind.i64 (ex-ey)))))-ey))>(63:Int)))&&(Y != (0:Int)))),()))))))))
         else none)
        else none)
       else bif ((((S124.F ((S119.F (((0:Int),(X,())),((if ((70:Int)<(Go.IntKind.wrap Go.IntKind.i64 (ex-ey))) then (70:Int) else (Go.IntKind.wrap Go.IntKind.i64 (ex-ey))),()))).1,(S120.F (((0:Int),(Y,())),((Go.IntKind.wrap Go.IntKind.i64 ((Go.IntKind.wrap Go.IntKind.i64 (ex-(if ((70:Int)<(Go.IntKind.wrap Go.IntKind.i64 (ex-ey))) then (70:Int) else (Go.IntKind.wrap Go.IntKind.i64 (ex-ey)))))-ey)),()))))).1.1==(0:Int))&&((S124.F ((S119.F (((0:Int),(X,())),((if ((70:Int)<(Go.IntKind.wrap Go.IntKind.i64 (ex-ey))) then (70:Int) else (Go.IntKind.wrap Go.IntKind.i64 (ex-ey))),()))).1,(S120.F (((0:Int),(Y,())),((Go.IntKind.wrap Go.IntKind.i64 ((Go.IntKind.wrap Go.IntKind.i64 (ex-(if ((70:Int)<(Go.IntKind.wrap Go.IntKind.i64 (ex-ey))) then (70:Int) else (Go.IntKind.wrap Go.IntKind.i64 (ex-ey)))))-ey)),()))))).1.2.1==(0:Int)))&&(!((!(((S119.F ((S120.F (((0:Int),(Y,())),((Go.IntKind.wrap Go.IntKind.i64 ((Go.IntKind.wrap Go.IntKind.i64 (ex-(if ((70:Int)<(Go.IntKind.wrap Go.IntKind.i64 (ex-ey))) then (70:Int) else (Go.IntKind.wrap Go.IntKind.i64 (ex-ey)))))-ey)),()))).1,((Go.IntKind.wrap Go.IntKind.i64 ((Go.IntKind.wrap Go.IntKind.i64 (ex-(if ((70:Int)<(Go.IntKind.wrap Go.IntKind.i64 (ex-ey))) then (70:Int) else (Go.IntKind.wrap Go.IntKind.i64 (ex-ey)))))-ey)),()))).1.1==(0:Int))&&((S119.F ((S120.F (((0:Int),(Y,())),((Go.IntKind.wrap Go.IntKind.i64 ((Go.IntKind.wrap Go.IntKind.i64 (ex-(if ((70:Int)<(Go.IntKind.wrap Go.IntKind.i64 (ex-ey))) then (70:Int) else (Go.IntKind.wrap Go.IntKind.i64 (ex-ey)))))-ey)),()))).1,((Go.IntKind.wrap Go.IntKind.i64 ((Go.IntKind.wrap Go.IntKind.i64 (ex-(if ((70:Int)<(Go.IntKind.wrap Go.IntKind.i64 (ex-ey))) then (70:Int) else (Go.IntKind.wrap Go.IntKind.i64 (ex-ey)))))-ey)),()))).1.2.1==Y)))||((decide ((Go.IntKind.wrap Go.IntKind.i64 ((Go.IntKind.wrap Go.IntKind.i64 (ex-(if ((70:Int)<(Go.IntKind.wrap Go.IntKind.i64 (ex-ey))) then (70:Int) else (Go.IntKind.wrap Go.IntKind.i64 (ex-ey)))))-ey))>(63:Int)))&&(Y != (0:Int)))))) then
        (bif (S118.pre (f,((m==(4:Int)),()))) then
         (some ((S118.F (f,((m==(4:Int)),()))).1,((0:Int),((0:Int),()))))
        else none)
       else bif (S122.pre (f,(m,(nx,((S124.F ((S119.F (((0:Int),(X,())),((if ((70:Int)<(Go.IntKind.wrap Go.IntKind.i64 (ex-ey))) then (70:Int) else (Go.IntKind.wrap Go.IntKind.i64 (ex-ey))),()))).1,(S120.F (((0:Int),(Y,())),((Go.IntKind.wrap Go.IntKind.i64 ((Go.IntKind.wrap Go.IntKind.i64 (ex-(if ((70:Int)<(Go.IntKind.wrap Go.IntKind.i64 (ex-ey))) then (70:Int) else (Go.IntKind.wrap Go.IntKind.i64 (ex-ey)))))-ey)),()))))).1,((Go.IntKind.wrap Go.IntKind.i64 (ex-(if ((70:Int)<(Go.IntKind.wrap Go.IntKind.i64 (ex-ey))) then (70:Int) else (Go.IntKind.wrap Go.IntKind.i64 (ex-ey))))),(((!(((S119.F ((S120.F (((0:Int),(Y,())),((Go.IntKind.wrap Go.IntKind.i64 ((Go.IntKind.wrap Go.IntKind.i64 (ex-(if ((70:Int)<(Go.IntKind.wrap Go.IntKind.i64 (ex-ey))) then (70:Int) else (Go.IntKind.wrap Go.IntKind.i64 (ex-ey)))))-ey)),()))).1,((Go.IntKind.wrap Go.IntKind.i64 ((Go.IntKind.wrap Go.IntKind.i64 (ex-(if ((70:Int)<(Go.IntKind.wrap Go.IntKind.i64 (ex-ey))) then (70:Int) else (Go.IntKind.wrap Go.IntKind.i64 (ex-ey)))))-ey)),()))).1.1==(0:Int))&&((S119.F ((S120.F (((0:Int),(Y,())),((Go.IntKind.wrap Go.IntKind.i64 ((Go.IntKind.wrap Go.IntKind.i64 (ex-(if ((70:Int)<(Go.IntKind.wrap Go.IntKind.i64 (ex-ey))) then (70:Int) else (Go.IntKind.wrap Go.IntKind.i64 (ex-ey)))))-ey)),()))).1,((Go.IntKind.wrap Go.IntKind.i64 ((Go.IntKind.wrap Go.IntKind.i64 (ex-(if ((70:Int)<(Go.IntKind.wrap Go.IntKind.i64 (ex-ey))) then (70:Int) else (Go.IntKind.wrap Go.IntKind.i64 (ex-ey)))))-ey)),()))).1.2.1==Y)))||((decide ((Go.IntKind.wrap Go.IntKind.i64 ((Go.IntKind.wrap Go.IntKind.i64 (ex-(if ((70:Int)<(Go.IntKind.wrap Go.IntKind.i64 (ex-ey))) then (70:Int) else (Go.IntKind.wrap Go.IntKind.i64 (ex-ey)))))-ey))>(63:Int)))&&(Y != (0:Int)))),()))))))) then
        (some (S122.F (f,(m,(nx,((S124.F ((S119.F (((0:Int),(X,())),((if ((70:Int)<(Go.IntKind.wrap Go.IntKind.i64 (ex-ey))) then (70:Int) else (Go.IntKind.wrap Go.IntKind.i64 (ex-ey))),()))).1,(S120.F (((0:Int),(Y,())),((Go.IntKind.wrap Go.IntKind.i64 ((Go.IntKind.wrap Go.IntKind.i64 (ex-(if ((70:Int)<(Go.IntKind.wrap Go.IntKind.i64 (ex-ey))) then (70:Int) else (Go.IntKind.wrap Go.IntKind.i64 (ex-ey)))))-ey)),()))))).1,((Go.IntKind.wrap Go.IntKind.i64 (ex-(if ((70:Int)<(Go.IntKind.wrap Go.IntKind.i64 (ex-ey))) then (70:Int) else (Go.IntKind.wrap Go.IntKind.i64 (ex-ey))))),(((!(((S119.F ((S120.F (((0:Int),(Y,())),((Go.IntKind.wrap Go.IntKind.i64 ((Go.IntKind.wrap Go.IntKind.i64 (ex-(if ((70:Int)<(Go.IntKind.wrap Go.IntKind.i64 (ex-ey))) then (70:Int) else (Go.IntKind.wrap Go.IntKind.i64 (ex-ey)))))-ey)),()))).1,((Go.IntKind.wrap Go.IntKind.i64 ((Go.IntKind.wrap Go.IntKind.i64 (ex-(if ((70:Int)<(Go.IntKind.wrap Go.IntKind.i64 (ex-ey))) then (70:Int) else (Go.IntKind.wrap Go.IntKind.i64 (ex-ey)))))-ey)),()))).1.1==(0:Int))&&((S119.F ((S120.F (((0:Int),(Y,())),((Go.IntKind.wrap Go.IntKind.i64 ((Go.IntKind.wrap Go.IntKind.i64 (ex-(if ((70:Int)<(Go.IntKind.wrap Go.IntKind.i64 (ex-ey))) then (70:Int) else (Go.IntKind.wrap Go.IntKind.i64 (ex-ey)))))-ey)),()))).1,((Go.IntKind.wrap Go.IntKind.i64 ((Go.IntKind.wrap Go.IntKind.i64 (ex-(if ((70:Int)<(Go.IntKind.wrap Go.IntKind.i64 (ex-ey))) then (70:Int) else (Go.IntKind.wrap Go.IntKind.i64 (ex-ey)))))-ey)),()))).1.2.1==Y)))||((decide ((Go.IntKind.wrap Go.IntKind.i64 ((Go.IntKind.wrap Go.IntKind.i64 (ex-(if ((70:Int)<(Go.IntKind.wrap Go.IntKind.i64 (ex-ey))) then (70:Int) else (Go.IntKind.wrap Go.IntKind.i64 (ex-ey)))))-ey))>(63:Int)))&&(Y != (0:Int)))),()))))))))
       else none)
      else none)
     else none)
    else none)
   else none)
  else none)
 else none
theorem t71_tail (f m:Int) (nx:Bool) (X ex:Int) (ny:Bool) (Y ey:Int):T71 (f,m,(nx,X,ex,()),(ny,Y,ey,()),()) =
 (bif ((X==0)&&(Y==0))&&(nx==ny) then (bif S118.pre (f,nx,()) then some ((S118.F (f,nx,())).1,0,0,()) else none)
 else bif (X==0)||((Y != 0)&&decide (ex<ey)) then (bif X==0 then tail71 f m ny Y ey nx X ey else tail71 f m ny Y ey nx X ex)
 else bif Y==0 then tail71 f m nx X ex ny Y ex else tail71 f m nx X ex ny Y ey):=by kernel_rfl
theorem Wi_pair {n:Nat} (h:n<2^64):((0:Int),((n:Int),()))=Wi n:=by
 unfold Wi
 rw [Nat.div_eq_of_lt h,Nat.mod_eq_of_lt h]; rfl
theorem Wi_one:((0:Int),((1:Int),()))=Wi 1:=rfl
theorem Wi_zero {n:Nat} (h:n<2^128):(((Wi n).1==0)&&((Wi n).2.1==0))=decide (n=0):=by
 show (((n/2^64:Nat):Int)==0&&((n%2^64:Nat):Int)==0)=_
 rw [nbeq0,nbeq0,Bool.eq_iff_iff,Bool.and_eq_true,beq_iff_eq,beq_iff_eq,decide_eq_true_eq]
 omega
theorem more_eq {Y dn:Nat} (hY:Y<2^64):((!(((Wi (Y/2^dn*2^dn)).1==0)&&((Wi (Y/2^dn*2^dn)).2.1==(Y:Int))))||(decide ((dn:Int)>63)&&((Y:Int) != 0)))=decide (Y%2^dn≠0):=by
 have hdm:=Nat.div_add_mod Y (2^dn)
 rw [Nat.mul_comm] at hdm
 generalize hL:Y/2^dn*2^dn=L at *
 show ((!(((L/2^64:Nat):Int)==0&&((L%2^64:Nat):Int)==(Y:Int)))||(decide ((dn:Int)>63)&&((Y:Int) != 0)))=_
 rw [nbeq0,nbeq,nbne0]
 by_cases h:Y%2^dn=0
 ·rw [decide_eq_false (p:=Y%2^dn≠0) (by omega)]
  rw [show (L/2^64==0)=true by rw [beq_iff_eq]; omega,show (L%2^64==Y)=true by rw [beq_iff_eq]; omega]
  by_cases hy:Y=0
  ·rw [hy]; simp
  ·have:¬ (dn:Int)>63:=fun hd=>by
    have h1:Y<2^dn:=Nat.lt_of_lt_of_le hY (Nat.pow_le_pow_right (by decide) (by omega))
    rw [Nat.mod_eq_of_lt h1] at h
    exact hy h
   rw [decide_eq_false this]; rfl
 ·rw [decide_eq_true (p:=Y%2^dn≠0) h]
  rw [show (L%2^64==Y)=false by rw [beq_eq_false_iff_ne]; omega]
  simp
theorem blen_ge {n k:Nat} (h:2^k≤n):k+1≤blen n:=by
 have h1:=blen_lt n
 have:k<blen n:=(Nat.pow_lt_pow_iff_right (a:=2) (by decide)).1 (Nat.lt_of_le_of_lt h h1)
 omega
def sumBits (f m:Int) (nx:Bool) (X:Nat) (ex:Int) (ny:Bool) (Y:Nat) (ey:Int):Nat×Nat :=
 let e:=if ex≤ey then ex else ey
 let a:=X*2^(ex-e).toNat
 let b:=Y*2^(ey-e).toNat
 if nx=ny then (if a+b=0 then (sgnF f nx,0) else rndN f m nx (a+b) e false)
 else if a=b then (sgnF f (m==4),0) else if b<a then rndN f m nx (a-b) e false else rndN f m ny (b-a) e false
theorem sum_at {f m:Int} {nx:Bool} {X:Nat} {ey:Int} {ny:Bool} {Y:Nat} (D:Nat) :
  sumBits f m nx X (ey+D) ny Y ey=if nx=ny then (if X*2^D+Y=0 then (sgnF f nx,0) else rndN f m nx (X*2^D+Y) ey false)
   else if X*2^D=Y then (sgnF f (m==4),0) else if Y<X*2^D then rndN f m nx (X*2^D-Y) ey false else rndN f m ny (Y-X*2^D) ey false:=by
 unfold sumBits
 have he:(if ey+(D:Int)≤ey then ey+(D:Int) else ey)=ey:=by split <;> omega
 simp only [he]
 rw [show (ey+(D:Int)-ey).toNat=D by omega,show (ey-ey).toNat=0 by omega,Nat.pow_zero,Nat.mul_one]
theorem sum_comm (f m:Int) (nx:Bool) (X:Nat) (ex:Int) (ny:Bool) (Y:Nat) (ey:Int):sumBits f m nx X ex ny Y ey=sumBits f m ny Y ey nx X ex:=by
 unfold sumBits
 have he:(if ex≤ey then ex else ey)=(if ey≤ex then ey else ex):=by split <;> split <;> omega
 simp only [he]
 generalize (if ey≤ex then ey else ex)=e
 generalize X*2^(ex-e).toNat=a
 generalize Y*2^(ey-e).toNat=b
 by_cases hn:nx=ny
 ·subst hn
  rw [if_pos rfl,if_pos rfl,Nat.add_comm]
 ·rw [if_neg hn,if_neg (Ne.symm hn)]
  rcases Nat.lt_trichotomy a b with h | h | h
  ·rw [if_neg (by omega),if_neg (by omega),if_neg (by omega),if_pos h]
  ·rw [if_pos h,if_pos h.symm]
  ·rw [if_neg (by omega),if_pos h,if_neg (by omega),if_neg (by omega)]
theorem sum_zero {f m:Int} (hf:Fm f) (nx:Bool) (X:Nat) (ex:Int) (ny:Bool) (ey:Int):sumBits f m nx X ex ny 0 ey=if X=0 then (if nx=ny then (sgnF f nx,0) else (sgnF f (m==4),0)) else rndN f m nx X ex false:=by
 rcases Int.le_total ex ey with h | h
 ·obtain ⟨D,hD⟩:=Int.eq_ofNat_of_zero_le (show 0≤ey-ex by omega)
  have:ey=ex+D:=by omega
  subst this
  rw [sum_comm,sum_at,Nat.zero_mul,Nat.zero_add]
  by_cases hn:nx=ny
  ·subst hn
   simp only [↓reduceIte]
  ·rw [if_neg (Ne.symm hn),if_neg hn]
   by_cases hx:X=0
   ·subst hx
    simp only [↓reduceIte]
   ·rw [if_neg (by omega),if_neg (by omega),if_neg hx,Nat.sub_zero]
 ·obtain ⟨D,hD⟩:=Int.eq_ofNat_of_zero_le (show 0≤ex-ey by omega)
  have:ex=ey+D:=by omega
  subst this
  rw [sum_at,Nat.add_zero]
  by_cases hx:X=0
  ·subst hx
   rw [if_pos rfl,Nat.zero_mul,if_pos rfl,if_pos rfl]
  ·have hp:=Nat.two_pow_pos D
   have hpos:0<X*2^D:=Nat.mul_pos (by omega) hp
   rw [if_neg hx]
   by_cases hn:nx=ny
   ·rw [if_pos hn,if_neg (by omega),rnd_scale hf hx]
   ·rw [if_neg hn,if_neg (by omega),if_pos hpos,Nat.sub_zero,rnd_scale hf hx]
theorem tail_eq {f m:Int} (hf:Fm f) (hm:0≤m∧m≤5) (nx:Bool) (X D:Nat) (ny:Bool) (Y:Nat) (ey:Int) (hX:X<2^53) (hY:Y<2^53) (he:-2000≤ey∧ey+D≤2000) (h0:X≠0∨(Y=0∧nx≠ny)) :
  tail71 f m nx X (ey+D) ny Y ey=some (((sumBits f m nx X (ey+D) ny Y ey).1:Int),((sumBits f m nx X (ey+D) ny Y ey).2:Int),0,()):=by
 rw [sum_at]
 have hW:=fW_le hf
 have hP:=fP_lt hf
 have hU:∃ U dn:Nat,(if (70:Int)<(D:Int) then (70:Int) else (D:Int))=(U:Int)∧D=U+dn∧U≤70∧(dn≠0→U=70):=by
  by_cases h:70<D
  ·exact ⟨70,D-70,by rw [if_pos (by omega)]; rfl,by omega,by omega,fun _=>rfl⟩
  ·exact ⟨D,0,by rw [if_neg (by omega)],by omega,by omega,fun h=>absurd rfl h⟩
 obtain ⟨U,dn,hU1,hU2,hU3,hU4⟩:=hU
 have e1:IntKind.wrap .i64 (ey+(D:Int)-ey)=(D:Int):=by rw [wrapI (by omega)]; omega
 have e2:IntKind.wrap .i64 (ey+(D:Int)-(U:Int))=ey+(dn:Int):=by rw [wrapI (by omega)]; omega
 have e3:IntKind.wrap .i64 (ey+(dn:Int)-ey)=(dn:Int):=by rw [wrapI (by omega)]; omega
 have hpU:=Nat.two_pow_pos U
 have hpd:=Nat.two_pow_pos dn
 have hU70:2^U≤2^70:=Nat.pow_le_pow_right (by decide) hU3
 have hH:X*2^U<2^123:=by
  have h1:X*2^U≤X*2^70:=Nat.mul_le_mul_left _ hU70
  have h2:X*2^70<2^53*2^70:=Nat.mul_lt_mul_of_pos_right hX (by decide)
  omega
 have hXD:X*2^D=X*2^U*2^dn:=by rw [hU2,Nat.pow_add,Nat.mul_assoc]
 have hbig:Y%2^dn≠0→2^70≤X*2^U∧X≠0:=fun h=>by
  have hd:dn≠0:=fun h1=>by rw [h1,Nat.pow_zero,Nat.mod_one] at h; exact h rfl
  have hy:Y≠0:=fun h1=>by rw [h1,Nat.zero_mod] at h; exact h rfl
  have hx:X≠0:=by
   rcases h0 with h | h
   ·exact h
   ·exact absurd h.1 hy
  refine ⟨?_,hx⟩
  rw [hU4 hd]
  exact Nat.le_mul_of_pos_left _ (by omega)
 have hYL:Y/2^dn≤Y:=Nat.div_le_self _ _
 have hLd:Y/2^dn*2^dn≤Y:=Nat.div_mul_le_self _ _
 have p1:T119 (((0:Int),((X:Int),())),((U:Int),()))=some (Wi (X*2^U),()):=by
  rw [Wi_pair (by omega),T119_eq _ _ (by omega),Nat.mod_eq_of_lt (by omega)]
 have p2:T120 (((0:Int),((Y:Int),())),((dn:Int),()))=some (Wi (Y/2^dn),()):=by
  rw [Wi_pair (by omega),T120_eq _ _ (by omega)]
 have p3:T119 (Wi (Y/2^dn),((dn:Int),()))=some (Wi (Y/2^dn*2^dn),()):=by
  rw [T119_eq _ _ (by omega),Nat.mod_eq_of_lt (by omega)]
 have p4:=T121_eq (X*2^U) (Y/2^dn) (by omega)
 have p5:=T123_eq (X*2^U) (Y/2^dn)
 have pz:=T118_ok hf (m==4)
 unfold tail71
 simp only [e1,hU1,e2,e3,pre119 p1,fun119 p1,pre120 p2,fun120 p2,pre119 p3,fun119 p3,cond_true,pre121 p4,fun121 p4,pre123 p5,fun123 p5,more_eq (show Y<2^64 by omega)]
 have hdm:=Nat.div_add_mod Y (2^dn)
 have hml:=Nat.mod_lt Y hpd
 have hX0H:X=0→X*2^U=0:=fun h=>by rw [h,Nat.zero_mul]
 have hXb:X≠0→dn≠0→2^70≤X*2^U:=fun h1 h2=>by rw [hU4 h2]; exact Nat.le_mul_of_pos_left _ (by omega)
 have hHp:X≠0→0<X*2^U:=fun h=>Nat.mul_pos (by omega) hpU
 clear e1 e2 e3 p1 p2 p3
 rw [Nat.mul_comm] at hdm
 generalize hHe:X*2^U=H at *
 generalize hLe:Y/2^dn=L at *
 generalize hRe:Y%2^dn=R at *
 by_cases hn:nx=ny
 ·subst hn
  rw [if_pos rfl,show (nx==nx)=true by cases nx <;> rfl,cond_true]
  have hX0:X≠0:=by
   rcases h0 with h | h
   ·exact h
   ·exact absurd rfl h.2
  have hHp:=hHp hX0
  have hN:X*2^D+Y=Y+H*2^dn:=by rw [hXD,Nat.add_comm]
  have hNd:(X*2^D+Y)/2^dn=H+L:=by rw [hN,Nat.add_mul_div_right _ _ hpd,hLe,Nat.add_comm]
  have hNm:(X*2^D+Y)%2^dn=R:=by rw [hN,Nat.add_mul_mod_self_right,hRe]
  have hbl:R≠0→fP f+2≤blen (H+L):=fun h=>by
   have h1:=(hbig h).1
   have:=blen_ge (n:=H+L) (k:=70) (by omega)
   omega
  have p6:=T122_eq hf hm nx (H+L) (by omega) (ey+(dn:Int)) (by omega) (decide (R≠0)) (fun h=>hbl (by simpa using h))
  rw [if_neg (by omega)] at p6
  simp only [pre122 p6,fun122 p6,cond_true]
  have htr:=rnd_trunc (f:=f) (m:=m) (neg:=nx) (N:=X*2^D+Y) (k:=dn) (E:=ey) hf (by rw [hNd]; omega) (by rw [hNd,hNm]; exact hbl)
  rw [hNd,hNm] at htr
  have hpp:0<H*2^dn:=Nat.mul_pos hHp hpd
  rw [htr,if_neg (by rw [hXD]; omega)]
 ·rw [if_neg hn,show (nx==ny)=false by cases nx <;> cases ny <;> first | rfl | exact absurd rfl hn,cond_false]
  by_cases hlt:H<L
  ·-- low is the greater: nothing is lost
   have hm0:R=0:=by
    by_cases h:R=0
    ·exact h
    ·have:=(hbig h).1; omega
   have hdn:dn=0:=by
    by_cases h:dn=0
    ·exact h
    ·exfalso
     rcases h0 with h1 | h1
     ·have h2:=hXb h1 h
      omega
     ·have:=h1.1; omega
   subst hdn
   have hY1:Y=L:=by rw [← hLe]; simp
   subst hY1
   have hXD1:X*2^D=H:=by rw [hXD]; simp
   rw [hm0,hXD1]
   have p7:=T124_eq Y H (by omega) (by omega)
   have p6:=T122_eq hf hm ny (Y-H) (by omega) (ey+((0:Nat):Int)) (by omega) false (fun h=>by cases h)
   rw [if_neg (by omega)] at p6
   have z1:decide ((if H=Y then (0:Int) else if H<Y then -1 else 1)<0)=true:=by
    rw [if_neg (by omega),if_pos hlt]; rfl
   have z2:decide ((0:Nat)≠0)=false:=by decide
   have z3:=Wi_zero (n:=Y-H) (by omega)
   rw [decide_eq_false (p:=Y-H=0) (by omega)] at z3
   simp only [z1,z2,cond_true,cond_false,pre124 p7,fun124 p7,z3,Bool.false_and,pre122 p6,fun122 p6]
   rw [if_neg (by omega),if_neg (by omega),Int.natCast_zero,Int.add_zero]
  ·have hge:L≤H:=by omega
   have p7:=T124_eq H L (by omega) hge
   have z1:decide ((if H=L then (0:Int) else if H<L then -1 else 1)<0)=false:=by
    by_cases h:H=L
    ·rw [if_pos h]; rfl
    ·rw [if_neg h,if_neg hlt]; rfl
   simp only [z1,cond_false,pre124 p7,fun124 p7,cond_true]
   by_cases hm0:R=0
   ·rw [hm0,show decide ((0:Nat)≠0)=false by decide,cond_false]
    have hYe:Y=L*2^dn:=by omega
    have z3:=Wi_zero (n:=H-L) (by omega)
    rw [z3]
    by_cases hz:H-L=0
    ·have heq:X*2^D=Y:=by rw [hXD,hYe,show H=L by omega]
     rw [decide_eq_true hz,if_pos heq]
     simp only [Bool.not_false,Bool.and_self,cond_true,pre118 pz,fun118 pz]
     rfl
    ·rw [decide_eq_false hz]
     have p6:=T122_eq hf hm nx (H-L) (by omega) (ey+(dn:Int)) (by omega) false (fun h=>by cases h)
     rw [if_neg hz] at p6
     simp only [Bool.false_and,cond_false,pre122 p6,fun122 p6,cond_true]
     have hN:X*2^D-Y=(H-L)*2^dn:=by rw [hXD,Nat.sub_mul,← hYe]
     have hpp:0<(H-L)*2^dn:=Nat.mul_pos (by omega) hpd
     have hlt2:Y<X*2^D:=by omega
     rw [if_neg (by omega),if_pos hlt2,hN,rnd_scale hf hz]
   ·rw [decide_eq_true (p:=R≠0) hm0,cond_true]
    obtain ⟨hb1,hX0⟩:=hbig hm0
    have p8:=T124_eq (H-L) 1 (by omega) (by omega)
    rw [← Wi_one] at p8
    have hbl:fP f+2≤blen (H-L-1):=by
     have:=blen_ge (n:=H-L-1) (k:=69) (by omega)
     omega
    have p6:=T122_eq hf hm nx (H-L-1) (by omega) (ey+(dn:Int)) (by omega) true (fun _=>hbl)
    rw [if_neg (by omega)] at p6
    simp only [pre124 p8,fun124 p8,cond_true,Bool.not_true,Bool.and_false,cond_false,pre122 p6,fun122 p6]
    have h2:(L+1+(H-L-1))*2^dn=H*2^dn:=by rw [show L+1+(H-L-1)=H by omega]
    rw [Nat.add_mul,Nat.add_mul,Nat.one_mul] at h2
    have hN:X*2^D-Y=(2^dn-R)+(H-L-1)*2^dn:=by rw [hXD]; omega
    have hlt2:Y<X*2^D:=by omega
    have hNd:(X*2^D-Y)/2^dn=H-L-1:=by
     rw [hN,Nat.add_mul_div_right _ _ hpd,Nat.div_eq_of_lt (by omega),Nat.zero_add]
    have hNm:(X*2^D-Y)%2^dn=2^dn-R:=by
     rw [hN,Nat.add_mul_mod_self_right,Nat.mod_eq_of_lt (by omega)]
    have htr:=rnd_trunc (f:=f) (m:=m) (neg:=nx) (N:=X*2^D-Y) (k:=dn) (E:=ey) hf (by rw [hNd]; omega) (fun _=>by rw [hNd]; exact hbl)
    rw [hNd,hNm,decide_eq_true (p:=2^dn-R≠0) (by omega)] at htr
    rw [htr,if_neg (by omega),if_pos hlt2]
theorem T71_eq {f m:Int} (hf:Fm f) (hm:0≤m∧m≤5) (nx:Bool) (X:Nat) (ex:Int) (ny:Bool) (Y:Nat) (ey:Int) (hX:X<2^53) (hY:Y<2^53) (hex:-2000≤ex∧ex≤2000) (hey:-2000≤ey∧ey≤2000) :
  T71 (f,m,(nx,(X:Int),ex,()),(ny,(Y:Int),ey,()),())=some (((sumBits f m nx X ex ny Y ey).1:Int),((sumBits f m nx X ex ny Y ey).2:Int),0,()):=by
 rw [t71_tail]
 by_cases hX0:X=0
 ·subst hX0
  by_cases hYn:Y=0∧nx=ny
  ·obtain ⟨rfl,rfl⟩:=hYn
   have p0:=T118_ok hf nx
   rw [show ((((0:Nat):Int)==0)&&(((0:Nat):Int)==0)&&(nx==nx))=true by cases nx <;> rfl,cond_true]
   simp only [pre118 p0,fun118 p0,cond_true]
   rw [sum_zero hf,if_pos rfl,if_pos rfl]
   rfl
  ·have hg:((((0:Nat):Int)==0)&&(((Y:Nat):Int)==0)&&(nx==ny))=false:=by
    by_cases hy:Y=0
    ·have:nx≠ny:=fun h=>hYn ⟨hy,h⟩
     subst hy
     cases nx <;> cases ny <;> first | rfl | exact absurd rfl this
    ·rw [beq0_f Y hy,Bool.and_false,Bool.false_and]
   have h1:(((0:Nat):Int)==0)=true:=rfl
   rw [hg,cond_false,h1,Bool.true_or,cond_true,cond_true]
   have ht:=tail_eq hf hm ny Y 0 nx 0 ey hY hX (by omega) (by
    by_cases hy:Y=0
    ·exact .inr ⟨rfl,fun h=>hYn ⟨hy,h.symm⟩⟩
    ·exact .inl hy)
   rw [Int.natCast_zero,Int.add_zero] at ht
   rw [Int.natCast_zero,ht,sum_comm f m nx 0 ex,sum_zero hf,sum_zero hf]
 ·have hx0:((X:Int)==0)=false:=beq0_f _ hX0
  rw [hx0,Bool.false_and,Bool.false_and,cond_false,Bool.false_or,cond_false]
  by_cases hY0:Y=0
  ·subst hY0
   have ht:=tail_eq hf hm nx X 0 ny 0 ex hX hY (by omega) (.inl hX0)
   rw [Int.natCast_zero,Int.add_zero] at ht
   rw [show (((0:Nat):Int) != 0)=false by rfl,Bool.false_and,cond_false,show (((0:Nat):Int)==0)=true by rfl,cond_true,Int.natCast_zero,ht,sum_zero hf,sum_zero hf]
  ·rw [bne0_t _ hY0,Bool.true_and,beq0_f _ hY0,cond_false]
   by_cases hlt:ex<ey
   ·rw [decide_eq_true hlt,cond_true]
    obtain ⟨D,hD⟩:=Int.eq_ofNat_of_zero_le (show 0≤ey-ex by omega)
    have hee:ey=ex+D:=by omega
    subst hee
    rw [tail_eq hf hm ny Y D nx X ex hY hX (by omega) (.inl hY0),sum_comm f m ny Y]
   ·rw [decide_eq_false hlt,cond_false]
    obtain ⟨D,hD⟩:=Int.eq_ofNat_of_zero_le (show 0≤ex-ey by omega)
    have hee:ex=ey+D:=by omega
    subst hee
    rw [tail_eq hf hm nx X D ny Y ey hX hY (by omega) (.inl hX0)]
end VL
namespace VL
open Go Vx
def Hs (l:List Nat):Prop:=(∀ x∈l,x<2^32)∧l.length≤1000000
theorem Hs.dg {n:Nat} (h:n<2^100000):Hs (dg (2^32) n):=by
 refine ⟨dg_lt (by decide) n,?_⟩
 have:n<(2^32)^3125:=by rw [← Nat.pow_mul]; exact h
 have:=dg_len_le (B:=2^32) (by decide) 3125 n this
 omega
theorem wu_id (n:Nat) (h:n<2^64):IntKind.wrap .u64 (n:Int)=(n:Int):=wrapU (by omega)
theorem wu_mul (a b:Nat) (h:a*b<2^64):IntKind.wrap .u64 ((a:Int)*(b:Int))=((a*b:Nat):Int):=by
 rw [← Int.natCast_mul,wu_id _ h]
theorem wu_add (a b:Nat) (h:a+b<2^64):IntKind.wrap .u64 ((a:Int)+(b:Int))=((a+b:Nat):Int):=by
 rw [← Int.natCast_add,wu_id _ h]
theorem app_lt {B:Nat} {l:List Nat} {v:Nat} (h:∀ x∈l,x<B) (hv:v<B):∀ x∈l++[v],x<B:=fun x hx=>by
 rcases List.mem_append.1 hx with hx | hx
 ·exact h x hx
 ·have:x=v:=by simpa using hx
  rw [this]; exact hv
theorem nv_snoc (B:Nat) (l:List Nat) (v:Nat):nv B (l++[v])=nv B l+B^l.length*v:=by
 rw [nv_append]; simp [nv]
theorem nv_rep (B n:Nat):nv B (List.replicate n 0)=0:=by
 induction n with
 | zero=>rfl
 | succ n ih=>rw [List.replicate_succ]; simp [nv,ih]
end VL
namespace VL
open Go Vx
theorem nv_drop_next (B:Nat) (l:List Nat) (i:Nat) (h:i<l.length):nv B (l.drop i)=l.getD i 0+B*nv B (l.drop (i+1)):=by
 rw [List.drop_eq_getElem_cons h,List.getD_eq_getElem?_getD,List.getElem?_eq_getElem h]; rfl
theorem take_lt {B:Nat} (hB:2≤B) {l:List Nat} (h:∀ x∈l,x<B) (i:Nat):nv B (l.take i)<B^i:=by
 have:=nv_lt hB (l.take i) fun x hx=>h x (List.mem_of_mem_take hx)
 refine Nat.lt_of_lt_of_le this (Nat.pow_le_pow_right (by omega) ?_)
 rw [List.length_take]
 exact Nat.min_le_left _ _
theorem split_lt {P A A' X Y:Nat} (h:A<P) (hxy:X<Y):A+P*X<A'+P*Y:=by
 have:P*(X+1)≤P*Y:=Nat.mul_le_mul_left _ hxy
 rw [Nat.mul_add,Nat.mul_one] at this
 omega
theorem row_lt {B:Nat} (hB:2≤B) {a b:List Nat} (ha:∀ x∈a,x<B) {i:Nat} (hia:i<a.length) (hib:i<b.length) (hd:nv B (a.drop (i+1))=nv B (b.drop (i+1))) (h:a.getD i 0<b.getD i 0):nv B a<nv B b:=by
 rw [nv_split B a i (by omega),nv_split B b i (by omega),nv_drop_next B a i hia,nv_drop_next B b i hib,hd]
 exact split_lt (take_lt hB ha i) (by omega)
theorem dg_len_lt {B:Nat} (hB:2≤B) {x y:Nat} (h:(dg B x).length<(dg B y).length):x<y:=by
 have h1:=dg_len_gt hB x
 rcases Nat.lt_or_ge x y with h2 | h2
 ·exact h2
 ·have:=dg_len_le hB (dg B x).length y (by omega)
  omega
theorem minus_step {P B A A' O a b c c' v:Nat} (h:A+P*c=A'+O) (h2:a+B*c'=b+c+v):A+P*a+P*B*c'=A'+P*b+(O+P*v):=by
 have h3:P*(a+B*c')=P*(b+c+v):=by rw [h2]
 rw [Nat.mul_add,Nat.mul_add,Nat.mul_add,← Nat.mul_assoc] at h3
 omega
theorem dg_len_mono {B:Nat} (hB:2≤B) {x y:Nat} (h:y≤x):(dg B y).length≤(dg B x).length:=by
 rcases Nat.lt_or_ge (dg B x).length (dg B y).length with h1 | h1
 ·have:=dg_len_lt hB h1; omega
 ·exact h1
theorem Hs.len {n:Nat} (h:n<2^100000):(VL.dg (2^32) n).length≤3125:=by
 have:n<(2^32)^3125:=by rw [← Nat.pow_mul]; exact h
 exact dg_len_le (B:=2^32) (by decide) 3125 n this
theorem blen_half {x:Nat} (h:x≠0):blen x=blen (x/2)+1:=by
 have:=blen_shift (n:=x) (k:=1)
 rcases Nat.lt_or_ge x 2 with h1 | h1
 ·have:x=1:=by omega
  subst this; decide
 ·have:=this (by omega)
  rw [this,Nat.pow_one]; omega
theorem quoM (x m:Nat) (h:x<2^64) (hm:0<m):quoI .u64 (x:Int) (m:Int)=((x/m:Nat):Int):=by
 unfold quoI
 have e:(x:Int).tdiv (m:Int)=((x/m:Nat):Int):=rfl
 have:=Nat.div_le_self x m
 generalize x/m=q at *
 rw [e,wrapU (by omega)]
end VL
namespace VL
open Go Vx
theorem fP_le {f:Int} (hf:Fm f):fP f≤53:=by
 rcases Fm_cases hf with rfl | rfl | rfl | rfl <;> decide
theorem cut_lt_big {f m:Int} (hf:Fm f) {neg:Bool} {n:Nat} {e q:Int} (h:topE n e-fP f+1≤q):cutN m neg n e q false≤2^fP f:=cut_le h
end VL
namespace VL
open Go Vx
def mant (f:Int) (a:Nat):Nat:=if eF f a=0 then mF f a else mF f a+2^(fP f-1)
def xpn (f:Int) (a:Nat):Int:=1-(fX f:Int)-(fP f:Int)+1+(if eF f a=0 then 0 else (eF f a:Int)-1)
theorem mF_lt (f:Int) (a:Nat):mF f a<2^(fP f-1):=Nat.mod_lt _ (Nat.two_pow_pos _)
theorem mant_lt {f:Int} (hf:Fm f) (a:Nat):mant f a<2^53:=by
 have h1:=mF_lt f a
 have h2:=fP_ge hf
 have h3:=fP_lt hf
 have h4:=fW_le hf
 have h5:2^(fP f-1)≤2^52:=Nat.pow_le_pow_right (by decide) (by rcases Fm_cases hf with rfl | rfl | rfl | rfl <;> decide)
 unfold mant
 split <;> omega
theorem eF_lt {f:Int} (hf:Fm f) (a:Nat):eF f a<2048:=by
 have:2^(fW f-fP f)≤2^11:=Nat.pow_le_pow_right (by decide) (by rcases Fm_cases hf with rfl | rfl | rfl | rfl <;> decide)
 have h:eF f a<2^(fW f-fP f):=Nat.mod_lt _ (Nat.two_pow_pos _)
 omega
theorem xpn_bound {f:Int} (hf:Fm f) (a:Nat):-2000≤xpn f a∧xpn f a≤2000:=by
 have h1:=eF_lt hf a
 have h2:=fX_le hf
 have h3:=fP_le hf
 have h4:=fX_ge hf
 have h5:=fP_ge hf
 have h6:(eF f a:Int)≤2*fX f+1:=by
  have:eF f a<2^(fW f-fP f):=Nat.mod_lt _ (Nat.two_pow_pos _)
  have:=fX_eq hf
  omega
 unfold xpn
 split <;> omega
def isInf (f:Int) (a:Nat):Bool:=eF f a==fullF f&&mF f a==0
def addR (f m:Int) (a b:Nat):Int×Int×Int×Unit :=
 bif snan f a||snan f b then ((nanF f:Int),1,0,())
 else bif nan f a||nan f b then ((nanF f:Int),0,0,())
 else bif (isInf f a&&isInf f b)&&!(sF f a==sF f b) then ((nanF f:Int),1,0,())
 else bif isInf f a then ((a:Int),0,0,())
 else bif isInf f b then ((b:Int),0,0,())
 else (((sumBits f m (sF f a) (mant f a) (xpn f a) (sF f b) (mant f b) (xpn f b)).1:Int),((sumBits f m (sF f a) (mant f a) (xpn f a) (sF f b) (mant f b) (xpn f b)).2:Int),0,())
def addA (f m:Int) (a b:Nat):Int×Int×Int×Unit :=
 if Fm f then (if 0≤m∧m≤5 then (if chk f a=0∧chk f b=0 then addR f m a b else (0,0,4,())) else (0,0,3,())) else (0,0,2,())
def subA (f m:Int) (a b:Nat):Int×Int×Int×Unit:=addA f m a (if chk f b=0 then negF f b else b)
theorem neg_pat {f:Int} {b:Nat} (h:chk f b=0):negF f b<2^64:=pat_lt (neg_chk (chk_zero h).1 b)
end VL
namespace VL
open Go Vx
theorem T98_ok {f:Int} {a:Nat} (h:chk f a=0):T98 (f,(a:Int),())=some (sF f a,(eF f a:Int),(mF f a:Int),0,()):=by
 obtain ⟨hf,h0⟩:=chk_zero h
 have ha:=pat_lt h
 show t98 S66.pre S66.F S90.pre S90.F f a=_
 unfold t98
 have p0:=T66_eq f a ha
 have p2:=T90_eq hf a ha
 have hr1:decide (0≤f)=true:=decide_eq_true hf.1
 have hr2:decide (f<((4:Nat):Int))=true:=decide_eq_true hf.2
 simp only [row_at hf,hr1,hr2,pre66 p0,fun66 p0,pre90 p2,fun90 p2,h,cond_true,bne_self_eq_false,cond_false]
theorem T72_ok {f:Int} {a:Nat} (h:chk f a=0):T72 (f,rowOf f,(a:Int),())=some ((sF f a,(mant f a:Int),xpn f a,()),()):=by
 obtain ⟨hf,h0⟩:=chk_zero h
 show t72 S98.pre S98.F f (rowOf f) a=_
 unfold t72
 have h1:=fP_ge hf
 have h3:=fP_le hf
 have h4:=fX_le hf
 have hE:=eF_lt hf a
 have hM:=mF_lt f a
 have hPp:2^(fP f-1)≤2^52:=Nat.pow_le_pow_right (by decide) (by omega)
 have p0:=T98_ok h
 have r1:(rowOf f).2.1=(fP f:Int):=rfl
 have r2:(rowOf f).2.2.1=1-(fX f:Int):=rfl
 have e0:IntKind.wrap .i64 ((fP f:Int)-1)=((fP f-1:Nat):Int):=wsub1 _ (by omega)
 have e1:IntKind.wrap .i64 (IntKind.wrap .i64 ((1-(fX f:Int))-(fP f:Int))+1)=1-(fX f:Int)-(fP f:Int)+1:=by
  rw [wrapI (n:=_-(fP f:Int)) (by omega),wrapI (by omega)]
 have e2:IntKind.wrap .i64 (eF f a:Int)=(eF f a:Int):=wrapI (by omega)
 have e3:shlI .u64 1 ((fP f-1:Nat):Int)=((2^(fP f-1):Nat):Int):=shlI_one (by omega)
 have e4:orI .u64 (mF f a:Int) ((2^(fP f-1):Nat):Int)=((mF f a+2^(fP f-1):Nat):Int):=by
  have:=orN (a:=mF f a) (b:=1) (k:=fP f-1) hM (by omega)
  rwa [Nat.one_mul] at this
 simp only [pre98 p0,fun98 p0,cond_true,r1,r2,e0,e1,e2,e3,e4,nnn]
 by_cases hz:eF f a=0
 ·have hg:decide ((eF f a:Int)>0)=false:=decide_eq_false (by omega)
  have hm:mant f a=mF f a:=by unfold mant; rw [if_pos hz]
  have hx:xpn f a=1-(fX f:Int)-(fP f:Int)+1:=by unfold xpn; rw [if_pos hz,Int.add_zero]
  rw [hg,cond_false,hm,hx]
 ·have hg:decide ((eF f a:Int)>0)=true:=decide_eq_true (by omega)
  have hm:mant f a=mF f a+2^(fP f-1):=by unfold mant; rw [if_neg hz]
  have hx:IntKind.wrap .i64 ((1-(fX f:Int)-(fP f:Int)+1)+IntKind.wrap .i64 ((eF f a:Int)-1))=xpn f a:=by
   unfold xpn; rw [if_neg hz,wrapI (n:=(eF f a:Int)-1) (by omega),wrapI (by omega)]
  rw [hg,cond_true,hm,hx]
theorem cls_isInf (f:Int) (a:Nat):(cls f a==2||cls f a==9)=isInf f a:=by
 unfold cls isInf
 cases eF f a==fullF f <;> cases eF f a==0 <;> cases mF f a==0 <;> cases sF f a <;> cases mF f a/2^(fP f-2) != 0 <;> rfl
theorem cls_signs (f:Int) (a b:Nat):((isInf f a&&isInf f b)&&(cls f a != cls f b))=((isInf f a&&isInf f b)&&!(sF f a==sF f b)):=by
 unfold cls isInf
 cases eF f a==fullF f <;> cases mF f a==0 <;> cases eF f b==fullF f <;> cases mF f b==0 <;> first | rfl | (cases sF f a <;> cases sF f b <;> rfl)
theorem T27_eq (f m:Int) {a b:Nat} (ha:a<2^64) (hb:b<2^64):T27 (f,m,(a:Int),(b:Int),())=some (addA f m a b):=by
 show t27 S69.pre S69.F S65.pre S65.F S70.pre S70.F S72.pre S72.F S71.pre S71.F f m a b=_
 unfold t27 addA
 by_cases hf:Fm f
 ·rw [if_pos hf]
  have p0:=T69_ok hf
  simp only [pre69 p0,fun69 p0,cond_true,bne_self_eq_false,cond_false]
  by_cases hm:0≤m∧m≤5
  ·have hmm:(decide (m<0)||decide (m>5))=false:=by
    rw [decide_eq_false (p:=m<0) (by omega),decide_eq_false (p:=m>5) (by omega)]; rfl
   rw [if_pos hm,hmm,cond_false]
   have c4:∀ x:Nat,chk f x≠0→chk f x=4:=fun x h=>by
    unfold chk at h ⊢
    rw [if_pos hf] at h ⊢
    split at h
    ·exact absurd rfl h
    ·rename_i h1; rw [if_neg h1]
   by_cases hca:chk f a=0
   ·have p1:=T65_ok ha hca
    by_cases hcb:chk f b=0
    ·have p2:=T65_ok hb hcb
     rw [if_pos ⟨hca,hcb⟩]
     have p3:=T70_ok hf
     have p4:=T72_ok hca
     have p5:=T72_ok hcb
     have p6:=T71_eq hf hm (sF f a) (mant f a) (xpn f a) (sF f b) (mant f b) (xpn f b) (mant_lt hf a) (mant_lt hf b) (xpn_bound hf a) (xpn_bound hf b)
     simp only [pre65 p1,fun65 p1,pre65 p2,fun65 p2,cond_true,bne_self_eq_false,cond_false,pre70 p3,fun70 p3,pre72 p4,fun72 p4,pre72 p5,fun72 p5,pre71 p6,fun71 p6,cls_isInf,cls_signs]
     unfold addR
     rw [← cls_snan,← cls_snan,← cls_nan,← cls_nan]
     generalize ((isInf f a&&isInf f b)&&!(sF f a==sF f b))=w1
     generalize isInf f a=w2
     generalize isInf f b=w3
     generalize (cls f a==0)=x1
     generalize (cls f b==0)=x2
     generalize (cls f a==1)=x3
     generalize (cls f b==1)=x4
     cases x1 <;> cases x2 <;> cases x3 <;> cases x4 <;> cases w1 <;> cases w2 <;> cases w3 <;> rfl
    ·have p2:=T65_bad hb hcb
     rw [if_neg (fun h=>hcb h.2)]
     have hne:(chk f b != 0)=true:=by simpa using hcb
     simp only [pre65 p1,fun65 p1,pre65 p2,fun65 p2,cond_true,bne_self_eq_false,cond_false,hne]
     rw [c4 b hcb]
   ·have p1:=T65_bad ha hca
    rw [if_neg (fun h=>hca h.1)]
    have hne:(chk f a != 0)=true:=by simpa using hca
    simp only [pre65 p1,fun65 p1,cond_true,hne]
    rw [c4 a hca]
  ·rw [if_neg hm]
   have:(decide (m<0)||decide (m>5))=true:=by
    by_cases h:m<0
    ·rw [decide_eq_true h]; rfl
    ·rw [decide_eq_true (p:=m>5) (by omega),Bool.or_true]
   rw [this]; rfl
 ·rw [if_neg hf]
  have p0:=T69_bad hf
  simp only [pre69 p0,fun69 p0]
  rfl
theorem T25_eq (f m:Int) {a b:Nat} (ha:a<2^64) (hb:b<2^64):T25 (f,m,(a:Int),(b:Int),())=some (subA f m a b):=by
 show t25 S66.pre S66.F S64.pre S64.F S27.pre S27.F f m a b=_
 unfold t25 subA
 have p0:=T66_eq f b hb
 by_cases h:chk f b=0
 ·have p1:=T64_ok h
  have p2:=T27_eq f m ha (neg_pat h)
  rw [if_pos h]
  simp only [pre66 p0,fun66 p0,h,beq_self_eq_true,cond_true,pre64 p1,fun64 p1,pre27 p2,fun27 p2]
 ·have p2:=T27_eq f m ha hb
  have hne:(chk f b==0)=false:=by simpa using h
  rw [if_neg h]
  simp only [pre66 p0,fun66 p0,cond_true,hne,cond_false,pre27 p2,fun27 p2]
end VL
namespace VL
open Go Vx
theorem infB_eq (f:Int) (neg:Bool):infB f neg=infF f+sgnF f neg:=by
 unfold infB infF fullF; rw [Nat.mul_comm]
theorem add_sgn (f:Int) (s:Bool) (x:Nat):x+sgnF f s=mkF f s x:=by
 unfold mkF sgnF; cases s <;> rfl
theorem inf_ge {f:Int} (hf:Fm f):infF f=(2*fX f+1)*2^(fP f-1):=by
 unfold infF fullF; rw [← fX_eq hf,Nat.mul_comm]
theorem nan_of_le {f:Int} (hf:Fm f) {a:Nat} (h:absF f a≤infF f):nan f a=false:=by
 unfold nan
 rw [eF_abs hf,mF_abs hf]
 by_cases he:absF f a/2^(fP f-1)=fullF f
 ·have hdm:=Nat.div_add_mod (absF f a) (2^(fP f-1))
  rw [he] at hdm
  unfold infF at h
  have:absF f a%2^(fP f-1)=0:=by omega
  rw [this]; simp
 ·simp [he]
def rndM (f m:Int) (neg:Bool) (n:Nat) (e:Int):Nat×Nat :=
 if topE n e>fX f then ((if upw m neg then infF f else infF f-1),20)
 else
  let q:=lowE f (topE n e)
  let u:=cutN m neg n e q false
  if q+blen u-1>fX f then ((if upw m neg then infF f else infF f-1),20)
  else ((q-(1-(fX f:Int)-fP f+1)).toNat*2^(fP f-1)+u,
   if cutR n e q false=0 then 0 else if isTiny f m neg n e false then 24 else 16)
theorem infF_pos {f:Int} (hf:Fm f):1≤infF f:=by
 rw [inf_ge hf]
 exact Nat.mul_pos (by omega) (Nat.two_pow_pos _)
theorem bey_M {f m:Int} (hf:Fm f) (neg:Bool):beyB f m neg=mkF f neg (if upw m neg then infF f else infF f-1):=by
 have:=infF_pos hf
 unfold beyB
 rw [infB_eq,← add_sgn]
 split <;> omega
theorem rnd_M {f:Int} (hf:Fm f) (m:Int) (neg:Bool) (n:Nat) (e:Int):rndN f m neg n e false=(mkF f neg (rndM f m neg n e).1,(rndM f m neg n e).2):=by
 unfold rndN rndM
 by_cases h:topE n e>fX f
 ·rw [if_pos h,if_pos h,bey_M hf]
 ·rw [if_neg h,if_neg h]
  dsimp only
  by_cases h2:lowE f (topE n e)+(blen (cutN m neg n e (lowE f (topE n e)) false):Int)-1>fX f
  ·rw [if_pos h2,if_pos h2,bey_M hf]
  ·rw [if_neg h2,if_neg h2]
   dsimp only
   rw [add_sgn]
theorem low_facts (f:Int) (hf:Fm f) (t:Int) (ht:¬ t>fX f):t-(fP f:Int)+1≤lowE f t∧1-(fX f:Int)-(fP f:Int)+1≤lowE f t∧lowE f t≤(fX f:Int)-(fP f:Int)+1:=by
 have:=fX_ge hf
 unfold lowE; split <;> refine ⟨?_,?_,?_⟩ <;> omega
theorem rndM_lt {f m:Int} (hf:Fm f) {neg:Bool} {n:Nat} {e:Int} (h1:¬ topE n e>fX f) (h2:¬ lowE f (topE n e)+(blen (cutN m neg n e (lowE f (topE n e)) false):Int)-1>fX f) :
  (lowE f (topE n e)-(1-(fX f:Int)-fP f+1)).toNat*2^(fP f-1)+cutN m neg n e (lowE f (topE n e)) false<infF f:=by
 obtain ⟨g1,g2,g3⟩:=low_facts f hf _ h1
 have hu:=cut_lt_big (m:=m) (neg:=neg) hf g1
 generalize lowE f (topE n e)=q at *
 generalize cutN m neg n e q false=u at *
 have hP:=fP_ge hf
 have hX:=fX_ge hf
 have hpp:=Nat.two_pow_pos (fP f-1)
 have h2p:2^fP f=2*2^(fP f-1):=by rw [← Nat.pow_succ',Nat.succ_eq_add_one,Nat.sub_add_cancel (by omega)]
 rw [inf_ge hf]
 obtain ⟨k,hk⟩:=Int.eq_ofNat_of_zero_le (show 0≤q-(1-(fX f:Int)-(fP f:Int)+1) by omega)
 rw [hk,Int.toNat_natCast]
 rcases Nat.lt_or_ge u (2^fP f) with h | h
 ·have hk2:k+2≤2*fX f+1:=by omega
  have:=Nat.mul_le_mul_right (2^(fP f-1)) hk2
  rw [Nat.add_mul] at this
  omega
 ·have hb:fP f+1≤blen u:=blen_ge h
  have hk2:k+3≤2*fX f+1:=by omega
  have:=Nat.mul_le_mul_right (2^(fP f-1)) hk2
  rw [Nat.add_mul] at this
  omega
theorem rndM_le {f:Int} (hf:Fm f) (m:Int) (neg:Bool) (n:Nat) (e:Int):(rndM f m neg n e).1≤infF f:=by
 unfold rndM
 by_cases h:topE n e>fX f
 ·rw [if_pos h]; dsimp only; split <;> omega
 ·rw [if_neg h]
  dsimp only
  by_cases h2:lowE f (topE n e)+(blen (cutN m neg n e (lowE f (topE n e)) false):Int)-1>fX f
  ·rw [if_pos h2]; dsimp only; split <;> omega
  ·rw [if_neg h2]
   exact Nat.le_of_lt (rndM_lt hf h h2)
theorem sgn_zero (f:Int) (s:Bool):sgnF f s=mkF f s 0:=by
 rw [← add_sgn,Nat.zero_add]
theorem infF_lt {f:Int} (hf:Fm f):infF f<2^(fW f-1):=by have:=inf_room hf; omega
theorem mk_nan {f:Int} (hf:Fm f) (s:Bool) {x:Nat} (hx:x≤infF f):nan f (mkF f s x)=false :=
 nan_of_le hf (by rw [mk_abs s (Nat.lt_of_le_of_lt hx (infF_lt hf))]; exact hx)
theorem inf_same {f:Int} (hf:Fm f) {a b:Nat} (ha:chk f a=0) (hb:chk f b=0) (h1:isInf f a=true) (h2:isInf f b=true) (hs:sF f a=sF f b):a=b:=by
 have e1:absF f a=infF f:=(inf_iff hf a).2 (by unfold isInf at h1; simpa using h1)
 have e2:absF f b=infF f:=(inf_iff hf b).2 (by unfold isInf at h2; simpa using h2)
 rw [pat_mk ha,pat_mk hb,e1,e2,hs]
end VL
namespace VL
open Go Vx
def qm (f:Int):Int:=1-(fX f:Int)-(fP f:Int)+1
def cutJ (m:Int) (neg:Bool) (n j:Nat):Nat :=
 if clsR (n%2^j) j≠0∧furM m neg (decide (n/2^j%2=1)) (clsR (n%2^j) j)=true then n/2^j+1 else n/2^j
def limM (f m:Int) (neg:Bool):Nat:=if upw m neg then infF f else infF f-1
theorem cutJ_bound (m:Int) (neg:Bool) (n j:Nat):n/2^j≤cutJ m neg n j∧cutJ m neg n j≤n/2^j+1:=by
 unfold cutJ; split <;> omega
theorem two_P {f:Int} (hf:Fm f):2^fP f=2*2^(fP f-1):=by
 have hP:=fP_ge hf
 rw [← Nat.pow_succ',Nat.succ_eq_add_one,Nat.sub_add_cancel (by omega)]
end VL
namespace VL
open Go Vx
theorem eF_neg {f:Int} (hf:Fm f) (a:Nat):eF f (negF f a)=eF f a:=by rw [eF_abs hf,eF_abs hf,neg_abs]
theorem mF_neg {f:Int} (hf:Fm f) (a:Nat):mF f (negF f a)=mF f a:=by rw [mF_abs hf,mF_abs hf,neg_abs]
theorem inf_neg {f:Int} (hf:Fm f) (a:Nat):isInf f (negF f a)=isInf f a:=by unfold isInf; rw [eF_neg hf,mF_neg hf]
theorem mant_neg {f:Int} (hf:Fm f) (a:Nat):mant f (negF f a)=mant f a:=by unfold mant; rw [eF_neg hf,mF_neg hf]
theorem xpn_neg {f:Int} (hf:Fm f) (a:Nat):xpn f (negF f a)=xpn f a:=by unfold xpn; rw [eF_neg hf]
end VL
namespace VL
open Go Vx
theorem xpn_ge (f:Int) (a:Nat):qm f≤xpn f a:=by
 unfold xpn qm
 split <;> omega
def sl (V:Nat→Int) (i:Nat):List Int:=[if 0<i then V 0 else 0,if 1<i then V 1 else 0,if 2<i then V 2 else 0,if 3<i then V 3 else 0,if 4<i then V 4 else 0,if 5<i then V 5 else 0]
end VL
namespace VL
open Go Vx
def tz (n:Nat):Nat:=if n=0 then 0 else if n%2=1 then 0 else tz (n/2)+1
termination_by n
decreasing_by omega
theorem tz_of:∀ (t k:Nat),tz (2^t*(2*k+1))=t
 | 0,k=>by
  rw [tz,Nat.pow_zero,Nat.one_mul,if_neg (by omega),if_pos (by omega)]
 | t+1,k=>by
  have e:2^(t+1)*(2*k+1)=2*(2^t*(2*k+1)):=by rw [Nat.pow_succ,Nat.mul_comm (2^t) 2,Nat.mul_assoc]
  have hp:0<2^t*(2*k+1):=Nat.mul_pos (Nat.two_pow_pos t) (by omega)
  have ih:=tz_of t k
  rw [e]
  generalize 2^t*(2*k+1)=n at *
  rw [tz,if_neg (by omega),if_neg (by omega),show 2*n/2=n by omega,ih]
theorem tz_split {n:Nat} (h:n≠0):∃ k,n=2^tz n*(2*k+1):=by
 obtain ⟨t,k,e⟩:=two_split (x:=n) (by omega)
 refine ⟨k,?_⟩
 have:=tz_of t k
 rw [← e] at this
 rw [this]; exact e
theorem word_split {x i t k r:Nat} (hx:x=2^t*(2*k+1)) (ht:t<64):(2^64)^i*(x+2^64*r)=2^(64*i+t)*(2*(k+2^(64-t-1)*r)+1):=by
 have h1:2^64=2^t*(2^(64-t-1)*2):=by rw [← Nat.pow_succ,← Nat.pow_add]; congr 1; omega
 rw [pow64,hx,Nat.pow_add,Nat.mul_assoc]
 congr 1
 rw [h1,Nat.mul_assoc,← Nat.mul_add]
 congr 1
 rw [Nat.mul_assoc,Nat.mul_left_comm]
 omega
abbrev Dya:=Den (.pair (.bool) (.pair (.slice (.int .u64)) (.pair (.int .i64) (.unit))))
def dy (s:Bool) (n:Nat) (e:Int):Dya:=(s,Dw n,e,())
theorem dy_zero:dy false 0 0=(false,[],0,()):=by unfold dy; rw [Dw_zero]
theorem quo64m (i:Nat) (h:i≤1000000):quoI .i64 ((64*i:Nat):Int) 64=(i:Int):=by
 rw [quoN _ (by omega),show 64*i/64=i by omega]
theorem W100_eq (n:Nat) (h0:n≠0) (hl:(dg (2^64) n).length≤1000000) (M:PMem P100_5.mem) :
  W100_5 (((0:Int),(Dw n,((),((),())))),M)=some (.inl ((((64*(tz n/64):Nat):Int),(Dw n,((),((),())))),M)):=by
 have key:=lfix_ind (m100_5 S102.pre S102.F S92.pre S92.F S141.pre S141.F) (fun x=>(dg (2^64) n).length-x.1.1.toNat/64)
  (fun x=>∃ i:Nat,i≤(dg (2^64) n).length∧nv (2^64) ((dg (2^64) n).take i)=0∧x=((((64*i:Nat):Int),(Dw n,((),((),())))),M))
  (fun _=>.inl ((((64*(tz n/64):Nat):Int),(Dw n,((),((),())))),M)) ?_ (((0:Int),(Dw n,((),((),())))),M) ⟨0,Nat.zero_le _,rfl,rfl⟩
 ·exact key
 intro L x hx hL
 obtain ⟨i,hi,hz,rfl⟩:=hx
 have hnv:=nv_Dw n
 have ha:=dg_lt (B:=2^64) (by decide) n
 have hlt:i<(dg (2^64) n).length:=by
  rcases Nat.lt_or_ge i (dg (2^64) n).length with h | h
  ·exact h
  ·rw [List.take_of_length_le h,hnv] at hz; exact absurd hz h0
 unfold h100_5
 have e64:IntKind.wrap .i64 (((64*i:Nat):Int)+64)=((64*(i+1):Nat):Int):=by rw [wrapI (by omega)]; omega
 have hxl:=getD_lt (by decide) ha i
 unfold Dw at hL ⊢
 rcases Nat.eq_zero_or_pos ((dg (2^64) n).getD i 0) with hw | hw
 ·simp (disch:=omega) only [quo64m,wadd,wadd1,wadd64,wsubn,wsub1,wmul64,ilt_t,ilt_f,ile_t,ile_f,igt_t,igt_f,ige_t,ige_f,ipos_t,ipos_f,igt0_t,igt0_f,nnn,beq0_t,beq0_f,bne0_t,bne0_f,Int.toNat_natCast,Int.toNat_zero,cond_true,cond_false,Bool.and_self,Bool.true_and,Bool.and_true,Bool.false_and,Bool.and_false,Bool.not_true,Bool.not_false,Bool.or_self,Bool.true_or,Bool.or_true,Bool.false_or,Bool.or_false,Wd_len,Wd_getD,e64]
  refine hL _ ⟨i+1,by omega,?_,rfl⟩ (by simp only [Int.toNat_natCast]; omega)
  rw [nv_take_succ _ _ _ hlt,hz,hw,Nat.mul_zero]
 ·simp (disch:=omega) only [quo64m,wadd,wadd1,wadd64,wsubn,wsub1,wmul64,ilt_t,ilt_f,ile_t,ile_f,igt_t,igt_f,ige_t,ige_f,ipos_t,ipos_f,igt0_t,igt0_f,nnn,beq0_t,beq0_f,bne0_t,bne0_f,Int.toNat_natCast,Int.toNat_zero,cond_true,cond_false,Bool.and_self,Bool.true_and,Bool.and_true,Bool.false_and,Bool.and_false,Bool.not_true,Bool.not_false,Bool.or_self,Bool.true_or,Bool.or_true,Bool.false_or,Bool.or_false,Wd_len,Wd_getD]
  obtain ⟨t,k,e⟩:=two_split hw
  have ht:t<64:=by
   have h1:2^t*1≤2^t*(2*k+1):=Nat.mul_le_mul_left _ (by omega)
   exact (Nat.pow_lt_pow_iff_right (a:=2) (by decide)).1 (by omega)
  have hv:n=(2^64)^i*((dg (2^64) n).getD i 0+2^64*nv (2^64) ((dg (2^64) n).drop (i+1))):=by
   have h1:=nv_split (2^64) (dg (2^64) n) i hi
   rw [hnv,hz,Nat.zero_add,nv_drop_next _ _ _ hlt] at h1
   exact h1
  rw [word_split e ht] at hv
  have htz:tz n=64*i+t:=by rw [hv]; exact tz_of _ _
  rw [htz,show (64*i+t)/64=i by omega]
theorem T100_eq (s:Bool) (l:List Nat) (hl:Ws l) (e:Int) (he:-100000000≤e∧e≤100000000) :
  T100 ((s,Wd l,e,()),())=some (if nv (2^64) l=0 then dy false 0 0 else dy s (nv (2^64) l/2^tz (nv (2^64) l)) (e+tz (nv (2^64) l)),()):=by
 show t100 S102.pre S102.F S92.pre S92.F S141.pre S141.F W100_5 (s,Wd l,e,())=_
 unfold t100
 dsimp only
 have p0:=T102_eq l hl
 simp only [pre102 p0,fun102 p0,cond_true]
 have hlt:=nv_lt (B:=2^64) (by decide) l hl.1
 have hll:=hl.2
 generalize hn:nv (2^64) l=n at *
 have hdl:(dg (2^64) n).length≤1000000:=Nat.le_trans (dg_len_le (by decide) _ _ hlt) hll
 by_cases h0:n=0
 ·subst h0
  rw [Dw_zero,if_pos rfl,dy_zero]; rfl
 ·have hlen:(((Dw n).length:Int)==0)=false:=beq0_f _ (by have:=Dw_len h0; omega)
  rw [hlen,cond_false,if_neg h0]
  have hw:=W100_eq n h0 hdl ((s,Wd l,e,()),(false,[],0,()),())
  rw [show W100_5 (((0:Int),(Dw n,((),((),())))),((s,Wd l,e,()),((false,([],((0:Int),()))),())))=_ from hw]
  dsimp only [obind,obind2]
  obtain ⟨k,hk⟩:=tz_split h0
  have htl:tz n/64<(dg (2^64) n).length:=by
   rcases Nat.lt_or_ge (tz n/64) (dg (2^64) n).length with h | h
   ·exact h
   ·exfalso
    have h1:=dg_len_gt (B:=2^64) (by decide) n
    rw [pow64] at h1
    have h2:2^(64*(dg (2^64) n).length)≤2^tz n:=Nat.pow_le_pow_right (by decide) (by omega)
    have h3:2^tz n*1≤2^tz n*(2*k+1):=Nat.mul_le_mul_left _ (by omega)
    omega
  have hword:∃ k',(dg (2^64) n).getD (tz n/64) 0=2^(tz n%64)*(2*k'+1):=by
   have h1:(dg (2^64) n).getD (tz n/64) 0=n/(2^64)^(tz n/64)%2^64:=by
    have h2:dg (2^64) n=pd (2^64) (dg (2^64) n).length n:=pd_at (by decide) (dg_lt (by decide) n) rfl (nv_Dw n)
    rw [h2,pd_get _ _ _ _ htl]
   have h3:n/(2^64)^(tz n/64)=2^(tz n%64)*(2*k+1):=by
    have h4:2^tz n=(2^64)^(tz n/64)*2^(tz n%64):=by rw [pow64,← Nat.pow_add]; congr 1; omega
    have h5:n=(2^64)^(tz n/64)*(2^(tz n%64)*(2*k+1)):=by rw [← Nat.mul_assoc,← h4]; exact hk
    have h6:=Nat.mul_div_cancel_left (2^(tz n%64)*(2*k+1)) (show 0<(2^64)^(tz n/64) from Nat.pow_pos (by decide))
    rw [← h5] at h6
    exact h6
   rw [h1,h3]
   have hr:tz n%64<64:=Nat.mod_lt _ (by decide)
   generalize tz n%64=r at *
   have h6:2^64=2^r*(2^(64-r-1)*2):=by rw [← Nat.pow_succ,← Nat.pow_add]; congr 1; omega
   rw [h6,Nat.mul_mod_mul_left]
   refine ⟨(2*k+1)%(2^(64-r-1)*2)/2,?_⟩
   congr 1
   have h7:(2*k+1)%(2^(64-r-1)*2)%2=(2*k+1)%2:=Nat.mod_mod_of_dvd _ ⟨_,Nat.mul_comm _ _⟩
   omega
  obtain ⟨k',hk'⟩:=hword
  have hwl:=getD_lt (B:=2^64) (by decide) (dg_lt (by decide) n) (tz n/64)
  have p1:=T92_eq (t:=tz n%64) (k:=k') (by rw [← hk']; exact hwl)
  rw [← hk'] at p1
  have p2:=T141_eq (dg (2^64) n) (dg_ws n hdl) (tz n) (by omega)
  rw [nv_Dw] at p2
  have e1:IntKind.wrap .i64 (((64*(tz n/64):Nat):Int)+((tz n%64:Nat):Int))=(tz n:Int):=by rw [wrapI (by omega)]; omega
  have e2:IntKind.wrap .i64 (e+(tz n:Int))=e+(tz n:Int):=wrapI (by omega)
  have hg:decide (((tz n/64:Nat):Int)<((dg (2^64) n).length:Int))=true:=decide_eq_true (by omega)
  unfold Dw at *
  simp (disch:=omega) only [quo64m,wadd,wadd1,wadd64,wsubn,wsub1,wmul64,ilt_t,ilt_f,ile_t,ile_f,igt_t,igt_f,ige_t,ige_f,ipos_t,ipos_f,igt0_t,igt0_f,nnn,beq0_t,beq0_f,bne0_t,bne0_f,Int.toNat_natCast,Int.toNat_zero,cond_true,cond_false,Bool.and_self,Bool.true_and,Bool.and_true,Bool.false_and,Bool.and_false,Bool.not_true,Bool.not_false,Bool.or_self,Bool.true_or,Bool.or_true,Bool.false_or,Bool.or_false,Wd_len,Wd_getD,pre92 p1,fun92 p1,e1,pre141 p2,fun141 p2,e2]
  rfl
theorem T100_dy (s:Bool) {n:Nat} (hn:n<(2^64)^5000) (e:Int) (he:-100000000≤e∧e≤100000000) :
  T100 (dy s n e,())=some (if n=0 then dy false 0 0 else dy s (n/2^tz n) (e+tz n),()):=by
 have:=T100_eq s (dg (2^64) n) (Dw_ws hn) e he
 rw [nv_Dw] at this
 exact this
theorem tz_odd (k:Nat):tz (2*k+1)=0:=by have:=tz_of 0 k; rwa [Nat.pow_zero,Nat.one_mul] at this
end VL
namespace VL
open Go Vx
theorem W144_eq (a b:List Nat) (ha:∀ x∈a,x<2^64) (hb:∀ x∈b,x<2^64) (hla:a.length≤1000000) (hab:a.length=b.length) :
  W144_7 ((Wd a,(Wd b,((a.length:Int)-1,()))),())=some (if nv (2^64) a=nv (2^64) b then .inl ((),()) else .inr (((if nv (2^64) a<nv (2^64) b then (-1:Int) else 1),()),())):=by
 have key:=lfix_ind (m144_7 S173.pre S173.F) (fun x=>(x.1.2.2.1+1).toNat)
  (fun x=>∃ j:Nat,j≤a.length∧nv (2^64) (a.drop j)=nv (2^64) (b.drop j)∧x=((Wd a,(Wd b,((j:Int)-1,()))),()))
  (fun _=>if nv (2^64) a=nv (2^64) b then .inl ((),()) else .inr (((if nv (2^64) a<nv (2^64) b then (-1:Int) else 1),()),())) ?_ ((Wd a,(Wd b,((a.length:Int)-1,()))),())
  ⟨a.length,Nat.le_refl _,by rw [List.drop_length,hab,List.drop_length],rfl⟩
 ·exact key
 intro L x hx hL
 obtain ⟨j,hj,hd,rfl⟩:=hx
 unfold h144_7
 rcases j with _ | i
 ·have e1:decide ((((0:Nat):Int)-1)≥0)=false:=rfl
  rw [List.drop_zero,List.drop_zero] at hd
  simp only [e1,cond_false,if_pos hd]
 ·have e0:(((i+1:Nat):Int)-1)=(i:Int):=by omega
  have e2:IntKind.wrap .i64 ((i:Int)-1)=(i:Int)-1:=wrapI (by omega)
  have e3:decide ((i:Int)≥0)=true:=decide_eq_true (by omega)
  simp (disch:=omega) only [e0,e2,e3,wadd,wadd1,wadd64,wsubn,wsub1,wmul64,ilt_t,ilt_f,ile_t,ile_f,igt_t,igt_f,ige_t,ige_f,ipos_t,ipos_f,igt0_t,igt0_f,nnn,beq0_t,beq0_f,bne0_t,bne0_f,Int.toNat_natCast,Int.toNat_zero,cond_true,cond_false,Bool.and_self,Bool.true_and,Bool.and_true,Bool.false_and,Bool.and_false,Bool.not_true,Bool.not_false,Bool.or_self,Bool.true_or,Bool.or_true,Bool.false_or,Bool.or_false,Wd_len,Wd_getD]
  rcases Nat.lt_trichotomy (a.getD i 0) (b.getD i 0) with h | h | h
  ·have hr:=row_lt (by decide) ha (by omega) (by omega) hd h
   simp (disch:=omega) only [wadd,wadd1,wadd64,wsubn,wsub1,wmul64,ilt_t,ilt_f,ile_t,ile_f,igt_t,igt_f,ige_t,ige_f,ipos_t,ipos_f,igt0_t,igt0_f,nnn,beq0_t,beq0_f,bne0_t,bne0_f,Int.toNat_natCast,Int.toNat_zero,cond_true,cond_false,Bool.and_self,Bool.true_and,Bool.and_true,Bool.false_and,Bool.and_false,Bool.not_true,Bool.not_false,Bool.or_self,Bool.true_or,Bool.or_true,Bool.false_or,Bool.or_false]
   rw [if_neg (by omega),if_pos hr]
  ·simp (disch:=omega) only [wadd,wadd1,wadd64,wsubn,wsub1,wmul64,ilt_t,ilt_f,ile_t,ile_f,igt_t,igt_f,ige_t,ige_f,ipos_t,ipos_f,igt0_t,igt0_f,nnn,beq0_t,beq0_f,bne0_t,bne0_f,Int.toNat_natCast,Int.toNat_zero,cond_true,cond_false,Bool.and_self,Bool.true_and,Bool.and_true,Bool.false_and,Bool.and_false,Bool.not_true,Bool.not_false,Bool.or_self,Bool.true_or,Bool.or_true,Bool.false_or,Bool.or_false]
   refine hL _ ⟨i,by omega,?_,rfl⟩ (by simp only [Int.toNat_natCast]; omega)
   rw [nv_drop_next _ a i (by omega),nv_drop_next _ b i (by omega),hd,h]
  ·have hr:=row_lt (by decide) hb (by omega) (by omega) hd.symm h
   simp (disch:=omega) only [wadd,wadd1,wadd64,wsubn,wsub1,wmul64,ilt_t,ilt_f,ile_t,ile_f,igt_t,igt_f,ige_t,ige_f,ipos_t,ipos_f,igt0_t,igt0_f,nnn,beq0_t,beq0_f,bne0_t,bne0_f,Int.toNat_natCast,Int.toNat_zero,cond_true,cond_false,Bool.and_self,Bool.true_and,Bool.and_true,Bool.false_and,Bool.and_false,Bool.not_true,Bool.not_false,Bool.or_self,Bool.true_or,Bool.or_true,Bool.false_or,Bool.or_false]
   rw [if_neg (by omega),if_neg (by omega)]
theorem T173_dw {x:Nat} (hx:x<(2^64)^5000):T173 (Dw x,())=some (Dw x,()):=by
 have:=T173_eq (dg (2^64) x) (Dw_ws hx).2
 rw [dg_trim (by decide)] at this
 exact this
theorem T144_eq {x y:Nat} (hx:x<(2^64)^5000) (hy:y<(2^64)^5000):T144 (Dw x,Dw y,())=some (if x=y then 0 else if x<y then -1 else 1,()):=by
 show t144 S173.pre S173.F W144_7 (Dw x) (Dw y)=_
 unfold t144
 have p0:=T173_dw hx
 have p1:=T173_dw hy
 have hX:=Dw_ws hx
 have hY:=Dw_ws hy
 have hlx:=hX.2
 simp only [pre173 p0,fun173 p0,pre173 p1,fun173 p1,cond_true]
 clear p0 p1
 rcases Nat.lt_trichotomy (dg (2^64) x).length (dg (2^64) y).length with h | h | h
 ·have hr:=dg_len_lt (by decide) h
  unfold Dw
  simp (disch:=omega) only [wadd,wadd1,wadd64,wsubn,wsub1,wmul64,ilt_t,ilt_f,ile_t,ile_f,igt_t,igt_f,ige_t,ige_f,ipos_t,ipos_f,igt0_t,igt0_f,nnn,beq0_t,beq0_f,bne0_t,bne0_f,Int.toNat_natCast,Int.toNat_zero,cond_true,cond_false,Bool.and_self,Bool.true_and,Bool.and_true,Bool.false_and,Bool.and_false,Bool.not_true,Bool.not_false,Bool.or_self,Bool.true_or,Bool.or_true,Bool.false_or,Bool.or_false,Wd_len]
  rw [if_neg (by omega),if_pos hr]
 ·have hw:=W144_eq _ _ hX.1 hY.1 hlx h
  rw [nv_Dw,nv_Dw] at hw
  have e2:IntKind.wrap .i64 (((dg (2^64) x).length:Int)-1)=((dg (2^64) x).length:Int)-1:=wrapI (by omega)
  unfold Dw
  simp (disch:=omega) only [wadd,wadd1,wadd64,wsubn,wsub1,wmul64,ilt_t,ilt_f,ile_t,ile_f,igt_t,igt_f,ige_t,ige_f,ipos_t,ipos_f,igt0_t,igt0_f,nnn,beq0_t,beq0_f,bne0_t,bne0_f,Int.toNat_natCast,Int.toNat_zero,cond_true,cond_false,Bool.and_self,Bool.true_and,Bool.and_true,Bool.false_and,Bool.and_false,Bool.not_true,Bool.not_false,Bool.or_self,Bool.true_or,Bool.or_true,Bool.false_or,Bool.or_false,Wd_len,e2,hw]
  by_cases he:x=y
  ·rw [if_pos he,if_pos he]; first | rfl | skip
  ·rw [if_neg he,if_neg he]; first | rfl | skip
 ·have hr:=dg_len_lt (by decide) h
  unfold Dw
  simp (disch:=omega) only [wadd,wadd1,wadd64,wsubn,wsub1,wmul64,ilt_t,ilt_f,ile_t,ile_f,igt_t,igt_f,ige_t,ige_f,ipos_t,ipos_f,igt0_t,igt0_f,nnn,beq0_t,beq0_f,bne0_t,bne0_f,Int.toNat_natCast,Int.toNat_zero,cond_true,cond_false,Bool.and_self,Bool.true_and,Bool.and_true,Bool.false_and,Bool.and_false,Bool.not_true,Bool.not_false,Bool.or_self,Bool.true_or,Bool.or_true,Bool.false_or,Bool.or_false,Wd_len]
  rw [if_neg (by omega),if_neg (by omega)]
theorem set_drop {out a:List Nat} {i v:Nat} (hol:out.length=i) (h:i<a.length):(out++a.drop i).set i v=(out++[v])++a.drop (i+1):=by
 rw [List.set_append_right _ _ (by omega),hol,Nat.sub_self,List.drop_eq_getElem_cons h,List.set_cons_zero,List.append_assoc]
 rfl
theorem get_drop {out a:List Nat} {i:Nat} (hol:out.length=i):(out++a.drop i).getD i 0=a.getD i 0:=by
 rw [List.getD_eq_getElem?_getD,List.getElem?_append_right (by omega),hol,Nat.sub_self,List.getElem?_drop,Nat.add_zero,← List.getD_eq_getElem?_getD]
theorem W1174_eq (a b:List Nat) (ha:∀ x∈a,x<2^64) (hb:∀ x∈b,x<2^64) (hla:a.length≤1000000) (hba:b.length≤a.length) (hv:nv (2^64) b≤nv (2^64) a) :
  W1174_3 (((a.length:Int),(Wd b,((0:Int),((0:Int),((),()))))),(Wd a,()))=some (.inl (((),()),(Wd (pd (2^64) a.length (nv (2^64) a-nv (2^64) b)),()))):=by
 have key:=lfix_ind (m1174_3 S1173.pre S1173.F S157.pre S157.F S173.pre S173.F) (fun x=>a.length-x.1.2.2.2.1.toNat)
  (fun x=>∃ (i:Nat) (out:List Nat) (c:Nat),i≤a.length∧out.length=i∧(∀ x∈out,x<2^64)∧c≤1∧nv (2^64) (a.take i)+(2^64)^i*c=nv (2^64) (b.take i)+nv (2^64) out ∧
   x=(((a.length:Int),(Wd b,((c:Int),((i:Int),((),()))))),(Wd (out++a.drop i),())))
  (fun _=>.inl (((),()),(Wd (pd (2^64) a.length (nv (2^64) a-nv (2^64) b)),()))) ?_ (((a.length:Int),(Wd b,((0:Int),((0:Int),((),()))))),(Wd a,()))
  ⟨0,[],0,Nat.zero_le _,rfl,(fun x hx=>by simp at hx),by decide,by simp [nv],rfl⟩
 ·exact key
 intro L x hx hL
 obtain ⟨i,out,c,hi,hol,hod,hc,hov,rfl⟩:=hx
 unfold h1174_3
 rcases Nat.lt_or_ge i a.length with hlt | hge
 ·have hxa:=getD_lt (by decide) ha i
  have hxb:=getD_lt (by decide) hb i
  have hna:=nv_take_next (2^64) a i
  have hnb:=nv_take_next (2^64) b i
  have hzb:b.length≤i→b.getD i 0=0:=fun h=>by rw [List.getD_eq_getElem?_getD,List.getElem?_eq_none h]; rfl
  have hset:=fun v=>set_drop (v:=v) hol hlt
  have hlen:(out++a.drop i).length=a.length:=by simp; omega
  have hget:=get_drop (a:=a) hol
  generalize hda:a.getD i 0=da at *
  generalize hdb:b.getD i 0=db at *
  have hgo:∀ c' v:Nat,c'≤1→v<2^64→da+2^64*c'=db+c+v→L (((a.length:Int),(Wd b,((c':Int),(((i+1:Nat):Int),((),()))))),(Wd (out++[v]++a.drop (i+1)),()))=_:=fun c' v h1 h2 h3 =>
   hL _ ⟨i+1,out++[v],c',by omega,by simp; omega,app_lt hod h2,h1,by
    rw [hna,hnb,nv_snoc,hol,Nat.pow_succ]
    exact minus_step hov h3,rfl⟩ (by simp only [Int.toNat_natCast]; omega)
  have hgo2:=hgo (if da<db+c then 1 else 0) ((da+2^64-db-c)%2^64) (by split <;> omega) (Nat.mod_lt _ (by decide)) (by split <;> omega)
  have hF:=subF da db c hc hxa hxb
  have hP:=subP (da:Int) (db:Int) c hc
  rcases Nat.lt_or_ge i b.length with hib | hib
  ·simp (disch:=omega) only [wadd,wadd1,wadd64,wsubn,wsub1,wmul64,ilt_t,ilt_f,ile_t,ile_f,igt_t,igt_f,ige_t,ige_f,ipos_t,ipos_f,igt0_t,igt0_f,nnn,beq0_t,beq0_f,bne0_t,bne0_f,Int.toNat_natCast,Int.toNat_zero,cond_true,cond_false,Bool.and_self,Bool.true_and,Bool.and_true,Bool.false_and,Bool.and_false,Bool.not_true,Bool.not_false,Bool.or_self,Bool.true_or,Bool.or_true,Bool.false_or,Bool.or_false,Wd_len,Wd_getD,hdb,hget,hF,hP,hlen,Wd_set,hset]
   exact hgo2
  ·have h0:=hzb hib
   rw [h0] at hF hP
   simp (disch:=omega) only [wadd,wadd1,wadd64,wsubn,wsub1,wmul64,ilt_t,ilt_f,ile_t,ile_f,igt_t,igt_f,ige_t,ige_f,ipos_t,ipos_f,igt0_t,igt0_f,nnn,beq0_t,beq0_f,bne0_t,bne0_f,Int.toNat_natCast,Int.toNat_zero,cond_true,cond_false,Bool.and_self,Bool.true_and,Bool.and_true,Bool.false_and,Bool.and_false,Bool.not_true,Bool.not_false,Bool.or_self,Bool.true_or,Bool.or_true,Bool.false_or,Bool.or_false,Wd_len,Wd_getD,hget]
   have hF':S157.F ((da:Int),((0:Int),((c:Int),())))=_:=hF
   have hP':S157.pre ((da:Int),((0:Int),((c:Int),())))=true:=hP
   rw [h0] at hgo2
   simp (disch:=omega) only [wadd,wadd1,wadd64,wsubn,wsub1,wmul64,ilt_t,ilt_f,ile_t,ile_f,igt_t,igt_f,ige_t,ige_f,ipos_t,ipos_f,igt0_t,igt0_f,nnn,beq0_t,beq0_f,bne0_t,bne0_f,Int.toNat_natCast,Int.toNat_zero,cond_true,cond_false,Bool.and_self,Bool.true_and,Bool.and_true,Bool.false_and,Bool.and_false,Bool.not_true,Bool.not_false,Bool.or_self,Bool.true_or,Bool.or_true,Bool.false_or,Bool.or_false,hF',hP',hlen,Wd_set,hset]
   exact hgo2
 ·have e:i=a.length:=by omega
  subst e
  rw [List.take_length,List.take_of_length_le hba] at hov
  have hlt:=nv_lt (B:=2^64) (by decide) out hod
  rw [hol] at hlt
  have hc0:(2^64)^a.length*c=0:=by
   rcases (show c=0∨c=1 by omega) with h | h
   ·rw [h,Nat.mul_zero]
   ·rw [h,Nat.mul_one] at hov; omega
  have ho:=pd_at (B:=2^64) (v:=nv (2^64) a-nv (2^64) b) (by decide) hod hol (by omega)
  rw [List.drop_length,List.append_nil]
  simp (disch:=omega) only [wadd,wadd1,wadd64,wsubn,wsub1,wmul64,ilt_t,ilt_f,ile_t,ile_f,igt_t,igt_f,ige_t,ige_f,ipos_t,ipos_f,igt0_t,igt0_f,nnn,beq0_t,beq0_f,bne0_t,bne0_f,Int.toNat_natCast,Int.toNat_zero,cond_true,cond_false,Bool.and_self,Bool.true_and,Bool.and_true,Bool.false_and,Bool.and_false,Bool.not_true,Bool.not_false,Bool.or_self,Bool.true_or,Bool.or_true,Bool.false_or,Bool.or_false,Wd_len]
  rw [← ho]
theorem T1146_eq (l:List Nat) (hl:Ws l):T1146 (Wd l,())=some (Dw (nv (2^64) l),()):=by
 show t1146 S173.pre S173.F (Wd l)=_
 unfold t1146
 have p0:=T173_eq l hl.2
 have hle:=(trim_len l).1
 have h2:=hl.2
 have e3:decide ((((trimL l).length:Nat):Int)*8≤140737488355328)=true:=decide_eq_true (by omega)
 simp (disch:=omega) only [wadd,wadd1,wadd64,wsubn,wsub1,wmul64,ilt_t,ilt_f,ile_t,ile_f,igt_t,igt_f,ige_t,ige_f,ipos_t,ipos_f,igt0_t,igt0_f,nnn,beq0_t,beq0_f,bne0_t,bne0_f,Int.toNat_natCast,Int.toNat_zero,cond_true,cond_false,Bool.and_self,Bool.true_and,Bool.and_true,Bool.false_and,Bool.and_false,Bool.not_true,Bool.not_false,Bool.or_self,Bool.true_or,Bool.or_true,Bool.false_or,Bool.or_false,pre173 p0,fun173 p0,Wd_len,e3,List.length_replicate,List.drop_replicate,Nat.sub_self]
 rw [List.take_of_length_le (by rw [Wd_len]; exact Nat.le_refl _),List.replicate_zero,List.append_nil,trim_dg (by decide) l hl.1]
 rfl
theorem T145_eq {x y:Nat} (hx:x<(2^64)^5000) (h:y≤x):T145 (Dw x,Dw y,())=some (Dw (x-y),0,()):=by
 show t145 S1174.pre S1174.F S1146.pre S1146.F S144.pre S144.F S146.pre S146.F S173.pre S173.F S174.pre S174.F (Dw x) (Dw y)=_
 unfold t145
 have hy:y<(2^64)^5000:=Nat.lt_of_le_of_lt h hx
 have p0:=T144_eq hx hy
 have p1:=T1146_eq (dg (2^64) x) (Dw_ws hx)
 rw [nv_Dw] at p1
 have p1:T1146 (Dw x,())=some (Dw x,()):=p1
 have p2:=T173_dw hy
 have z1:decide ((if x=y then (0:Int) else if x<y then -1 else 1)<0)=false:=by
  by_cases he:x=y
  ·rw [if_pos he]; rfl
  ·rw [if_neg he,if_neg (by omega)]; rfl
 have hX:=Dw_ws hx
 have hY:=Dw_ws hy
 have hlx:=hX.2
 have p3:T1174 (Dw x,Dw y,())=some (Dw (x-y),()):=by
  show t1174 S1173.pre S1173.F S157.pre S157.F S173.pre S173.F W1174_3 (Dw x) (Dw y)=_
  unfold t1174
  have hw:=W1174_eq (dg (2^64) x) (dg (2^64) y) hX.1 hY.1 hlx (dg_len_mono (by decide) h) (by rw [nv_Dw,nv_Dw]; exact h)
  rw [nv_Dw,nv_Dw] at hw
  have q1:=T1173_eq (pd (2^64) (dg (2^64) x).length (x-y)) (by rw [pd_len]; exact hlx)
  have hlt:=dg_len_gt (B:=2^64) (by decide) x
  rw [trim_dg (by decide) _ (pd_lt (by decide) _ _),pd_nv (by decide) _ _ (by omega)] at q1
  rw [show (Dw x).length=(dg (2^64) x).length from Wd_len _]
  rw [show W1174_3 ((((dg (2^64) x).length:Int),(Dw y,((0:Int),((0:Int),((),()))))),(Dw x,()))=_ from hw]
  show (bif S1173.pre (Wd (pd (2^64) (dg (2^64) x).length (x-y)),()) then some (S1173.F (Wd (pd (2^64) (dg (2^64) x).length (x-y)),())) else none)=_
  simp only [pre1173 q1,fun1173 q1,cond_true]
  rfl
 simp only [pre144 p0,fun144 p0,cond_true,z1,cond_false,pre1146 p1,fun1146 p1,pre173 p2,fun173 p2,pre1174 p3,fun1174 p3]
def od (s:Bool) (n:Nat) (e:Int):Bool×Nat×Int:=if n=0 then (false,0,0) else (s,n/2^tz n,e+tz n)
def dyO (t:Bool×Nat×Int):Dya:=dy t.1 t.2.1 t.2.2
theorem od_dy (s:Bool) (n:Nat) (e:Int):(if n=0 then dy false 0 0 else dy s (n/2^tz n) (e+tz n))=dyO (od s n e):=by
 unfold od dyO
 split <;> rfl
theorem od_cases (s:Bool) (n:Nat) (e:Int):(od s n e=(false,0,0)∧n=0)∨((od s n e).1=s∧(od s n e).2.1%2=1∧n≠0∧n=2^tz n*(od s n e).2.1∧(od s n e).2.2=e+tz n):=by
 unfold od
 by_cases h:n=0
 ·rw [if_pos h]; exact .inl ⟨rfl,h⟩
 ·right
  rw [if_neg h]
  obtain ⟨k,hk⟩:=tz_split h
  have hd:n/2^tz n=2*k+1:=by
   have:=Nat.mul_div_cancel_left (2*k+1) (Nat.two_pow_pos (tz n))
   rw [← hk] at this
   exact this
  dsimp only
  rw [hd]
  exact ⟨rfl,by omega,h,hk,rfl⟩
theorem tz_le {n k:Nat} (h:n<2^k) (h0:n≠0):tz n<k:=by
 obtain ⟨j,hj⟩:=tz_split h0
 have h1:2^tz n*1≤2^tz n*(2*j+1):=Nat.mul_le_mul_left _ (by omega)
 exact (Nat.pow_lt_pow_iff_right (a:=2) (by decide)).1 (by omega)
theorem od_bound (s:Bool) {n k:Nat} (e:Int) (hn:n<2^k) (he:-20000≤e∧e≤20000):(od s n e).2.1<2^k∧-20000≤(od s n e).2.2∧(od s n e).2.2≤20000+k:=by
 rcases od_cases s n e with ⟨h,_⟩ | ⟨_,h2,h3,h4,h5⟩
 ·rw [h]; exact ⟨Nat.two_pow_pos _,by dsimp only; omega,by dsimp only; omega⟩
 ·have hle:(od s n e).2.1≤n:=by
   have:=Nat.le_mul_of_pos_left (od s n e).2.1 (Nat.two_pow_pos (tz n))
   omega
  have:=tz_le hn h3
  refine ⟨by omega,by omega,by omega⟩
theorem big_lt {n k:Nat} (h:n<2^k) (hk:k≤64*2000):n<(2^64)^2000:=by
 rw [pow64]
 exact Nat.lt_of_lt_of_le h (Nat.pow_le_pow_right (by decide) hk)
theorem dy_len {n k:Nat} (h:n<2^k) (hk:k≤64*1000):(Dw n).length≤1000:=by
 unfold Dw; rw [Wd_len]
 refine dg_len_le (by decide) _ _ ?_
 rw [pow64]
 exact Nat.lt_of_lt_of_le h (Nat.pow_le_pow_right (by decide) hk)
theorem T103_ok (s:Bool) {n k:Nat} (h:n<2^k) (hk:k≤64*1000) (e:Int) (he:-40000≤e∧e≤40000):T103 (dy s n e,())=some (0,()):=by
 show t103 (s,Dw n,e,())=_
 unfold t103
 have:=dy_len h hk
 dsimp only
 rw [decide_eq_false (p:=((Dw n).length:Int)>1024) (by omega),decide_eq_false (p:=e < -40000) (by omega),decide_eq_false (p:=e>40000) (by omega)]
 rfl
theorem T104_ok (s:Bool) {n:Nat} (h:n<2^6000) (e:Int) (he:-20000≤e∧e≤20000):T104 (dy s n e,())=some (dyO (od s n e),0,()):=by
 show t104 S100.pre S100.F (s,Dw n,e,())=_
 unfold t104
 have p0:=T100_dy s (lt5000 (big_lt h (by decide))) e (by omega)
 rw [od_dy] at p0
 have p0:T100 ((s,Dw n,e,()),())=some (dyO (od s n e),()):=p0
 have hb:=od_bound s e h he
 have hl:=dy_len hb.1 (by decide)
 have e1:decide ((((dyO (od s n e)).2.1.length:Nat):Int)>1024)=false:=decide_eq_false (by
  show ¬ ((((Dw (od s n e).2.1).length:Nat):Int)>1024)
  omega)
 have e2:decide ((dyO (od s n e)).2.2.1 < -40000)=false:=decide_eq_false (by
  show ¬ ((od s n e).2.2 < -40000)
  omega)
 have e3:decide ((dyO (od s n e)).2.2.1>40000)=false:=decide_eq_false (by
  show ¬ ((od s n e).2.2>40000)
  omega)
 simp only [pre100 p0,fun100 p0,cond_true,e1,e2,e3,cond_false,Bool.or_self]
theorem T143_dw {x y:Nat} (hx:x<(2^64)^5000) (hy:y<(2^64)^5000):T143 (Dw x,Dw y,())=some (Dw (x+y),()):=by
 have h1:(dg (2^64) x).length≤5000:=dg_len_le (by decide) _ _ hx
 have h2:(dg (2^64) y).length≤5000:=dg_len_le (by decide) _ _ hy
 have:=T143_eq (dg (2^64) x) (dg (2^64) y) (Dw_ws hx) (Dw_ws hy) (by rw [dg_trim (by decide)]; omega) (by rw [dg_trim (by decide)]; omega)
 rw [nv_Dw,nv_Dw] at this
 exact this
end VL
namespace VL
open Go Vx
theorem Dw_small {x:Nat} (h0:x≠0) (h:x<2^64):Dw x=(x:Int)::[]:=by
 unfold Dw
 rw [dg_pos (by decide) (by omega),Nat.mod_eq_of_lt h,Nat.div_eq_of_lt h,dg_zero]; rfl
theorem T40_fin {f:Int} {a:Nat} (h:chk f a=0) (hfin:eF f a≠fullF f):T40 (f,(a:Int),())=some (dyO (od (sF f a) (mant f a) (xpn f a)),0,()):=by
 obtain ⟨hf,h0⟩:=chk_zero h
 have ha:=pat_lt h
 show t40 S66.pre S66.F S90.pre S90.F S91.pre S91.F S92.pre S92.F f a=_
 unfold t40
 have h1:=fP_ge hf
 have h2:=fP_lt hf
 have h3:=fW_le hf
 have h4:=fX_le hf
 have h5:=fP_le hf
 have h6:=fX_ge hf
 have hE:=eF_lt hf a
 have hM:=mF_lt f a
 have hPp:2^(fP f-1)≤2^52:=Nat.pow_le_pow_right (by decide) (by omega)
 have hpp:=Nat.two_pow_pos (fP f-1)
 have p0:=T66_eq f a ha
 have p1:=T91_eq (fW f-fP f) (by omega)
 have p2:=T90_eq hf a ha
 have hr1:decide (0≤f)=true:=decide_eq_true hf.1
 have hr2:decide (f<((4:Nat):Int))=true:=decide_eq_true hf.2
 have r1:(rowOf f).1=(fW f:Int):=rfl
 have r2:(rowOf f).2.1=(fP f:Int):=rfl
 have r3:(rowOf f).2.2.1=1-(fX f:Int):=rfl
 have e1:IntKind.wrap .i64 ((fW f:Int)-(fP f:Int))=((fW f-fP f:Nat):Int):=wsubn _ _ (by omega)
 have e2:IntKind.wrap .i64 ((fP f:Int)-1)=((fP f-1:Nat):Int):=wsub1 _ (by omega)
 have e3:shlI .u64 1 ((fP f-1:Nat):Int)=((2^(fP f-1):Nat):Int):=shlI_one (by omega)
 have e4:orI .u64 (mF f a:Int) ((2^(fP f-1):Nat):Int)=((mF f a+2^(fP f-1):Nat):Int):=by
  have:=orN (a:=mF f a) (b:=1) (k:=fP f-1) hM (by omega)
  rwa [Nat.one_mul] at this
 have hfl:(((eF f a:Nat):Int)==((2^(fW f-fP f)-1:Nat):Int))=false:=by
  rw [nbeq]; exact beq_eq_false_iff_ne.2 hfin
 have ew:∀ z:Int,-1000000≤z∧z≤1000000→IntKind.wrap .i64 z=z:=fun z hz=>wrapI (by omega)
 simp only [row_at hf,r1,r2,r3,hr1,hr2,pre66 p0,fun66 p0,pre90 p2,fun90 p2,h,cond_true,bne_self_eq_false,cond_false,e1,e2,e3,e4,pre91 p1,fun91 p1,hfl,nnn]
 by_cases hz:eF f a=0
 ·have hg:(((eF f a:Nat):Int)==0)=true:=beq0_t _ hz
  have hm:mant f a=mF f a:=by unfold mant; rw [if_pos hz]
  have hx:xpn f a=1-(fX f:Int)-(fP f:Int)+1:=by unfold xpn; rw [if_pos hz,Int.add_zero]
  rw [hg,cond_true,hm,hx]
  by_cases hm0:mF f a=0
  ·rw [beq0_t _ hm0,cond_true]
   unfold od dyO
   rw [if_pos hm0,dy_zero]
  ·obtain ⟨k,hk⟩:=tz_split hm0
   have htl:=tz_le (n:=mF f a) (k:=53) (by omega) hm0
   have p3:=T92_eq (t:=tz (mF f a)) (k:=k) (by omega)
   rw [← hk] at p3
   have hq:mF f a/2^tz (mF f a)≠0:=by
    have:=Nat.mul_div_cancel_left (2*k+1) (Nat.two_pow_pos (tz (mF f a)))
    rw [← hk] at this
    omega
   have hql:=Nat.div_le_self (mF f a) (2^tz (mF f a))
   rw [beq0_f _ hm0,cond_false]
   simp only [pre92 p3,fun92 p3,cond_true,nnn,shrN (mF f a) (tz (mF f a)) (by omega)]
   rw [← Dw_small hq (by omega)]
   unfold od dyO dy
   rw [if_neg hm0]
   rw [ew 1 (by omega),ew (1-1) (by omega),ew (1-1+_) (by omega),ew (1-1+_-_) (by omega),ew (1-1+_-_+1) (by omega),ew _ (by omega)]
   rw [show (1:Int)-1+(1-(fX f:Int))-(fP f:Int)+1+(tz (mF f a):Int)=1-(fX f:Int)-(fP f:Int)+1+(tz (mF f a):Int) by omega]
 ·have hg:(((eF f a:Nat):Int)==0)=false:=beq0_f _ hz
  have hm:mant f a=mF f a+2^(fP f-1):=by unfold mant; rw [if_neg hz]
  have hx:xpn f a=1-(fX f:Int)-(fP f:Int)+1+((eF f a:Int)-1):=by unfold xpn; rw [if_neg hz]
  rw [hg,cond_false,hm,hx]
  have hm0:mF f a+2^(fP f-1)≠0:=by omega
  have hml:mF f a+2^(fP f-1)<2^54:=by omega
  generalize mF f a+2^(fP f-1)=n at *
  obtain ⟨k,hk⟩:=tz_split hm0
  have htl:=tz_le hml hm0
  have p3:=T92_eq (t:=tz n) (k:=k) (by rw [← hk]; omega)
  rw [← hk] at p3
  have hq:n/2^tz n≠0:=by
   have:=Nat.mul_div_cancel_left (2*k+1) (Nat.two_pow_pos (tz n))
   rw [← hk] at this
   omega
  have hql:=Nat.div_le_self n (2^tz n)
  rw [beq0_f _ hm0,cond_false]
  simp only [pre92 p3,fun92 p3,cond_true,nnn,shrN n (tz n) (by omega)]
  rw [← Dw_small hq (by omega)]
  unfold od dyO dy
  rw [if_neg hm0]
  rw [ew (eF f a:Int) (by omega),ew ((eF f a:Int)-1) (by omega),ew ((eF f a:Int)-1+_) (by omega),ew ((eF f a:Int)-1+_-_) (by omega),ew ((eF f a:Int)-1+_-_+1) (by omega),ew _ (by omega)]
  rw [show (eF f a:Int)-1+(1-(fX f:Int))-(fP f:Int)+1+(tz n:Int)=1-(fX f:Int)-(fP f:Int)+1+((eF f a:Int)-1)+(tz n:Int) by omega]
theorem od_bound2 (s:Bool) {n:Nat} (e:Int) (hn:n<2^53) (he:-2000≤e∧e≤2000):(od s n e).2.1<2^53∧-2500≤(od s n e).2.2∧(od s n e).2.2≤2500:=by
 rcases od_cases s n e with ⟨h,_⟩ | ⟨_,h2,h3,h4,h5⟩
 ·rw [h]; exact ⟨Nat.two_pow_pos _,by dsimp only; omega,by dsimp only; omega⟩
 ·have hle:(od s n e).2.1≤n:=by
   have:=Nat.le_mul_of_pos_left (od s n e).2.1 (Nat.two_pow_pos (tz n))
   omega
  have:=tz_le hn h3
  refine ⟨by omega,by omega,by omega⟩
end VL
namespace VL
open Go Vx
theorem qm_neg {f:Int} (hf:Fm f):qm f≤0:=by
 have:=fX_ge hf
 have:=fP_ge hf
 unfold qm; omega
theorem T51_eq {f m:Int} (hf:Fm f) (hm:0≤m∧m≤5) (s:Bool) {n:Nat} (hn:n<2^6000) (h0:n≠0) (hodd:n%2=1) (e:Int) (he:-20000≤e∧e≤20000) :
  T51 (f,m,dy s n e,())=some (((rndN f m s n e false).1:Int),((rndN f m s n e false).2:Int),0,()):=by
 show t51 S105.pre S105.F S106.pre S106.F S107.pre S107.F f m (s,Dw n,e,())=_
 unfold t51
 have p0:=T105_ok hf hm
 have q1:=T103_ok s hn (by decide) e (by omega)
 have q2:=T104_ok s hn e he
 have hod:od s n e=(s,n,e):=by
  obtain ⟨k,rfl⟩:∃ k,n=2*k+1:=⟨n/2,by omega⟩
  unfold od
  rw [if_neg (by omega),tz_odd,Nat.pow_zero,Nat.div_one,Int.natCast_zero,Int.add_zero]
 rw [hod] at q2
 have p1:T106 ((s,Dw n,e,()),())=some ((s,Dw n,e,()),0,()):=by
  show t106 S103.pre S103.F S104.pre S104.F (s,Dw n,e,())=_
  unfold t106
  have q1:T103 ((s,Dw n,e,()),())=some (0,()):=q1
  have q2:T104 ((s,Dw n,e,()),())=some ((s,Dw n,e,()),0,()):=q2
  simp only [pre103 q1,fun103 q1,pre104 q2,fun104 q2,cond_true,bne_self_eq_false,cond_false]
 have p2:=T107_eq s n e false f m hf (big_lt hn (by decide)) (by omega)
 have hlen:(((Dw n).length:Int)==0)=false:=beq0_f _ (by have:=Dw_len h0; omega)
 simp only [pre105 p0,fun105 p0,cond_true,bne_self_eq_false,cond_false,pre106 p1,fun106 p1,hlen,pre107 p2,fun107 p2]
end VL
namespace VL
open Go Vx
def Bd (f:Int) (n:Nat) (e:Int):Prop:=qm f≤e∧e≤6000∧n*2^(e-qm f).toNat<2^5000
theorem qm_ge {f:Int} (hf:Fm f):-1100≤qm f:=by
 have:=fX_le hf
 have:=fP_le hf
 unfold qm; omega
theorem Bd.lt {f:Int} {n:Nat} {e:Int} (h:Bd f n e):n<2^5000:=by
 have:=Nat.le_mul_of_pos_right n (Nat.two_pow_pos (e-qm f).toNat)
 exact Nat.lt_of_le_of_lt this h.2.2
theorem Bd.od {f:Int} (hf:Fm f) {n:Nat} {e:Int} (s:Bool) (h:Bd f n e):Bd f (VL.od s n e).2.1 (VL.od s n e).2.2:=by
 rcases od_cases s n e with ⟨hz,_⟩ | ⟨_,h2,h3,h4,h5⟩
 ·rw [hz]
  exact ⟨qm_neg hf,by dsimp only; omega,by dsimp only; rw [Nat.zero_mul]; exact Nat.two_pow_pos _⟩
 ·have hle:2^(tz n+(e-qm f).toNat)≤n*2^(e-qm f).toNat:=by
   rw [Nat.pow_add]
   refine Nat.mul_le_mul_right _ ?_
   have:=Nat.le_mul_of_pos_right (2^tz n) (show 0<(VL.od s n e).2.1 by omega)
   omega
  have hlt:=(Nat.pow_lt_pow_iff_right (a:=2) (by decide)).1 (Nat.lt_of_le_of_lt hle h.2.2)
  have hq:=qm_neg hf
  have h1:=h.1
  refine ⟨by omega,by omega,?_⟩
  have e1:(VL.od s n e).2.1*2^((VL.od s n e).2.2-qm f).toNat=n*2^(e-qm f).toNat:=by
   rw [h5,show (e+(tz n:Int)-qm f).toNat=tz n+(e-qm f).toNat by omega,Nat.pow_add,← Nat.mul_assoc,Nat.mul_comm _ (2^tz n),← h4]
  rw [e1]; exact h.2.2
end VL
namespace VL
open Go Vx
theorem mant_ltP {f:Int} (hf:Fm f) (a:Nat):mant f a<2^fP f:=by
 have h1:=mF_lt f a
 have h2:=two_P hf
 have hpp:=Nat.two_pow_pos (fP f-1)
 unfold mant
 split <;> omega
theorem blen_mul {N k P:Nat} (h:N<2^P):N*2^k<2^(P+k):=by
 rw [Nat.pow_add]; exact Nat.mul_lt_mul_of_pos_right h (Nat.two_pow_pos k)
end VL
namespace VL
open Go Vx
structure Hid (p:Prop):Prop where
 out:p
end VL
namespace VL
open Go Vx
theorem set_same {l:List Nat} {j v:Nat} (hj:j<l.length) (h:l.getD j 0=v):l.set j v=l:=by
 rw [List.getD_eq_getElem?_getD,List.getElem?_eq_getElem hj,Option.getD_some] at h
 subst h
 exact List.set_getElem_self hj
end VL
namespace VL
open Go Vx
theorem b5000 {n k:Nat} (h:n<2^k) (hk:k≤64*5000):n<(2^64)^5000:=by
 rw [pow64]
 exact Nat.lt_of_lt_of_le h (Nat.pow_le_pow_right (by decide) hk)
theorem Dw_len0 (n:Nat):((((Dw n).length:Nat):Int)==0)=decide (n=0):=by
 by_cases h:n=0
 ·subst h; rw [Dw_zero]; rfl
 ·rw [decide_eq_false h]; exact beq0_f _ (by have:=Dw_len h; omega)
end VL
