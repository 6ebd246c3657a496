/- Part 7 of the proof. What is proved: symbolic execution of the functions, proved sound; what each function of the program computes, and that every run ends with it; what these functions compute, in plain numbers. Conditions: each theorem bears its own. -/
import Derived.Test.YtblmecpfokfjpaaDoorVxG6
import Derived.ProofKit
import Derived.LaidMore
import Derived.OpenShut
import Derived.Stop.Joined
import GoSem.ClaimJoined
set_option linter.all false
set_option exponentiation.threshold 1000000
namespace VL
open Go Vx
theorem dg_len_ge {x k:Nat} (h:(2 ^ 64) ^ k ≤ x):k < (dg (2 ^ 64) x).length:=by
  have:=dg_len_gt (B:=2 ^ 64) (by decide) x
  exact (Nat.pow_lt_pow_iff_right (a:=2 ^ 64) (by decide)).1 (Nat.lt_of_le_of_lt h this)
theorem dg_top {x:Nat} (h0:x ≠ 0):∃ t,(dg (2 ^ 64) x).getD ((dg (2 ^ 64) x).length - 1) 0 = t ∧ t ≠ 0 ∧ t < 2 ^ 64 ∧ blen x = 64 * ((dg (2 ^ 64) x).length - 1) + blen t ∧ 0 < (dg (2 ^ 64) x).length:=by
  have hl:0 < (dg (2 ^ 64) x).length:=by rw [dg_pos (by decide) (by omega)]; simp
  have ht:=dg_trim (B:=2 ^ 64) (by decide) x
  have h1:=trim_last (dg (2 ^ 64) x) (by rw [ht]; exact hl)
  have h2:=blen_row (dg_lt (B:=2 ^ 64) (by decide) x) (by rw [ht]; exact hl)
  rw [ht] at h1 h2
  rw [nv_Dw] at h2
  exact ⟨_,rfl,h1,getD_lt (by decide) (dg_lt (by decide) x) _,h2,hl⟩
theorem pow64_2 (k:Nat):(2 ^ 64) ^ k = 2 ^ (64 * k):=(Nat.pow_mul ..).symm
theorem T333_eq {a b:Nat} (ha:a < (2 ^ 64) ^ 4000) (hb:b < (2 ^ 64) ^ 4000) (h0:b ≠ 0):T333 (Dw a,Dw b,()) = some (Dw (a / b),Dw (a % b),()):=by
  have up:∀ {x:Nat},x < (2 ^ 64) ^ 4000 → x < (2 ^ 64) ^ 5000:=fun h=>Nat.lt_of_lt_of_le h (Nat.pow_le_pow_right (by decide) (by decide))
  show t333 S1146.pre S1146.F S1329.pre S1329.F S144.pre S144.F S146.pre S146.F S329.pre S329.F S327.pre S327.F S186.pre S186.F S332.pre S332.F S173.pre S173.F S171.pre S171.F W333_14 (Dw a) (Dw b) = _
  unfold t333
  have pa:=T173_dw (up ha)
  have pb:=T173_dw (up hb)
  have pc:=T144_eq (up ha) (up hb)
  have wa:=Dw_ws (up ha)
  have wb:=Dw_ws (up hb)
  have hla:(dg (2 ^ 64) a).length ≤ 4000:=dg_len_le (by decide) _ _ ha
  have hlb:(dg (2 ^ 64) b).length ≤ 4000:=dg_len_le (by decide) _ _ hb
  have pcopy:=T1146_eq (dg (2 ^ 64) a) wa
  rw [nv_Dw] at pcopy
  have pcopy:T1146 (Dw a,()) = some (Dw a,()):=pcopy
  obtain ⟨t,ht,ht0,ht64,hbt,hlp⟩:=dg_top h0
  have hLen:∀ x:Nat,(Dw x).length = (dg (2 ^ 64) x).length:=fun x=>Wd_len _
  have hGet:∀ (x i:Nat),(Dw x).getD i 0 = (((dg (2 ^ 64) x).getD i 0:Nat):Int):=fun x i=>Wd_getD _ _
  dsimp only
  simp only [pre173 pa,fun173 pa,pre173 pb,fun173 pb,pre144 pc,fun144 pc,cond_true]
  by_cases hlt:a < b
  · have e0:decide ((if a = b then (0:Int) else if a < b then -1 else 1) < 0) = true:=by rw [if_neg (by omega),if_pos hlt]; rfl
    simp only [e0,cond_true,pre1146 pcopy,fun1146 pcopy]
    rw [Nat.div_eq_of_lt hlt,Nat.mod_eq_of_lt hlt,Dw_zero]
  have e0:decide ((if a = b then (0:Int) else if a < b then -1 else 1) < 0) = false:=by
    rw [if_neg hlt]
    split <;> rfl
  simp only [e0,cond_false]
  by_cases h1:(dg (2 ^ 64) b).length = 1
  · have e1:(((Dw b).length:Int) == 1) = true:=by rw [hLen,h1]; rfl
    have hb64:b < 2 ^ 64:=by
      have:=dg_len_gt (B:=2 ^ 64) (by decide) b
      rw [h1,Nat.pow_one] at this
      exact this
    have e2:decide ((0:Int) < ((Dw b).length:Int)) = true:=by rw [hLen,h1]; rfl
    have e3:(Dw b).getD (Int.toNat 0) 0 = (b:Int):=by rw [Int.toNat_zero,Dw_get,Nat.mod_eq_of_lt hb64]
    have p0:=T1329_eq (up ha) (Nat.pos_of_ne_zero h0) hb64
    have hr:a % b < b:=Nat.mod_lt _ (Nat.pos_of_ne_zero h0)
    have p1:=T173_eq [a % b] (by simp)
    rw [trim_Dw (by intro x hx; rw [List.mem_singleton] at hx; omega),show nv (2 ^ 64) [a % b] = a % b by simp [nv]] at p1
    have p1:T173 ((((a % b:Nat):Int) :: []),()) = _:=p1
    simp only [e1,e2,e3,cond_true,pre1146 pcopy,fun1146 pcopy,pre1329 p0,fun1329 p0,pre173 p1,fun173 p1]
  have e1:(((Dw b).length:Int) == 1) = false:=by
    rw [hLen]
    exact ibeq_f _ _ (by omega)
  simp only [e1,cond_false]
  -- the lengths
  obtain ⟨n,hn⟩:∃ n,(dg (2 ^ 64) b).length = n + 2:=⟨(dg (2 ^ 64) b).length - 2,by omega⟩
  have hab:(dg (2 ^ 64) b).length ≤ (dg (2 ^ 64) a).length:=dg_len_mono (by decide) (by omega)
  obtain ⟨Q,hQ⟩:∃ Q,(dg (2 ^ 64) a).length + 1 = Q + n + 2:=⟨(dg (2 ^ 64) a).length + 1 - (n + 2),by omega⟩
  rw [show (dg (2 ^ 64) b).length - 1 = n + 1 by omega] at ht hbt
  have hbl:=blen_bound ht64
  have hbl1:=blen_pos ht0
  generalize hs:64 - blen t = s at *
  have p327:=T327_eq ht64
  rw [hs] at p327
  have hub:=blen_lt b
  have hlob:=blen_le h0
  have hp:=Nat.two_pow_pos s
  have hV1:b * 2 ^ s < 2 ^ (64 * (n + 2)):=by
    have h2:b * 2 ^ s < 2 ^ blen b * 2 ^ s:=Nat.mul_lt_mul_of_pos_right hub hp
    rw [← Nat.pow_add,show blen b + s = 64 * (n + 2) by omega] at h2
    exact h2
  have hV2:2 ^ (64 * (n + 2) - 1) ≤ b * 2 ^ s:=by
    have h2:2 ^ (blen b - 1) * 2 ^ s ≤ b * 2 ^ s:=Nat.mul_le_mul_right _ hlob
    rw [← Nat.pow_add,show blen b - 1 + s = 64 * (n + 2) - 1 by omega] at h2
    exact h2
  have hvlen:(dg (2 ^ 64) (b * 2 ^ s)).length = n + 2:=by
    have h2:(dg (2 ^ 64) (b * 2 ^ s)).length ≤ n + 2:=dg_len_le (by decide) _ _ (by rw [pow64_2]; exact hV1)
    have h3:=dg_len_ge (x:=b * 2 ^ s) (k:=n + 1) (by
      rw [pow64_2]
      exact Nat.le_trans (Nat.pow_le_pow_right (by decide) (by omega)) hV2)
    omega
  have hA:a * 2 ^ s < 2 ^ (64 * (dg (2 ^ 64) a).length + s):=by
    have h2:=dg_len_gt (B:=2 ^ 64) (by decide) a
    rw [pow64_2] at h2
    rw [Nat.pow_add]
    exact Nat.mul_lt_mul_of_pos_right h2 hp
  have hulen:(dg (2 ^ 64) (a * 2 ^ s)).length ≤ Q + n + 2:=dg_len_le (by decide) _ _ (by
    rw [pow64_2]
    exact Nat.lt_of_lt_of_le hA (Nat.pow_le_pow_right (by decide) (by omega)))
  have hstart:a * 2 ^ s < b * 2 ^ s * (2 ^ 64) ^ Q:=by
    have h2:2 ^ (64 * (n + 2) - 1) * 2 ^ (64 * Q) ≤ b * 2 ^ s * 2 ^ (64 * Q):=Nat.mul_le_mul_right _ hV2
    rw [← Nat.pow_add] at h2
    rw [pow64_2]
    exact Nat.lt_of_lt_of_le (Nat.lt_of_lt_of_le hA (Nat.pow_le_pow_right (by decide) (by omega))) h2
  have pv:=T186_eq (dg (2 ^ 64) b) wb s (by rw [dg_trim (by decide)]; omega)
  have pu:=T186_eq (dg (2 ^ 64) a) wa s (by rw [dg_trim (by decide)]; omega)
  rw [nv_Dw] at pv pu
  have pv:T186 (Dw b,(s:Int),()) = some (Dw (b * 2 ^ s),()):=pv
  have pu:T186 (Dw a,(s:Int),()) = some (Dw (a * 2 ^ s),()):=pu
  have e17:IntKind.wrap .i64 (((Dw b).length:Int) - 1) = ((n + 1:Nat):Int):=by rw [hLen,wrapI (by omega)]; omega
  have e18:IntKind.wrap .i64 (((Dw a).length:Int) + 1) = ((Q + n + 2:Nat):Int):=by rw [hLen,wrapI (by omega)]; omega
  have eg:(Dw b).getD (Int.toNat ((n + 1:Nat):Int)) 0 = (t:Int):=by rw [Int.toNat_natCast,hGet,ht]
  have e2:(decide ((0:Int) ≤ ((n + 1:Nat):Int)) && decide (((n + 1:Nat):Int) < ((Dw b).length:Int))) = true:=by
    rw [hLen,decide_eq_true (by omega),decide_eq_true (by omega)]; rfl
  have e3:(decide ((0:Int) ≤ ((Q + n + 2:Nat):Int)) && decide (((Q + n + 2:Nat):Int) * 8 ≤ 140737488355328)) = true:=by
    rw [decide_eq_true (by omega),decide_eq_true (by omega)]; rfl
  -- the row u
  generalize hud:dg (2 ^ 64) (a * 2 ^ s) ++ List.replicate (Q + n + 2 - (dg (2 ^ 64) (a * 2 ^ s)).length) 0 = us
  have husl:us.length = Q + n + 2:=by rw [← hud,List.length_append,List.length_replicate]; omega
  have hus:∀ x ∈ us,x < 2 ^ 64:=by
    rw [← hud]
    intro x hx
    rcases List.mem_append.1 hx with hx | hx
    · exact dg_lt (by decide) _ x hx
    · have:=(List.mem_replicate.1 hx).2
      omega
  have husv:nv (2 ^ 64) us = a * 2 ^ s:=by rw [← hud,nv_append,nv_rep,Nat.mul_zero,Nat.add_zero,nv_Dw]
  have hrow:(Dw (a * 2 ^ s)).take (List.replicate (Int.toNat ((Q + n + 2:Nat):Int)) (0:Int)).length ++ (List.replicate (Int.toNat ((Q + n + 2:Nat):Int)) (0:Int)).drop (Dw (a * 2 ^ s)).length = Wd us:=by
    rw [Int.toNat_natCast,List.length_replicate,Wd_rep,hLen,Wd_drop,List.drop_replicate]
    unfold Dw
    rw [Wd_take,List.take_of_length_le hulen,← hud]
    unfold Wd
    rw [List.map_append]
  have e11:IntKind.wrap .i64 (((Wd us).length:Int) - ((Dw (b * 2 ^ s)).length:Int)) = (Q:Int):=by
    rw [Wd_len,husl,hLen,hvlen,wrapI (by omega)]; omega
  have e4:(decide ((0:Int) ≤ (Q:Int)) && decide ((Q:Int) * 8 ≤ 140737488355328)) = true:=by
    rw [decide_eq_true (by omega),decide_eq_true (by omega)]; rfl
  have e5:IntKind.wrap .i64 (((List.replicate (Int.toNat (Q:Int)) (0:Int)).length:Int) - 1) = (Q:Int) - 1:=by
    rw [Int.toNat_natCast,List.length_replicate,wrapI (by omega)]
  obtain ⟨qs,us',k1,k2,k3,k4,k5,k6,k7⟩:=W333_eq (dg (2 ^ 64) (b * 2 ^ s)) hvlen (dg_lt (by decide) _) (by omega) (X:=a * 2 ^ s) Q (by omega) (s:Int) us husl hus husv (by rw [nv_Dw]; exact hstart)
  rw [nv_Dw] at k3 k6
  rw [Nat.mul_div_mul_right _ _ hp] at k3
  rw [Nat.mul_mod_mul_right] at k6
  have k7:W333_14 (((Dw (b * 2 ^ s),(((Q:Int) - 1),((),((),(((Dw (b * 2 ^ s)).length:Int),((s:Int),())))))),(Wd us,((List.replicate (Int.toNat (Q:Int)) (0:Int)),()))):P333_14.D) = some (.inl (((),((),(((n + 2:Nat):Int),((s:Int),())))),(Wd us',(Wd qs,())))):=by
    rw [Int.toNat_natCast,Wd_rep,hLen]
    rw [hvlen] at k7 ⊢
    exact k7
  simp only [e17,eg,pre327 p327,fun327 p327,pre186 pv,fun186 pv,pre186 pu,fun186 pu,e18,e2,e3,cond_true,hrow,e11,e4,e5]
  rw [k7]
  dsimp only [obind,obind2]
  have pq:=T173_eq qs (by omega)
  rw [trim_Dw k2,k3] at pq
  have hnl:nv (2 ^ 64) (us'.take (n + 2)) = a % b * 2 ^ s:=by
    have h2:=nv_split (2 ^ 64) us' (n + 2) (by omega)
    have h3:nv (2 ^ 64) (us'.drop (n + 2)) = 0:=by
      rcases Nat.eq_zero_or_pos (nv (2 ^ 64) (us'.drop (n + 2))) with h | h
      · exact h
      · exfalso
        have h4:(2 ^ 64) ^ (n + 2) * 1 ≤ (2 ^ 64) ^ (n + 2) * nv (2 ^ 64) (us'.drop (n + 2)):=Nat.mul_le_mul_left _ h
        have h5:a % b * 2 ^ s < b * 2 ^ s:=Nat.mul_lt_mul_of_pos_right (Nat.mod_lt _ (Nat.pos_of_ne_zero h0)) hp
        rw [pow64_2] at h4 h2
        omega
    rw [h3,Nat.mul_zero,Nat.add_zero] at h2
    rw [← h2,k6]
  have pr:=T171_eq (us'.take (n + 2)) ⟨fun x hx=>k5 x (List.mem_of_mem_take hx),by simp; omega⟩ s (by omega)
  rw [hnl,Nat.mul_div_cancel _ hp] at pr
  have pr:T171 (Wd (us'.take (n + 2)),(s:Int),()) = some (Dw (a % b),()):=pr
  have e6:(decide ((0:Int) ≤ ((n + 2:Nat):Int)) && decide (((n + 2:Nat):Int) ≤ ((Wd us').length:Int))) = true:=by
    rw [Wd_len,k4,decide_eq_true (by omega),decide_eq_true (by omega)]; rfl
  have e7:((Wd us').take (Int.toNat ((n + 2:Nat):Int))).drop (Int.toNat 0) = Wd (us'.take (n + 2)):=by
    rw [Int.toNat_natCast,Int.toNat_zero,Wd_take,List.drop_zero]
  simp only [pre173 pq,fun173 pq,e6,e7,pre171 pr,fun171 pr,cond_true]
theorem great_no {l:List (List Nat)} (hl:∀ x ∈ l,x.length ≤ 1024) (hn:l.length ≤ 1000000):T185 (l.map Wd,()) = some (false,()):=by
  have:=T185_eq l (fun x hx=>by have:=hl x hx; omega) hn
  rw [this,decide_eq_true (fun x hx=>Nat.le_trans (trim_len x).1 (hl x hx))]; rfl
end VL
namespace VL
open Go Vx
theorem mul_word2 {x y p c:Nat} (hx:x < 2 ^ 64) (hy:y < 2 ^ 64) (hp:p < 2 ^ 64) (hc:c < 2 ^ 64) :
    x * y + p + c = 2 ^ 64 * (x * y / 2 ^ 64 + (x * y % 2 ^ 64 + p) / 2 ^ 64 + ((x * y % 2 ^ 64 + p) % 2 ^ 64 + c) / 2 ^ 64) + ((x * y % 2 ^ 64 + p) % 2 ^ 64 + c) % 2 ^ 64 ∧
      x * y / 2 ^ 64 + (x * y % 2 ^ 64 + p) / 2 ^ 64 + ((x * y % 2 ^ 64 + p) % 2 ^ 64 + c) / 2 ^ 64 < 2 ^ 64:=by
  have:x * y ≤ (2 ^ 64 - 1) * (2 ^ 64 - 1):=Nat.mul_le_mul (by omega) (by omega)
  generalize x * y = z at *
  omega
theorem getD_setI (l:List Nat) (i j v:Nat):(l.set i v).getD j 0 = if i = j ∧ i < l.length then v else l.getD j 0:=by
  rw [List.getD_eq_getElem?_getD,List.getD_eq_getElem?_getD,List.getElem?_set]
  by_cases h:i = j
  · subst h
    by_cases h2:i < l.length
    · simp [h2]
    · simp [h2]
  · simp [h]
theorem mem_set {l:List Nat} {i v B:Nat} (h:∀ x ∈ l,x < B) (hv:v < B):∀ x ∈ l.set i v,x < B:=fun x hx=>by
  rcases List.mem_or_eq_of_mem_set hx with h1 | h1
  · exact h x h1
  · omega
theorem W324b_eq (a b p:List Nat) (hb:∀ x ∈ b,x < 2 ^ 64) (hn:b.length ≤ 100000) {x i:Nat} (hx:x < 2 ^ 64) (hi:i ≤ 100000) (hpl:i + b.length < p.length) (hpn:p.length ≤ 300000) (hpd:∀ z ∈ p,z < 2 ^ 64)
    (hz:∀ k,i + b.length ≤ k → p.getD k 0 = 0) (la:Int) :
    ∃ (p':List Nat) (c:Nat),p'.length = p.length ∧ (∀ z ∈ p',z < 2 ^ 64) ∧ c < 2 ^ 64 ∧ nv (2 ^ 64) p' + (2 ^ 64) ^ (i + b.length) * c = nv (2 ^ 64) p + (2 ^ 64) ^ i * (x * nv (2 ^ 64) b) ∧ (∀ k,i + b.length ≤ k → p'.getD k 0 = 0) ∧
      W324_8 (((b.length:Int),(Wd b,((x:Int),((0:Int),((i:Int),((0:Int),((i:Int),(la,(Wd a,(Wd b,((),()))))))))))),(Wd p,())) = some (.inl (((i:Int),((c:Int),((i:Int),(la,(Wd a,(Wd b,((),()))))))),(Wd p',()))):=by
  have key:=lfix_ex (m324_8 S315.pre S315.F S155.pre S155.F S173.pre S173.F) (fun s=>b.length - s.1.2.2.2.1.toNat)
    (fun s=>∃ (j:Nat) (p':List Nat) (c:Nat),j ≤ b.length ∧ p'.length = p.length ∧ (∀ z ∈ p',z < 2 ^ 64) ∧ c < 2 ^ 64 ∧ nv (2 ^ 64) p' + (2 ^ 64) ^ (i + j) * c = nv (2 ^ 64) p + (2 ^ 64) ^ i * (x * nv (2 ^ 64) (b.take j)) ∧ (∀ k,i + b.length ≤ k → p'.getD k 0 = 0) ∧
      s = (((b.length:Int),(Wd b,((x:Int),((j:Int),((i:Int),((c:Int),((i:Int),(la,(Wd a,(Wd b,((),()))))))))))),(Wd p',())))
    (fun y=>∃ (p':List Nat) (c:Nat),p'.length = p.length ∧ (∀ z ∈ p',z < 2 ^ 64) ∧ c < 2 ^ 64 ∧ nv (2 ^ 64) p' + (2 ^ 64) ^ (i + b.length) * c = nv (2 ^ 64) p + (2 ^ 64) ^ i * (x * nv (2 ^ 64) b) ∧ (∀ k,i + b.length ≤ k → p'.getD k 0 = 0) ∧
      y = .inl (((i:Int),((c:Int),((i:Int),(la,(Wd a,(Wd b,((),()))))))),(Wd p',()))) ?_
    (((b.length:Int),(Wd b,((x:Int),((0:Int),((i:Int),((0:Int),((i:Int),(la,(Wd a,(Wd b,((),()))))))))))),(Wd p,()))
    ⟨0,p,0,Nat.zero_le _,rfl,hpd,by decide,by simp [nv],hz,rfl⟩
  · obtain ⟨y,hy,p',c,k1,k2,k3,k4,k5,rfl⟩:=key
    exact ⟨p',c,k1,k2,k3,k4,k5,hy⟩
  intro L s hs hL
  obtain ⟨j,q,c,hj,hql,hqd,hc,hinv,hqz,rfl⟩:=hs
  unfold h324_8
  rcases Nat.lt_or_ge j b.length with hlt | hge
  · have hy:=getD_lt (by decide) hb j
    have hp:=getD_lt (by decide) hqd (i + j)
    have hnb:=nv_take_next (2 ^ 64) b j
    have hgb:(Wd b).getD j 0 = ((b.getD j 0:Nat):Int):=Wd_getD b j
    have hgq:(Wd q).getD (i + j) 0 = ((q.getD (i + j) 0:Nat):Int):=Wd_getD q _
    have hst:=fun z=>nv_set (2 ^ 64) q (i + j) z (by omega)
    have hgs:=fun z k=>getD_setI q (i + j) k z
    generalize b.getD j 0 = y at *
    generalize q.getD (i + j) 0 = d at *
    have p0:=T315_eq hx hy
    obtain ⟨m1,m2⟩:=mul_word2 hx hy hp hc
    have q1:=addF (x * y % 2 ^ 64) d 0
    have q2:=addP ((x * y % 2 ^ 64:Nat):Int) (d:Int) 0 (by decide)
    have r1:=addF ((x * y % 2 ^ 64 + d) % 2 ^ 64) c 0
    have r2:=addP (((x * y % 2 ^ 64 + d) % 2 ^ 64:Nat):Int) (c:Int) 0 (by decide)
    rw [Nat.add_zero] at q1 r1
    have z0:((0:Nat):Int) = 0:=rfl
    rw [z0] at q1 q2 r1 r2
    have hl:((x * y % 2 ^ 64 + d) % 2 ^ 64 + c) % 2 ^ 64 < 2 ^ 64:=Nat.mod_lt _ (by decide)
    have e5:=wu_add (x * y / 2 ^ 64) ((x * y % 2 ^ 64 + d) / 2 ^ 64) (by omega)
    have e6:=wu_add (x * y / 2 ^ 64 + (x * y % 2 ^ 64 + d) / 2 ^ 64) (((x * y % 2 ^ 64 + d) % 2 ^ 64 + c) / 2 ^ 64) m2
    have e0:decide ((j:Int) < (b.length:Int)) = true:=decide_eq_true (by omega)
    have e1:decide ((0:Int) ≤ (j:Int)) = true:=decide_eq_true (by omega)
    have e2:IntKind.wrap .i64 ((i:Int) + (j:Int)) = ((i + j:Nat):Int):=by rw [wrapI (by omega)]; omega
    have e3:IntKind.wrap .i64 ((j:Int) + 1) = ((j + 1:Nat):Int):=by rw [wrapI (by omega)]; omega
    have e4:decide ((0:Int) ≤ ((i + j:Nat):Int)) = true:=decide_eq_true (by omega)
    have e7:decide (((i + j:Nat):Int) < (q.length:Int)) = true:=decide_eq_true (by omega)
    dsimp only
    simp only [e0,e1,e2,e3,e4,e7,cond_true,Bool.and_self,Wd_len,Int.toNat_natCast,hgb,hgq,pre315 p0,fun315 p0,q1,q2,r1,r2,e5,e6,Wd_set]
    refine hL _ ⟨j + 1,q.set (i + j) (((x * y % 2 ^ 64 + d) % 2 ^ 64 + c) % 2 ^ 64),x * y / 2 ^ 64 + (x * y % 2 ^ 64 + d) / 2 ^ 64 + ((x * y % 2 ^ 64 + d) % 2 ^ 64 + c) / 2 ^ 64,by omega,by rw [List.length_set]; exact hql,mem_set hqd hl,m2,?_,?_,rfl⟩ (by simp only [Int.toNat_natCast]; omega)
    · have h1:=hst (((x * y % 2 ^ 64 + d) % 2 ^ 64 + c) % 2 ^ 64)
      rw [hnb,show i + (j + 1) = i + j + 1 by omega,pow_up,Nat.mul_add x,Nat.mul_add ((2 ^ 64) ^ i),Nat.mul_left_comm x,← Nat.mul_assoc ((2 ^ 64) ^ i) ((2 ^ 64) ^ j),← Nat.pow_add]
      generalize ((x * y % 2 ^ 64 + d) % 2 ^ 64 + c) % 2 ^ 64 = o at *
      generalize x * y / 2 ^ 64 + (x * y % 2 ^ 64 + d) / 2 ^ 64 + ((x * y % 2 ^ 64 + d) % 2 ^ 64 + c) / 2 ^ 64 = c' at *
      generalize x * y = z at *
      have h2:(2 ^ 64) ^ (i + j) * (z + d + c) = (2 ^ 64) ^ (i + j) * (2 ^ 64 * c' + o):=by rw [m1]
      rw [Nat.mul_add,Nat.mul_add,Nat.mul_add,← Nat.mul_assoc ((2 ^ 64) ^ (i + j)) (2 ^ 64)] at h2
      omega
    · intro k hk
      rw [hgs,if_neg (by omega)]
      exact hqz k hk
  · have e:j = b.length:=by omega
    subst e
    have e0:decide ((b.length:Int) < (b.length:Int)) = false:=decide_eq_false (by omega)
    dsimp only
    simp only [e0,cond_false]
    rw [List.take_length] at hinv
    exact ⟨_,rfl,q,c,hql,hqd,hc,hinv,hqz,rfl⟩
theorem W324a_eq (a b:List Nat) (ha:∀ x ∈ a,x < 2 ^ 64) (hb:∀ x ∈ b,x < 2 ^ 64) (hna:a.length ≤ 100000) (hnb:b.length ≤ 100000) :
    ∃ p:List Nat,p.length = a.length + b.length ∧ (∀ z ∈ p,z < 2 ^ 64) ∧ nv (2 ^ 64) p = nv (2 ^ 64) a * nv (2 ^ 64) b ∧
      W324_4 ((((a.length:Int),(Wd a,(Wd b,((0:Int),((),()))))),(Wd (List.replicate (a.length + b.length) 0),())):P324_4.D) = some (.inl (((),()),(Wd p,()))):=by
  have key:=lfix_ex (m324_4 S315.pre S315.F S155.pre S155.F S173.pre S173.F W324_8) (fun s=>a.length - s.1.2.2.2.1.toNat)
    (fun s=>∃ (i:Nat) (p:List Nat),i ≤ a.length ∧ p.length = a.length + b.length ∧ (∀ z ∈ p,z < 2 ^ 64) ∧ nv (2 ^ 64) p = nv (2 ^ 64) (a.take i) * nv (2 ^ 64) b ∧ (∀ k,i + b.length ≤ k → p.getD k 0 = 0) ∧
      s = (((a.length:Int),(Wd a,(Wd b,((i:Int),((),()))))),(Wd p,())))
    (fun y=>∃ p:List Nat,p.length = a.length + b.length ∧ (∀ z ∈ p,z < 2 ^ 64) ∧ nv (2 ^ 64) p = nv (2 ^ 64) a * nv (2 ^ 64) b ∧ y = .inl (((),()),(Wd p,()))) ?_
    (((a.length:Int),(Wd a,(Wd b,((0:Int),((),()))))),(Wd (List.replicate (a.length + b.length) 0),()))
    ⟨0,List.replicate (a.length + b.length) 0,Nat.zero_le _,by simp,(fun z hz=>by have:=(List.mem_replicate.1 hz).2; omega),by rw [nv_rep]; simp [nv],(fun k _=>by
      rw [List.getD_eq_getElem?_getD,List.getElem?_replicate]; split <;> rfl),rfl⟩
  · obtain ⟨y,hy,p,k1,k2,k3,rfl⟩:=key
    exact ⟨p,k1,k2,k3,hy⟩
  intro L s hs hL
  obtain ⟨i,p,hi,hpl,hpd,hinv,hz,rfl⟩:=hs
  unfold h324_4
  rcases Nat.lt_or_ge i a.length with hlt | hge
  · have hx:=getD_lt (by decide) ha i
    have hna':=nv_take_next (2 ^ 64) a i
    have hga:(Wd a).getD i 0 = ((a.getD i 0:Nat):Int):=Wd_getD a i
    obtain ⟨p',c,k1,k2,k3,k4,k5,k6⟩:=W324b_eq a b p hb hnb hx (i:=i) (by omega) (by omega) (by omega) hpd hz (a.length:Int)
    have e0:decide ((i:Int) < (a.length:Int)) = true:=decide_eq_true (by omega)
    have e1:decide ((0:Int) ≤ (i:Int)) = true:=decide_eq_true (by omega)
    have e2:IntKind.wrap .i64 ((i:Int) + (b.length:Int)) = ((i + b.length:Nat):Int):=by rw [wrapI (by omega)]; omega
    have e3:IntKind.wrap .i64 ((i:Int) + 1) = ((i + 1:Nat):Int):=by rw [wrapI (by omega)]; omega
    have e4:decide ((0:Int) ≤ ((i + b.length:Nat):Int)) = true:=decide_eq_true (by omega)
    have e5:decide (((i + b.length:Nat):Int) < (p'.length:Int)) = true:=decide_eq_true (by omega)
    dsimp only
    simp only [e0,e1,cond_true,Bool.and_self,Wd_len,Int.toNat_natCast,hga]
    rw [k6]
    dsimp only [obind,obind2]
    simp only [e2,e3,e4,e5,cond_true,Bool.and_self,Wd_len,Int.toNat_natCast,Wd_set]
    refine hL _ ⟨i + 1,p'.set (i + b.length) c,by omega,by rw [List.length_set]; omega,mem_set k2 k3,?_,?_,rfl⟩ (by simp only [Int.toNat_natCast]; omega)
    · have h1:=nv_set (2 ^ 64) p' (i + b.length) c (by omega)
      rw [k5 _ (Nat.le_refl _),Nat.mul_zero,Nat.add_zero] at h1
      rw [h1,k4,hinv,hna',Nat.add_mul,Nat.mul_assoc]
    · intro k hk
      rw [getD_setI,if_neg (by omega)]
      exact k5 k (by omega)
  · have e:i = a.length:=by omega
    subst e
    have e0:decide ((a.length:Int) < (a.length:Int)) = false:=decide_eq_false (by omega)
    simp only [e0,cond_false]
    rw [List.take_length] at hinv
    exact ⟨_,rfl,p,hpl,hpd,hinv,rfl⟩
theorem T324_eq {a b:Nat} (ha:a < (2 ^ 64) ^ 5000) (hb:b < (2 ^ 64) ^ 5000):T324 (Dw a,Dw b,()) = some (Dw (a * b),()):=by
  show t324 S315.pre S315.F S155.pre S155.F S173.pre S173.F W324_4 W324_8 (Dw a) (Dw b) = _
  unfold t324
  have pa:=T173_dw ha
  have pb:=T173_dw hb
  have hla:(dg (2 ^ 64) a).length ≤ 5000:=dg_len_le (by decide) _ _ ha
  have hlb:(dg (2 ^ 64) b).length ≤ 5000:=dg_len_le (by decide) _ _ hb
  obtain ⟨p,k1,k2,k3,k4⟩:=W324a_eq (dg (2 ^ 64) a) (dg (2 ^ 64) b) (dg_lt (by decide) _) (dg_lt (by decide) _) (by omega) (by omega)
  rw [nv_Dw,nv_Dw] at k3
  have hLen:∀ x:Nat,(Dw x).length = (dg (2 ^ 64) x).length:=fun x=>Wd_len _
  have e0:IntKind.wrap .i64 (((Dw a).length:Int) + ((Dw b).length:Int)) = (((dg (2 ^ 64) a).length + (dg (2 ^ 64) b).length:Nat):Int):=by rw [hLen,hLen,wrapI (by omega)]; omega
  have e1:(decide ((0:Int) ≤ (((dg (2 ^ 64) a).length + (dg (2 ^ 64) b).length:Nat):Int)) && decide ((((dg (2 ^ 64) a).length + (dg (2 ^ 64) b).length:Nat):Int) * 8 ≤ 140737488355328)) = true:=by
    rw [decide_eq_true (by omega),decide_eq_true (by omega)]; rfl
  have k4:W324_4 (((((Dw a).length:Int),(Dw a,(Dw b,((0:Int),((),()))))),((List.replicate (Int.toNat (((dg (2 ^ 64) a).length + (dg (2 ^ 64) b).length:Nat):Int)) (0:Int)),())):P324_4.D) = some (.inl (((),()),(Wd p,()))):=by
    rw [Int.toNat_natCast,Wd_rep,hLen]
    exact k4
  have p0:=T173_eq p (by omega)
  rw [trim_Dw k2,k3] at p0
  dsimp only
  simp only [pre173 pa,fun173 pa,pre173 pb,fun173 pb,cond_true,e0,e1]
  rw [k4]
  dsimp only [obind,obind2]
  simp only [pre173 p0,fun173 p0,cond_true]
theorem T325_eq {a b:Nat} (ha:a < (2 ^ 64) ^ 1024) (hb:b < (2 ^ 64) ^ 1024) (hab:a * b < (2 ^ 64) ^ 1024):T325 (Dw a,Dw b,()) = some (Dw (a * b),0,()):=by
  have up5:∀ {x:Nat},x < (2 ^ 64) ^ 1024 → x < (2 ^ 64) ^ 5000:=fun h=>Nat.lt_of_lt_of_le h (Nat.pow_le_pow_right (by decide) (by decide))
  show t325 S324.pre S324.F S185.pre S185.F (Dw a) (Dw b) = _
  unfold t325
  have p0:=great_no (l:=[dg (2 ^ 64) a,dg (2 ^ 64) b]) (by
    intro x hx
    rcases List.mem_cons.1 hx with rfl | hx
    · exact dg_len_le (by decide) _ _ ha
    · rw [List.mem_singleton] at hx
      rw [hx]
      exact dg_len_le (by decide) _ _ hb) (by simp)
  have p0:T185 ((Dw a :: Dw b :: []),()) = some (false,()):=p0
  have p2:=great_no (l:=[dg (2 ^ 64) (a * b)]) (by
    intro x hx
    rw [List.mem_singleton] at hx
    rw [hx]
    exact dg_len_le (by decide) _ _ hab) (by simp)
  have p2:T185 ((Dw (a * b) :: []),()) = some (false,()):=p2
  have p1:=T324_eq (up5 ha) (up5 hb)
  simp only [pre185 p0,fun185 p0,pre324 p1,fun324 p1,pre185 p2,fun185 p2,cond_true,cond_false]
theorem T326_eq {n k:Nat} (hn:n < 2 ^ 64) (hk:k ≤ 10000):T326 ((n:Int),(k:Int),()) = some (Dw (n * n * 2 ^ (2 * k)),()):=by
  show t326 S325.pre S325.F S176.pre S176.F (n:Int) (k:Int) = _
  unfold t326
  dsimp only
  rcases Nat.eq_zero_or_pos n with rfl | hn0
  · have e0:0 * 0 * 2 ^ (2 * k) = 0:=by simp
    rw [e0,Dw_zero]
    rfl
  have hnn:n * n < (2 ^ 64) ^ 2:=by
    rw [show (2 ^ 64) ^ 2 = 2 ^ 64 * 2 ^ 64 by decide]
    exact Nat.mul_lt_mul'' hn hn
  have h1:n < (2 ^ 64) ^ 1024:=Nat.lt_of_lt_of_le (show n < (2 ^ 64) ^ 1 by rw [Nat.pow_one]; exact hn) (Nat.pow_le_pow_right (by decide) (by decide))
  have h2:n * n < (2 ^ 64) ^ 1024:=Nat.lt_of_lt_of_le hnn (Nat.pow_le_pow_right (by decide) (by decide))
  have p0:=T325_eq h1 h1 h2
  rw [Dw_small (by omega) hn] at p0
  have e1:((n:Int) == 0) = false:=beq0_f _ (by omega)
  have e2:IntKind.wrap .i64 (2 * (k:Int)) = ((2 * k:Nat):Int):=by rw [wrapI (by omega)]; omega
  have h3:n * n * 2 ^ (2 * k) < (2 ^ 64) ^ 1024:=by
    rw [pow64_2] at hnn ⊢
    have h4:n * n * 2 ^ (2 * k) < 2 ^ (64 * 2) * 2 ^ (2 * k):=Nat.mul_lt_mul_of_pos_right hnn (Nat.two_pow_pos _)
    rw [← Nat.pow_add] at h4
    exact Nat.lt_of_lt_of_le h4 (Nat.pow_le_pow_right (by decide) (by omega))
  have p1:=T176_eq (dg (2 ^ 64) (n * n)) (Dw_ws (Nat.lt_of_lt_of_le h2 (Nat.pow_le_pow_right (by decide) (by decide)))) (2 * k) (by omega) (by rw [nv_Dw]; exact h3)
  rw [nv_Dw] at p1
  have p1:T176 (Dw (n * n),((2 * k:Nat):Int),()) = _:=p1
  simp only [e1,cond_false,pre325 p0,fun325 p0,cond_true,e2,pre176 p1,fun176 p1]
theorem newton_ge {A x:Nat} (hx:0 < x):isq A ≤ (x + A / x) / 2:=by
  have h1:=isq_le A
  generalize isq A = r at *
  have h3:A < (A / x + 1) * x:=by
    have:=Nat.lt_div_mul_add hx (a:=A)
    rw [Nat.add_mul,Nat.one_mul]; exact this
  generalize A / x = q at *
  rcases Nat.lt_or_ge ((x + q) / 2) r with h | h
  · exfalso
    have h2:q + 1 ≤ 2 * r - x:=by omega
    have h4:(q + 1) * x ≤ (2 * r - x) * x:=Nat.mul_le_mul_right _ h2
    have h5:(2 * r - x) * x ≤ r * r:=by
      rcases Nat.le_total x r with h6 | h6
      · obtain ⟨d,rfl⟩:∃ d,r = x + d:=⟨r - x,by omega⟩
        rw [show 2 * (x + d) - x = x + 2 * d by omega,Nat.add_mul,Nat.mul_add,Nat.add_mul,Nat.add_mul,Nat.mul_comm x d,Nat.mul_assoc 2]
        omega
      · obtain ⟨d,rfl⟩:∃ d,x = r + d:=⟨x - r,by omega⟩
        have:2 * r - (r + d) = r - d:=by omega
        rw [this,Nat.mul_add,Nat.sub_mul,Nat.sub_mul]
        have h7:d * r ≤ r * r:=Nat.mul_le_mul_right _ (by omega)
        rw [Nat.mul_comm r d]
        omega
    omega
  · exact h
theorem newton_end {A x:Nat} (hx:isq A ≤ x) (h:x ≤ (x + A / x) / 2) (h0:0 < x):x = isq A:=by
  have h1:x ≤ A / x:=by
    generalize A / x = q at *
    omega
  have h2:x * x ≤ A:=(Nat.le_div_iff_mul_le h0).1 h1
  have:=isq_ge h2
  omega
theorem Wd_nat (l:List Nat):(Wd l).map Int.toNat = l:=by
  unfold Wd
  rw [List.map_map]
  have:(Int.toNat ∘ fun n:Nat=>(n:Int)) = id:=by funext n; rfl
  rw [this,List.map_id]
theorem W334_eq {A x0:Nat} (hA0:A ≠ 0) (hA:A < (2 ^ 64) ^ 1030) (hx0:isq A ≤ x0) (hxb:x0 < (2 ^ 64) ^ 1030) :
    W334_7 (((Dw x0,(Dw A,())),()):P334_7.D) = some (.inl ((Dw (isq A),(Dw A,())),())):=by
  have up:∀ {x:Nat},x < (2 ^ 64) ^ 1030 → x < (2 ^ 64) ^ 4000:=fun h=>Nat.lt_of_lt_of_le h (Nat.pow_le_pow_right (by decide) (by decide))
  have up5:∀ {x:Nat},x < (2 ^ 64) ^ 1030 → x < (2 ^ 64) ^ 5000:=fun h=>Nat.lt_of_lt_of_le h (Nat.pow_le_pow_right (by decide) (by decide))
  have hpos:=isq_pos hA0
  have key:=lfix_ind (m334_7 S185.pre S185.F S173.pre S173.F S151.pre S151.F S186.pre S186.F S333.pre S333.F S143.pre S143.F S171.pre S171.F S324.pre S324.F S144.pre S144.F) (fun s=>nv (2 ^ 64) (s.1.1.map Int.toNat))
    (fun s=>∃ x:Nat,isq A ≤ x ∧ x < (2 ^ 64) ^ 1030 ∧ s = ((Dw x,(Dw A,())),()))
    (fun _=>.inl ((Dw (isq A),(Dw A,())),())) ?_ ((Dw x0,(Dw A,())),()) ⟨x0,hx0,hxb,rfl⟩
  · exact key
  intro L s hs hL
  obtain ⟨x,hx,hxb,rfl⟩:=hs
  unfold h334_7
  have hx1:0 < x:=by omega
  have p0:=T333_eq (up hA) (up hxb) (by omega)
  have hd:A / x ≤ A:=Nat.div_le_self _ _
  have hdb:A / x < (2 ^ 64) ^ 1030:=Nat.lt_of_le_of_lt hd hA
  have p1:=T143_dw (up5 hxb) (up5 hdb)
  have hsum:x + A / x < (2 ^ 64) ^ 1031:=by
    rw [show (2 ^ 64) ^ 1031 = (2 ^ 64) ^ 1030 * 2 ^ 64 from pow_up 1030]
    have:0 < (2 ^ 64) ^ 1030:=Nat.pow_pos (by decide)
    generalize (2 ^ 64) ^ 1030 = P at *
    omega
  have p2:=T171_eq (dg (2 ^ 64) (x + A / x)) (Dw_ws (Nat.lt_of_lt_of_le hsum (Nat.pow_le_pow_right (by decide) (by decide)))) 1 (by decide)
  rw [nv_Dw,Nat.pow_one] at p2
  have p2:T171 (Dw (x + A / x),(1:Int),()) = some (Dw ((x + A / x) / 2),()):=p2
  have hyb:(x + A / x) / 2 < (2 ^ 64) ^ 1030:=by omega
  have p3:=T144_eq (up5 hyb) (up5 hxb)
  have hge:=newton_ge (A:=A) hx1
  dsimp only
  simp only [pre333 p0,fun333 p0,pre143 p1,fun143 p1,pre171 p2,fun171 p2,pre144 p3,fun144 p3,cond_true]
  by_cases hc:x ≤ (x + A / x) / 2
  · have e0:decide ((if (x + A / x) / 2 = x then (0:Int) else if (x + A / x) / 2 < x then -1 else 1) ≥ 0) = true:=by
      rw [decide_eq_true_eq]
      split
      · omega
      · rw [if_neg (by omega)]; omega
    rw [e0,cond_true,newton_end hx hc hx1,newton_end (isq_ge (isq_le A)) (by rw [← newton_end hx hc hx1]; exact hc) hpos]
  · have e0:decide ((if (x + A / x) / 2 = x then (0:Int) else if (x + A / x) / 2 < x then -1 else 1) ≥ 0) = false:=by
      rw [decide_eq_false_iff_not]
      rw [if_neg (by omega),if_pos (by omega)]; omega
    rw [e0,cond_false]
    refine hL _ ⟨_,hge,hyb,rfl⟩ ?_
    show nv (2 ^ 64) ((Wd (dg (2 ^ 64) ((x + A / x) / 2))).map Int.toNat) < nv (2 ^ 64) ((Wd (dg (2 ^ 64) x)).map Int.toNat)
    rw [Wd_nat,Wd_nat,nv_Dw,nv_Dw]
    omega
theorem T334_eq {A:Nat} (hA:A < (2 ^ 64) ^ 1024):T334 (Dw A,()) = some (Dw (isq A),decide (isq A * isq A = A),0,()):=by
  have up5:∀ {x:Nat},x < (2 ^ 64) ^ 1024 → x < (2 ^ 64) ^ 5000:=fun h=>Nat.lt_of_lt_of_le h (Nat.pow_le_pow_right (by decide) (by decide))
  show t334 S185.pre S185.F S173.pre S173.F S151.pre S151.F S186.pre S186.F S333.pre S333.F S143.pre S143.F S171.pre S171.F S324.pre S324.F S144.pre S144.F W334_7 (Dw A) = _
  unfold t334
  have p0:=great_no (l:=[dg (2 ^ 64) A]) (by
    intro x hx
    rw [List.mem_singleton] at hx
    rw [hx]
    exact dg_len_le (by decide) _ _ hA) (by simp)
  have p0:T185 ((Dw A :: []),()) = some (false,()):=p0
  have p1:=T173_dw (up5 hA)
  dsimp only
  simp only [pre185 p0,fun185 p0,pre173 p1,fun173 p1,cond_true,cond_false,Dw_len0]
  by_cases h0:A = 0
  · subst h0
    have:isq 0 = 0:=isq_of (by decide) (by decide)
    rw [this,Dw_zero]; rfl
  rw [decide_eq_false h0,cond_false]
  have p2:=T151_Dw (up5 hA)
  have hA':=hA
  rw [pow64_2] at hA'
  have hbl:=blen_bound hA'
  have e1:IntKind.wrap .i64 ((blen A:Int) + 1) = ((blen A + 1:Nat):Int):=by rw [wrapI (by omega)]; omega
  have e2:quoI .i64 ((blen A + 1:Nat):Int) 2 = (((blen A + 1) / 2:Nat):Int):=quo2i _ (by omega)
  have p3:=T186_eq [1] ⟨by simp,by simp⟩ ((blen A + 1) / 2) (by simp [trimL]; omega)
  rw [show nv (2 ^ 64) [1] = 1 by simp [nv],Nat.one_mul] at p3
  have p3:T186 (((1:Int) :: []),(((blen A + 1) / 2:Nat):Int),()) = _:=p3
  have hge:isq A ≤ 2 ^ ((blen A + 1) / 2):=by
    have h1:=isq_bound (X:=A) (k:=(blen A + 1) / 2) (Nat.lt_of_lt_of_le (blen_lt A) (Nat.pow_le_pow_right (by decide) (by omega)))
    omega
  have hw:=W334_eq h0 (Nat.lt_of_lt_of_le hA (Nat.pow_le_pow_right (by decide) (by decide))) hge (by
    rw [pow64_2]
    exact Nat.pow_lt_pow_right (by decide) (by omega))
  have hs:=isq_self A
  have hsA:isq A < (2 ^ 64) ^ 1024:=Nat.lt_of_le_of_lt hs hA
  have p4:=T324_eq (up5 hsA) (up5 hsA)
  have hle:=isq_le A
  have p5:=T144_eq (up5 (Nat.lt_of_le_of_lt hle hA)) (up5 hA)
  simp only [pre151 p2,fun151 p2,e1,e2,pre186 p3,fun186 p3,cond_true]
  rw [hw]
  dsimp only [obind,obind2]
  simp only [pre324 p4,fun324 p4,pre144 p5,fun144 p5,cond_true]
  congr 3
  rw [Bool.eq_iff_iff,beq_iff_eq,decide_eq_true_eq]
  constructor
  · intro h
    split at h
    · assumption
    · split at h <;> cases h
  · intro h
    rw [if_pos h]
end VL
namespace VL
open Go Vx
noncomputable def rndM2 (f m:Int) (R:Nat) (E:Int) (more:Bool):Nat × Nat:=if more = true then rndN f m false (2 * R + 1) (E - 1) false else rndN f m false R E false
theorem rndM2_mark {f m:Int} (hf:Fm f) {R:Nat} {E:Int} {more:Bool} (hb:more = true → fP f + 2 ≤ blen R):rndN f m false R E more = rndM2 f m R E more:=by
  unfold rndM2
  cases more
  · rw [if_neg (by decide)]
  · rw [if_pos rfl,rnd_more hf (hb rfl)]
theorem rndM2_cut {f m:Int} (hf:Fm f) {R k:Nat} {E:Int} {more:Bool} (hb:fP f + 2 ≤ blen (R / 2 ^ k)):rndN f m false (R / 2 ^ k) (E + k) (more || decide (R % 2 ^ k ≠ 0)) = rndM2 f m R E more:=by
  have hP:=fP_ge hf
  have h0:R / 2 ^ k ≠ 0:=fun h=>by
    rw [h] at hb
    have:blen 0 = 0:=rfl
    omega
  unfold rndM2
  cases more
  · rw [if_neg (by decide),Bool.false_or]
    exact rnd_trunc hf h0 fun _=>hb
  · rw [if_pos rfl,Bool.true_or]
    have:=rnd_fine (f:=f) (m:=m) (neg:=false) (N:=R) (k:=k) (E:=E + k) hf hb
    rw [this,show E + (k:Int) - (k:Int) - 1 = E - 1 by omega]
theorem rootB_M2 (f m:Int) (X:Nat) (E:Int):rndM2 f m (isq X) E (!decide (isq X * isq X = X)) = rootB f m X E:=by
  unfold rndM2 rootB
  by_cases h:isq X * isq X = X
  · rw [decide_eq_true h,if_pos h]; rfl
  · rw [decide_eq_false h,if_neg h]; rfl
theorem two_cells {R:Nat} (hR:R < 2 ^ 128) :
    ((((0:Int) :: ((0:Int) :: [])).take (0:Nat) ++ (Dw R).take ((0:Int) :: ((0:Int) :: [])).length) ++ (((0:Int) :: ((0:Int) :: [])).drop ((0:Nat) + (min (Dw R).length ((0:Int) :: ((0:Int) :: [])).length)))) = ((R % 2 ^ 64:Nat):Int) :: ((R / 2 ^ 64:Nat):Int) :: []:=by
  rcases Nat.eq_zero_or_pos R with rfl | h0
  · rw [Dw_zero]; rfl
  rcases Nat.lt_or_ge R (2 ^ 64) with h | h
  · rw [Dw_small (by omega) h,Nat.mod_eq_of_lt h,Nat.div_eq_of_lt h]; rfl
  · have hd:Dw R = ((R % 2 ^ 64:Nat):Int) :: ((R / 2 ^ 64:Nat):Int) :: []:=by
      unfold Dw
      rw [dg_pos (by decide) (by omega),dg_pos (n:=R / 2 ^ 64) (by decide) (by omega),Nat.mod_eq_of_lt (a:=R / 2 ^ 64) (by omega),Nat.div_eq_of_lt (a:=R / 2 ^ 64) (by omega),dg_zero]; rfl
    rw [hd]; rfl
theorem T335_eq {f m:Int} (hf:Fm f) (hm:0 ≤ m ∧ m ≤ 5) {R:Nat} (h0:R ≠ 0) (hR:R < 2 ^ 20000) (E:Int) (hE:-10000 ≤ E ∧ E ≤ 10000) (more:Bool) (hmore:more = true → fP f + 2 ≤ blen R) :
    T335 (f,m,Dw R,E,more,()) = some (((rndM2 f m R E more).1:Int),((rndM2 f m R E more).2:Int),0,()):=by
  show t335 S151.pre S151.F S141.pre S141.F S176.pre S176.F S144.pre S144.F S122.pre S122.F f m (Dw R) E more = _
  unfold t335
  have hPl:=fP_le hf
  have hR5:R < (2 ^ 64) ^ 5000:=by
    rw [pow64_2]
    exact Nat.lt_of_lt_of_le hR (Nat.pow_le_pow_right (by decide) (by decide))
  have hbl:=blen_bound hR
  have p0:=T151_Dw hR5
  have e12:IntKind.wrap .i64 ((blen R:Int) - 128) = (blen R:Int) - 128:=wrapI (by omega)
  dsimp only
  simp only [pre151 p0,fun151 p0,cond_true,e12]
  by_cases hc:128 < blen R
  · obtain ⟨k,hk⟩:∃ k:Nat,blen R = 128 + k:=⟨blen R - 128,by omega⟩
    have ek:(blen R:Int) - 128 = (k:Int):=by omega
    have e0:decide ((k:Int) > 0) = true:=decide_eq_true (by omega)
    have hle:=blen_le h0
    have hlt:=blen_lt R
    have hk2:2 ^ k ≤ R:=Nat.le_trans (Nat.pow_le_pow_right (by decide) (by omega)) hle
    have hb2:=blen_shift hk2
    have htop:R / 2 ^ k < 2 ^ 128:=by
      rw [Nat.div_lt_iff_lt_mul (Nat.two_pow_pos k),← Nat.pow_add]
      exact Nat.lt_of_lt_of_le hlt (Nat.pow_le_pow_right (by decide) (by omega))
    have p1:=T141_eq (dg (2 ^ 64) R) (Dw_ws hR5) k (by omega)
    rw [nv_Dw] at p1
    have p1:T141 (Dw R,(k:Int),()) = some (Dw (R / 2 ^ k),0,()):=p1
    have hw:R / 2 ^ k * 2 ^ k ≤ R:=Nat.div_mul_le_self _ _
    have ht5:R / 2 ^ k < (2 ^ 64) ^ 5000:=Nat.lt_of_le_of_lt (Nat.div_le_self _ _) hR5
    have p2:=T176_eq (dg (2 ^ 64) (R / 2 ^ k)) (Dw_ws ht5) k (by omega) (by
      rw [nv_Dw,pow64_2]
      exact Nat.lt_of_le_of_lt hw (Nat.lt_of_lt_of_le hR (Nat.pow_le_pow_right (by decide) (by decide))))
    rw [nv_Dw] at p2
    have p2:T176 (Dw (R / 2 ^ k),(k:Int),()) = some (Dw (R / 2 ^ k * 2 ^ k),0,()):=p2
    have p3:=T144_eq (Nat.lt_of_le_of_lt hw hR5) hR5
    have hne:((if R / 2 ^ k * 2 ^ k = R then (0:Int) else if R / 2 ^ k * 2 ^ k < R then -1 else 1) != 0) = decide (R % 2 ^ k ≠ 0):=by
      have hdm:=Nat.div_add_mod R (2 ^ k)
      rw [Nat.mul_comm] at hdm
      rw [Bool.eq_iff_iff,bne_iff_ne,decide_eq_true_eq]
      split
      · omega
      · split <;> omega
    have p4:=T122_eq hf hm false (R / 2 ^ k) htop (E + k) (by omega) (more || decide (R % 2 ^ k ≠ 0)) (fun _=>by omega)
    have hq0:R / 2 ^ k ≠ 0:=fun h=>by
      rw [h] at hb2
      have:blen 0 = 0:=rfl
      omega
    rw [if_neg hq0,rndM2_cut hf (by omega)] at p4
    have e5:IntKind.wrap .i64 (E + (k:Int)) = E + (k:Int):=wrapI (by omega)
    have tw:=two_cells htop
    simp only [ek,e0,cond_true,pre141 p1,fun141 p1,pre176 p2,fun176 p2,pre144 p3,fun144 p3,Bool.true_or,hne,e5,tw]
    show (bif S122.pre (f,(m,(false,(Wi (R / 2 ^ k),(E + (k:Int),((more || decide (R % 2 ^ k ≠ 0)),())))))) then some (S122.F (f,(m,(false,(Wi (R / 2 ^ k),(E + (k:Int),((more || decide (R % 2 ^ k ≠ 0)),()))))))) else none) = _
    simp only [pre122 p4,fun122 p4,cond_true]
    rfl
  · have e0:decide ((blen R:Int) - 128 > 0) = false:=decide_eq_false (by omega)
    have hR128:R < 2 ^ 128:=Nat.lt_of_lt_of_le (blen_lt R) (Nat.pow_le_pow_right (by decide) (by omega))
    have p4:=T122_eq hf hm false R hR128 E (by omega) more hmore
    rw [if_neg h0,rndM2_mark hf hmore] at p4
    have tw:=two_cells hR128
    simp only [e0,cond_false,tw]
    show (bif S122.pre (f,(m,(false,(Wi R,(E,(more,())))))) then some (S122.F (f,(m,(false,(Wi R,(E,(more,()))))))) else none) = _
    simp only [pre122 p4,fun122 p4,cond_true]
    rfl
end VL
namespace VL
open Go Vx
theorem T326_zero (z:Int):T326 ((0:Int),z,()) = some (Dw 0,()):=by
  rw [Dw_zero]
  show t326 S325.pre S325.F S176.pre S176.F (0:Int) z = _
  rfl
def sqsum (n:Nat) (x:Int) (k:Nat) (y l:Int):Nat:=n * n * 2 ^ (2 * (x - l).toNat) + k * k * 2 ^ (2 * (y - l).toNat)
noncomputable def hypX (f m:Int) (n:Nat) (x:Int) (k:Nat) (y:Int):Nat × Nat:=rootB f m (sqsum n x k y (min x y) * 2 ^ 200) (min x y - 100)
theorem hyp_at {f m:Int} (hf:Fm f) {n k:Nat} {x y low:Int} (hS:sqsum n x k y low ≠ 0) (d:Nat) (hd:low = min x y + d) (he:sqsum n x k y (min x y) = sqsum n x k y low * 2 ^ (2 * d)) :
    rootB f m (sqsum n x k y low * 2 ^ 128) (low - 64) = hypX f m n x k y ∧ 65 ≤ blen (isq (sqsum n x k y low * 2 ^ 128)):=by
  have hPl:=fP_le hf
  have hX:2 ^ (2 * 64) ≤ sqsum n x k y low * 2 ^ 128:=by
    have:=Nat.mul_le_mul_right (2 ^ 128) (show 1 ≤ sqsum n x k y low by omega)
    rw [Nat.one_mul] at this
    exact this
  have hb:=isq_blen hX
  have h0:sqsum n x k y low * 2 ^ 128 ≠ 0:=fun h=>by
    rw [h] at hX
    exact absurd hX (by decide)
  refine ⟨?_,hb⟩
  have:=rootB_fine (f:=f) (m:=m) (k:=36 + d) (E:=low - 64) hf h0 (by omega)
  unfold hypX
  rw [he,← this]
  have e1:sqsum n x k y low * 2 ^ (2 * d) * 2 ^ 200 = sqsum n x k y low * 2 ^ 128 * (2 ^ (36 + d) * 2 ^ (36 + d)):=by
    rw [Nat.mul_assoc,Nat.mul_assoc,← Nat.pow_add,← Nat.pow_add,← Nat.pow_add]
    congr 2
    omega
  rw [e1,show min x y - 100 = low - 64 - ((36 + d:Nat):Int) by omega]
theorem sq_bound {n:Nat} {j:Nat} (hn:n < 2 ^ 53) (hj:j ≤ 2200):n * n * 2 ^ (2 * j) < 2 ^ 4506:=by
  have h1:n * n < 2 ^ 53 * 2 ^ 53:=Nat.mul_lt_mul'' hn hn
  have h2:n * n * 2 ^ (2 * j) < 2 ^ 53 * 2 ^ 53 * 2 ^ (2 * j):=Nat.mul_lt_mul_of_pos_right h1 (Nat.two_pow_pos _)
  rw [← Nat.pow_add,← Nat.pow_add] at h2
  exact Nat.lt_of_lt_of_le h2 (Nat.pow_le_pow_right (by decide) (by omega))
theorem sqsum_bound {n k:Nat} {x y l:Int} (hn:n < 2 ^ 53) (hk:k < 2 ^ 53) (hx:x - l ≤ 2200) (hy:y - l ≤ 2200):sqsum n x k y l < 2 ^ 4507:=by
  have h1:=sq_bound (j:=(x - l).toNat) hn (by omega)
  have h2:=sq_bound (j:=(y - l).toNat) hk (by omega)
  unfold sqsum
  rw [Nat.pow_succ]
  omega
noncomputable def hypF (f m:Int) (a b:Nat):Int × Int × Int × Unit :=
  if chkL f m [a,b] ≠ 0 then (0,0,chkL f m [a,b],())
  else bif snan f a || snan f b then ((nanF f:Int),1,0,())
  else bif isInf f a || isInf f b then ((infB f false:Int),0,0,())
  else bif nan f a || nan f b then ((nanF f:Int),0,0,())
  else bif zro f a && zro f b then ((sgnF f false:Int),0,0,())
  else (((hypX f m (mant f a) (xpn f a) (mant f b) (xpn f b)).1:Int),((hypX f m (mant f a) (xpn f a) (mant f b) (xpn f b)).2:Int),0,())
theorem xpn_tight {f:Int} (hf:Fm f) (a:Nat):-1100 ≤ xpn f a ∧ xpn f a ≤ 1100:=by
  have h1:=e_le (f:=f) a
  have e:fullF f = 2 * fX f + 1:=by unfold fullF; rw [← fX_eq hf]
  have h2:=fX_le hf
  have h3:=fP_le hf
  have h4:=fP_ge hf
  unfold xpn
  split <;> omega
theorem zro_mantB (f:Int) (a:Nat):((mant f a:Int) == 0) = zro f a:=by
  cases hz:zro f a
  · exact beq0_f _ (zro_mant hz)
  · unfold zro at hz
    rw [Bool.and_eq_true,beq_iff_eq,beq_iff_eq] at hz
    unfold mant
    rw [if_pos hz.1,hz.2]; rfl
theorem hyp_run {f m:Int} (hf:Fm f) (hm:0 ≤ m ∧ m ≤ 5) {n k:Nat} {x y low:Int} (hn:n < 2 ^ 53) (hk:k < 2 ^ 53) (hx:-1100 ≤ x ∧ x ≤ 1100) (hy:-1100 ≤ y ∧ y ≤ 1100) (hl:-1100 ≤ low ∧ low ≤ 1100)
    (hS:sqsum n x k y low ≠ 0) (d:Nat) (hd:low = min x y + d) (he:sqsum n x k y (min x y) = sqsum n x k y low * 2 ^ (2 * d))
    (h1:T326 ((n:Int),x - low,()) = some (Dw (n * n * 2 ^ (2 * (x - low).toNat)),())) (h2:T326 ((k:Int),y - low,()) = some (Dw (k * k * 2 ^ (2 * (y - low).toNat)),())) :
    T143 (Dw (n * n * 2 ^ (2 * (x - low).toNat)),Dw (k * k * 2 ^ (2 * (y - low).toNat)),()) = some (Dw (sqsum n x k y low),()) ∧
    T176 (Dw (sqsum n x k y low),(128:Int),()) = some (Dw (sqsum n x k y low * 2 ^ 128),0,()) ∧
    T334 (Dw (sqsum n x k y low * 2 ^ 128),()) = some (Dw (isq (sqsum n x k y low * 2 ^ 128)),decide (isq (sqsum n x k y low * 2 ^ 128) * isq (sqsum n x k y low * 2 ^ 128) = sqsum n x k y low * 2 ^ 128),0,()) ∧
    T335 (f,m,Dw (isq (sqsum n x k y low * 2 ^ 128)),low - 64,!decide (isq (sqsum n x k y low * 2 ^ 128) * isq (sqsum n x k y low * 2 ^ 128) = sqsum n x k y low * 2 ^ 128),()) = some (((hypX f m n x k y).1:Int),((hypX f m n x k y).2:Int),0,()) ∧
    IntKind.wrap .i64 (low - 64) = low - 64 ∧ IntKind.wrap .i64 (x - low) = x - low ∧ IntKind.wrap .i64 (y - low) = y - low:=by
  have hPl:=fP_le hf
  have up5:∀ {z j:Nat},z < 2 ^ j → j ≤ 65536 → z < (2 ^ 64) ^ 5000:=fun h hj=>by
    rw [pow64_2]
    exact Nat.lt_of_lt_of_le h (Nat.pow_le_pow_right (by decide) (by omega))
  have b1:=sq_bound (j:=(x - low).toNat) hn (by omega)
  have b2:=sq_bound (j:=(y - low).toNat) hk (by omega)
  have bs:=sqsum_bound (x:=x) (y:=y) (l:=low) hn hk (by omega) (by omega)
  have bs2:sqsum n x k y low * 2 ^ 128 < 2 ^ 4635:=by
    have:sqsum n x k y low * 2 ^ 128 < 2 ^ 4507 * 2 ^ 128:=Nat.mul_lt_mul_of_pos_right bs (Nat.two_pow_pos _)
    rw [← Nat.pow_add] at this
    exact this
  obtain ⟨r1,r2⟩:=hyp_at (m:=m) hf hS d hd he
  have p1:=T143_dw (up5 (j:=4506) b1 (by decide)) (up5 (j:=4506) b2 (by decide))
  have p2:=T176_eq (dg (2 ^ 64) (sqsum n x k y low)) (Dw_ws (up5 (j:=4507) bs (by decide))) 128 (by decide) (by
    rw [nv_Dw,pow64_2]
    exact Nat.lt_of_lt_of_le bs2 (Nat.pow_le_pow_right (by decide) (by decide)))
  rw [nv_Dw] at p2
  have p3:=T334_eq (A:=sqsum n x k y low * 2 ^ 128) (by
    rw [pow64_2]
    exact Nat.lt_of_lt_of_le bs2 (Nat.pow_le_pow_right (by decide) (by decide)))
  have hi:=isq_self (sqsum n x k y low * 2 ^ 128)
  have hi0:isq (sqsum n x k y low * 2 ^ 128) ≠ 0:=fun h=>by
    rw [h] at r2
    have:blen 0 = 0:=rfl
    omega
  have p4:=T335_eq hf hm hi0 (Nat.lt_of_le_of_lt hi (Nat.lt_of_lt_of_le bs2 (Nat.pow_le_pow_right (by decide) (by decide)))) (low - 64) (by omega) (!decide (isq (sqsum n x k y low * 2 ^ 128) * isq (sqsum n x k y low * 2 ^ 128) = sqsum n x k y low * 2 ^ 128)) (fun _=>by omega)
  rw [rootB_M2,r1] at p4
  exact ⟨p1,p2,p3,p4,wrapI (by omega),wrapI (by omega),wrapI (by omega)⟩
theorem sqsum_at {n k:Nat} {x y:Int} (h:n ≠ 0 ∨ k ≠ 0):sqsum n x k y (min x y) ≠ 0:=by
  unfold sqsum
  rcases h with h | h
  · have:n * n * 2 ^ (2 * (x - min x y).toNat) ≠ 0:=Nat.mul_ne_zero (Nat.mul_ne_zero h h) (Nat.ne_of_gt (Nat.two_pow_pos _))
    omega
  · have:k * k * 2 ^ (2 * (y - min x y).toNat) ≠ 0:=Nat.mul_ne_zero (Nat.mul_ne_zero h h) (Nat.ne_of_gt (Nat.two_pow_pos _))
    omega
theorem T336_eq (f m:Int) {a b:Nat} (ha:a < 2 ^ 64) (hb:b < 2 ^ 64):T336 (f,m,(a:Int),(b:Int),()) = some (hypF f m a b):=by
  show t336 S311.pre S311.F S65.pre S65.F S323.pre S323.F S97.pre S97.F S70.pre S70.F S313.pre S313.F S118.pre S118.F S326.pre S326.F S143.pre S143.F S176.pre S176.F S334.pre S334.F S335.pre S335.F f m a b = _
  unfold t336 hypF
  rw [show ((a:Int) :: (b:Int) :: []) = Wd [a,b] from rfl]
  by_cases hf:Fm f
  case neg =>
    have p0:=T311_bad (m:=m) hf [a,b]
    have e0:chkL f m [a,b] = 2:=by unfold chkL; rw [if_pos hf]
    rw [e0]
    simp only [pre311 p0,fun311 p0,cond_true]
    rfl
  have p0:=T311_ok (m:=m) hf [a,b] (fun c hc=>by
    rcases List.mem_cons.1 hc with rfl | hc
    · exact ha
    · rw [List.mem_singleton] at hc; omega) (show (2:Nat) < 1000 by decide)
  by_cases hk:chkL f m [a,b] ≠ 0
  · rw [if_pos hk]
    have:(chkL f m [a,b] != 0) = true:=bne_iff_ne.2 hk
    simp only [pre311 p0,fun311 p0,cond_true,this]
  have hk:chkL f m [a,b] = 0:=Classical.not_not.1 hk
  obtain ⟨_,hm,hc⟩:=chkL_zero hk
  have h:=hc a (by simp)
  have h':=hc b (by simp)
  rw [if_neg (show ¬ chkL f m [a,b] ≠ 0 from fun h=>h hk)]
  rw [hk] at p0
  have p1:=T65_ok ha h
  have p2:=T65_ok hb h'
  have t323:∀ c:Int,T323 (c,()) = some ((c == 2 || c == 9),()):=fun c=>rfl
  have p3:=t323 (cls f a)
  have p4:=t323 (cls f b)
  rw [cls_isInf] at p3 p4
  simp only [pre311 p0,fun311 p0,cond_true,bne_self_eq_false,cond_false,pre65 p1,fun65 p1,pre65 p2,fun65 p2,cls_snan,pre323 p3,fun323 p3,pre323 p4,fun323 p4,Bool.true_or,pre70 (T70_ok hf),fun70 (T70_ok hf),pre97 (T97_ok hf _),fun97 (T97_ok hf _),pre118 (T118_ok hf _),fun118 (T118_ok hf _)]
  cases hs:snan f a || snan f b
  case true=>rfl
  simp only [cond_false]
  cases hi:isInf f a || isInf f b
  case true=>rfl
  simp only [cond_false]
  rw [Bool.or_eq_false_iff] at hs
  have n1:(cls f a == 1) = nan f a:=by
    have:=cls_nan f a
    rw [cls_snan,hs.1,Bool.or_false] at this
    exact this
  have n2:(cls f b == 1) = nan f b:=by
    have:=cls_nan f b
    rw [cls_snan,hs.2,Bool.or_false] at this
    exact this
  rw [n1,n2]
  cases hn:nan f a || nan f b
  case true=>rfl
  simp only [cond_false]
  have q1:=T313_eq h
  have q2:=T313_eq h'
  simp only [pre313 q1,fun313 q1,pre313 q2,fun313 q2,cond_true,zro_mantB]
  cases hz:zro f a && zro f b
  case true=>rfl
  simp only [cond_false]
  have hn53:=mant_lt hf a
  have hk53:=mant_lt hf b
  have hx:=xpn_tight hf a
  have hy:=xpn_tight hf b
  have sq:∀ (n:Nat) (z:Int),n < 2 ^ 53 → 0 ≤ z ∧ z ≤ 2200 → T326 ((n:Int),z,()) = some (Dw (n * n * 2 ^ (2 * z.toNat)),()):=fun n z hn hz=>by
    obtain ⟨j,rfl⟩:=Int.eq_ofNat_of_zero_le hz.1
    exact T326_eq (Nat.lt_trans hn (by decide)) (by omega)
  have sq0:∀ (n:Nat) (z:Int),n = 0 → T326 ((n:Int),z,()) = some (Dw (n * n * 2 ^ (2 * z.toNat)),()):=fun n z hn=>by
    subst hn
    have e0:0 * 0 * 2 ^ (2 * z.toNat) = 0:=by simp
    rw [e0]
    exact T326_zero z
  have mz:∀ c:Nat,zro f c = true → mant f c = 0:=fun c hc=>by
    have:=zro_mantB f c
    rw [hc,beq_iff_eq] at this
    omega
  cases hza:zro f a
  · have hna:=zro_mant hza
    cases hzb:zro f b
    · have hkb:=zro_mant hzb
      simp only [cond_false]
      have em:(if xpn f b < xpn f a then xpn f b else xpn f a) = min (xpn f a) (xpn f b):=by
        rw [Int.min_def]
        split <;> split <;> omega
      have s1:=sq (mant f a) (xpn f a - min (xpn f a) (xpn f b)) hn53 (by omega)
      have s2:=sq (mant f b) (xpn f b - min (xpn f a) (xpn f b)) hk53 (by omega)
      obtain ⟨r1,r2,r3,r4,r5,r6,r7⟩:=hyp_run hf hm hn53 hk53 (by omega) (by omega) (by omega) (sqsum_at (.inl hna)) 0 (by omega) (by rw [Nat.mul_zero,Nat.pow_zero,Nat.mul_one]) s1 s2
      simp only [em,r5,r6,r7,pre326 s1,fun326 s1,pre326 s2,fun326 s2,pre143 r1,fun143 r1,pre176 r2,fun176 r2,pre334 r3,fun334 r3,pre335 r4,fun335 r4,cond_true]
    · have hk0:=mz b hzb
      simp only [cond_false,cond_true]
      have s1:=sq (mant f a) (xpn f a - xpn f a) hn53 (by omega)
      have s2:=sq0 (mant f b) (xpn f b - xpn f a) hk0
      obtain ⟨j,hj⟩:=Int.eq_ofNat_of_zero_le (show 0 ≤ xpn f a - min (xpn f a) (xpn f b) by omega)
      have he:sqsum (mant f a) (xpn f a) (mant f b) (xpn f b) (min (xpn f a) (xpn f b)) = sqsum (mant f a) (xpn f a) (mant f b) (xpn f b) (xpn f a) * 2 ^ (2 * j):=by
        unfold sqsum
        rw [hk0,hj,Int.toNat_natCast,Int.sub_self]
        simp
      have hS:sqsum (mant f a) (xpn f a) (mant f b) (xpn f b) (xpn f a) ≠ 0:=fun h=>by
        rw [h,Nat.zero_mul] at he
        exact sqsum_at (.inl hna) he
      obtain ⟨r1,r2,r3,r4,r5,r6,r7⟩:=hyp_run hf hm hn53 hk53 (by omega) (by omega) (by omega) hS j (by omega) he s1 s2
      simp only [r5,r6,r7,pre326 s1,fun326 s1,pre326 s2,fun326 s2,pre143 r1,fun143 r1,pre176 r2,fun176 r2,pre334 r3,fun334 r3,pre335 r4,fun335 r4,cond_true]
  · have hn0:=mz a hza
    rw [hza,Bool.true_and] at hz
    have hkb:=zro_mant hz
    simp only [cond_false,cond_true,hz]
    have s1:=sq0 (mant f a) (xpn f a - xpn f b) hn0
    have s2:=sq (mant f b) (xpn f b - xpn f b) hk53 (by omega)
    obtain ⟨j,hj⟩:=Int.eq_ofNat_of_zero_le (show 0 ≤ xpn f b - min (xpn f a) (xpn f b) by omega)
    have he:sqsum (mant f a) (xpn f a) (mant f b) (xpn f b) (min (xpn f a) (xpn f b)) = sqsum (mant f a) (xpn f a) (mant f b) (xpn f b) (xpn f b) * 2 ^ (2 * j):=by
      unfold sqsum
      rw [hn0,hj,Int.toNat_natCast,Int.sub_self]
      simp
    have hS:sqsum (mant f a) (xpn f a) (mant f b) (xpn f b) (xpn f b) ≠ 0:=fun h=>by
      rw [h,Nat.zero_mul] at he
      exact sqsum_at (.inr hkb) he
    obtain ⟨r1,r2,r3,r4,r5,r6,r7⟩:=hyp_run hf hm hn53 hk53 (by omega) (by omega) (by omega) hS j (by omega) he s1 s2
    simp only [r5,r6,r7,pre326 s1,fun326 s1,pre326 s2,fun326 s2,pre143 r1,fun143 r1,pre176 r2,fun176 r2,pre334 r3,fun334 r3,pre335 r4,fun335 r4,cond_true]
end VL
namespace VL
open Go Vx
theorem isq_fix1:isq (1024 * 2 * 2 ^ 200) = 57367317478181007276781504744917:=isq_of (by decide +kernel) (by decide +kernel)
theorem isq_fix2:isq (6553600 * 2 ^ 200) = 2560 * 2 ^ 100:=isq_of (by decide +kernel) (by decide +kernel)
theorem chkL_ok {f m:Int} {l:List Nat} (hf:Fm f) (hm:0 ≤ m ∧ m ≤ 5) (hl:okL f l = true):chkL f m l = 0:=by
  unfold chkL
  rw [if_neg (show ¬ ¬ Fm f from fun h=>h hf),if_neg (by omega),hl]; rfl
theorem Fm0:Fm 0:=⟨by decide,by decide⟩
theorem fix_sqrt:sqrtF 0 0 16384 = (15784,16,0,()):=by
  unfold sqrtF
  have e0:chkL 0 0 [16384] = 0:=chkL_ok Fm0 (by decide) (by decide +kernel)
  have e1:nan 0 16384 = false:=by decide +kernel
  have e2:(sF 0 16384 && !zro 0 16384) = false:=by decide +kernel
  have e3:(zro 0 16384 || isInf 0 16384) = false:=by decide +kernel
  have e4:mant 0 16384 = 1024:=by decide +kernel
  have e5:xpn 0 16384 = -9:=by decide +kernel
  rw [if_neg (by rw [e0]; decide),e1,e2,e3,e4,e5]
  have e6:rootX 0 0 1024 (-9) = (15784,16):=by
    unfold rootX rootB
    rw [if_pos (by decide),isq_fix1,if_neg (by decide +kernel)]
    decide +kernel
  rw [e6]; rfl
theorem fix_hyp:hypF 0 0 16896 50176 = (17664,0,0,()):=by
  unfold hypF
  have e0:chkL 0 0 [16896,50176] = 0:=chkL_ok Fm0 (by decide) (by decide +kernel)
  have e1:(snan 0 16896 || snan 0 50176) = false:=by decide +kernel
  have e2:(isInf 0 16896 || isInf 0 50176) = false:=by decide +kernel
  have e3:(nan 0 16896 || nan 0 50176) = false:=by decide +kernel
  have e4:(zro 0 16896 && zro 0 50176) = false:=by decide +kernel
  have m1:mant 0 16896 = 1536:=by decide +kernel
  have x1:xpn 0 16896 = -9:=by decide +kernel
  have m2:mant 0 50176 = 1024:=by decide +kernel
  have x2:xpn 0 50176 = -8:=by decide +kernel
  rw [if_neg (by rw [e0]; decide),e1,e2,e3,e4,m1,m2,x1,x2]
  have e6:hypX 0 0 1536 (-9) 1024 (-8) = (17664,0):=by
    unfold hypX rootB
    have e7:sqsum 1536 (-9) 1024 (-8) (min (-9) (-8)) = 6553600:=by decide +kernel
    rw [e7,isq_fix2,if_pos (by decide +kernel)]
    decide +kernel
  rw [e6]; rfl
theorem T337_true:T337 () = some (true,()):=by
  show t337 S318.pre S318.F S336.pre S336.F = _
  unfold t337
  have p1:=T318_eq 0 0 (a:=16384) (by decide)
  have p2:=T336_eq 0 0 (a:=16896) (b:=50176) (by decide) (by decide)
  rw [fix_sqrt] at p1
  rw [fix_hyp] at p2
  have p1:T318 ((0:Int),((0:Int),((16384:Int),()))) = _:=p1
  have p2:T336 ((0:Int),((0:Int),((16896:Int),((50176:Int),())))) = _:=p2
  dsimp only
  simp only [pre318 p1,fun318 p1,pre336 p2,fun336 p2,cond_true]
  rfl
end VL
namespace VL
open Go Vx
def muE (f m:Int) (neg:Bool) (d n:Nat):Nat:=(blen n - fP f - d) * 2 ^ (fP f - 1) + cutJ m neg n (blen n - fP f - d + d)
theorem quo_top {f:Int} (hf:Fm f) (d n:Nat):n / 2 ^ (blen n - fP f - d + d) < 2 ^ fP f:=by
  rw [Nat.div_lt_iff_lt_mul (Nat.two_pow_pos _),← Nat.pow_add]
  exact Nat.lt_of_lt_of_le (blen_lt n) (Nat.pow_le_pow_right (by decide) (by omega))
theorem quo_low {f:Int} (hf:Fm f) {d n:Nat} (h0:n ≠ 0) (hJ:fP f + d ≤ blen n):2 ^ (fP f - 1) ≤ n / 2 ^ (blen n - fP f - d + d):=by
  have hP:=fP_ge hf
  rw [Nat.le_div_iff_mul_le (Nat.two_pow_pos _),← Nat.pow_add]
  exact Nat.le_trans (Nat.pow_le_pow_right (by decide) (by omega)) (blen_le h0)
theorem rndM_muE {f:Int} (hf:Fm f) (m:Int) (neg:Bool) {n:Nat} (h0:n ≠ 0) (d:Nat) :
    rndM f m neg n (qm f - d) = if infF f ≤ muE f m neg d n then (limM f m neg,20) else (muE f m neg d n,if clsR (n % 2 ^ (blen n - fP f - d + d)) (blen n - fP f - d + d) = 0 then 0 else if isTiny f m neg n (qm f - d) false then 24 else 16):=by
  have hP:=fP_ge hf
  have hX:=fX_ge hf
  have h2p:=two_P hf
  have hpp:=Nat.two_pow_pos (fP f - 1)
  have hinf:=inf_ge hf
  have hb1:=blen_pos h0
  have htop:topE n (qm f - d) = qm f - d + (blen n:Int) - 1:=rfl
  have hqm:qm f = 1 - (fX f:Int) - (fP f:Int) + 1:=rfl
  have hqt:=quo_top hf d n
  have hql:=quo_low hf (d:=d) h0
  have hlow:lowE f (topE n (qm f - d)) = qm f + ((blen n - fP f - d:Nat):Int):=by unfold lowE; split <;> omega
  obtain ⟨hc1,hc2⟩:=cutJ_bound m neg n (blen n - fP f - d + d)
  have hcr:cutR n (qm f - d) (qm f + ((blen n - fP f - d:Nat):Int)) false = clsR (n % 2 ^ (blen n - fP f - d + d)) (blen n - fP f - d + d):=by
    rw [cutR_f]
    rcases Nat.eq_zero_or_pos (blen n - fP f - d + d) with hz | hz
    · rw [rstE_lo (by omega),hz,Nat.pow_zero,Nat.mod_one]; rfl
    · rw [rstE_hi (by omega),show (qm f + ((blen n - fP f - d:Nat):Int) - (qm f - d)).toNat = blen n - fP f - d + d by omega]
  have hcn:cutN m neg n (qm f - d) (qm f + ((blen n - fP f - d:Nat):Int)) false = cutJ m neg n (blen n - fP f - d + d):=by
    have hqe:quoE n (qm f - d) (qm f + ((blen n - fP f - d:Nat):Int)) = n / 2 ^ (blen n - fP f - d + d):=by
      rcases Nat.eq_zero_or_pos (blen n - fP f - d + d) with hz | hz
      · rw [quoE_lo (by omega),hz,show (qm f - (d:Int) - (qm f + ((blen n - fP f - d:Nat):Int))).toNat = 0 by omega,Nat.pow_zero,Nat.mul_one,Nat.div_one]
      · rw [quoE_hi (by omega),show (qm f + ((blen n - fP f - d:Nat):Int) - (qm f - d)).toNat = blen n - fP f - d + d by omega]
    unfold cutN cutJ
    rw [hcr,hqe]
  unfold rndM
  rw [hlow]
  dsimp only
  rw [hcn,hcr,show (qm f + ((blen n - fP f - d:Nat):Int) - (1 - (fX f:Int) - (fP f:Int) + 1)).toNat = blen n - fP f - d by omega]
  have hmu:muE f m neg d n = (blen n - fP f - d) * 2 ^ (fP f - 1) + cutJ m neg n (blen n - fP f - d + d):=rfl
  rw [hmu]
  have hJd:fP f + d ≤ blen n ∨ blen n - fP f - d = 0:=by omega
  have hJb:(blen n:Int) - fP f - d ≤ ((blen n - fP f - d:Nat):Int):=by omega
  have hJe:fP f + d ≤ blen n → (blen n:Int) = fP f + d + ((blen n - fP f - d:Nat):Int):=by omega
  generalize cutJ m neg n (blen n - fP f - d + d) = u at *
  generalize n / 2 ^ (blen n - fP f - d + d) = Q at *
  generalize clsR (n % 2 ^ (blen n - fP f - d + d)) (blen n - fP f - d + d) = c at *
  generalize blen n - fP f - d = j at *
  by_cases ht:topE n (qm f - d) > fX f
  · have hj2:2 * fX f + 1 ≤ j + 1:=by omega
    have:=Nat.mul_le_mul_right (2 ^ (fP f - 1)) hj2
    rw [Nat.add_mul j,Nat.one_mul] at this
    have hql:=hql (by omega)
    rw [if_pos ht,if_pos (show infF f ≤ j * 2 ^ (fP f - 1) + u by omega)]
    rfl
  · rw [if_neg ht]
    have hj0:j + 1 ≤ 2 * fX f:=by
      rcases hJd with h | h
      · have:=hJe h; omega
      · omega
    rcases Nat.lt_or_ge u (2 ^ fP f) with hu | hu
    · have hbu:=blen_bound hu
      have hj2:j + 2 ≤ 2 * fX f + 1:=by omega
      have:=Nat.mul_le_mul_right (2 ^ (fP f - 1)) hj2
      rw [Nat.add_mul] at this
      rw [if_neg (show ¬ qm f + (j:Int) + (blen u:Int) - 1 > fX f by omega),if_neg (show ¬ infF f ≤ j * 2 ^ (fP f - 1) + u by omega)]
    · have hbu:=blen_ge hu
      have hbu2:=blen_bound (n:=u) (k:=fP f + 1) (by rw [Nat.pow_succ]; omega)
      by_cases hj2:j + 3 ≤ 2 * fX f + 1
      · have:=Nat.mul_le_mul_right (2 ^ (fP f - 1)) hj2
        rw [Nat.add_mul] at this
        rw [if_neg (show ¬ qm f + (j:Int) + (blen u:Int) - 1 > fX f by omega),if_neg (show ¬ infF f ≤ j * 2 ^ (fP f - 1) + u by omega)]
      · have hj3:2 * fX f + 1 ≤ j + 2:=by omega
        have:=Nat.mul_le_mul_right (2 ^ (fP f - 1)) hj3
        rw [Nat.add_mul j] at this
        rw [if_pos (show qm f + (j:Int) + (blen u:Int) - 1 > fX f by omega),if_pos (show infF f ≤ j * 2 ^ (fP f - 1) + u by omega)]
        rfl
def pv (f:Int) (x:Nat):Nat:=mant f x * 2 ^ (xpn f x - qm f).toNat
theorem pv_form {f:Int} (hf:Fm f) {J u:Nat} (hx:J * 2 ^ (fP f - 1) + u ≤ infF f) (hu:u ≤ 2 ^ fP f) (hl:J = 0 ∨ 2 ^ (fP f - 1) ≤ u):pv f (J * 2 ^ (fP f - 1) + u) = u * 2 ^ J:=by
  have h2p:=two_P hf
  have hpp:=Nat.two_pow_pos (fP f - 1)
  have hlt:=infF_lt hf
  have habs:absF f (J * 2 ^ (fP f - 1) + u) = J * 2 ^ (fP f - 1) + u:=Nat.mod_eq_of_lt (by omega)
  have hE:=eF_abs hf (J * 2 ^ (fP f - 1) + u)
  have hM:=mF_abs hf (J * 2 ^ (fP f - 1) + u)
  rw [habs] at hE hM
  have hd:∀ K v:Nat,v < 2 ^ (fP f - 1) → J * 2 ^ (fP f - 1) + u = K * 2 ^ (fP f - 1) + v → eF f (J * 2 ^ (fP f - 1) + u) = K ∧ mF f (J * 2 ^ (fP f - 1) + u) = v:=fun K v hv he=>by
    rw [hE,hM,he,Nat.mul_comm K]
    exact ⟨by rw [Nat.mul_add_div hpp,Nat.div_eq_of_lt hv,Nat.add_zero],by rw [Nat.mul_add_mod,Nat.mod_eq_of_lt hv]⟩
  unfold pv mant xpn
  rcases Nat.lt_or_ge u (2 ^ (fP f - 1)) with h1 | h1
  · have hJ:J = 0:=by omega
    obtain ⟨a1,a2⟩:=hd 0 u h1 (by rw [hJ])
    rw [if_pos a1,if_pos a1,a2,hJ]
    unfold qm
    rw [Int.add_zero,Int.sub_self]; rfl
  · rcases Nat.lt_or_ge u (2 ^ fP f) with h3 | h3
    · obtain ⟨a1,a2⟩:=hd (J + 1) (u - 2 ^ (fP f - 1)) (by omega) (by rw [Nat.add_mul]; omega)
      rw [if_neg (by omega),if_neg (by omega),a1,a2,Nat.sub_add_cancel h1]
      unfold qm
      congr 2
      omega
    · have hu2:u = 2 ^ fP f:=by omega
      obtain ⟨a1,a2⟩:=hd (J + 2) 0 hpp (by rw [Nat.add_mul]; omega)
      rw [if_neg (by omega),if_neg (by omega),a1,a2,Nat.zero_add,hu2,h2p]
      unfold qm
      rw [show (1 - (fX f:Int) - (fP f:Int) + 1 + (((J + 2:Nat):Int) - 1) - (1 - (fX f:Int) - (fP f:Int) + 1)).toNat = J + 1 by omega,Nat.pow_succ,Nat.mul_comm (2 ^ J) 2,← Nat.mul_assoc,Nat.mul_comm _ 2]
def rndOk (f m:Int) (d n B:Nat) (inex:Bool) (r:Nat × Nat):Prop :=
  (r.1 = B ∨ (inex = true ∧ r.1 = B + 1)) ∧ (m = 4 → r.1 = B) ∧ (m = 3 → r.1 = B + (bif inex then 1 else 0)) ∧ (inex = false → r.2 = 0) ∧ (inex = true → r.2 = 16 ∨ r.2 = 20 ∨ (r.2 = 24 ∧ blen n < fP f + d)) ∧ (r.1 = infF f → r.2 = 20) ∧ (r.2 = 20 → infF f ≤ B + 1)
theorem rnd_floor {f:Int} (hf:Fm f) {n:Nat} (h0:n ≠ 0) (d:Nat) :
    ∃ (B:Nat) (inex:Bool),B < infF f ∧ pv f B * 2 ^ d ≤ n ∧ (n < pv f (B + 1) * 2 ^ d ∨ B + 1 = infF f) ∧ (B + 1 < infF f ∨ 2 ^ (fP f + 2 * fX f - 2 + d) ≤ n) ∧ inex = decide (pv f B * 2 ^ d ≠ n) ∧
      ∀ m,0 ≤ m ∧ m ≤ 5 → rndOk f m d n B inex (rndM f m false n (qm f - d)):=by
  have hp:=infF_pos hf
  have h2p:=two_P hf
  have hP:=fP_ge hf
  have hX:=fX_ge hf
  have hpp:=Nat.two_pow_pos (fP f - 1)
  have hinf:=inf_ge hf
  have hqt:=quo_top hf d n
  have hql:=quo_low hf (d:=d) h0
  have hdm:=Nat.div_add_mod n (2 ^ (blen n - fP f - d + d))
  have hml:=Nat.mod_lt n (Nat.two_pow_pos (blen n - fP f - d + d))
  have hJd:fP f + d ≤ blen n ∨ blen n - fP f - d = 0:=by omega
  have hcl:=clsR_le (n % 2 ^ (blen n - fP f - d + d)) (blen n - fP f - d + d)
  have hcl0:clsR (n % 2 ^ (blen n - fP f - d + d)) (blen n - fP f - d + d) = 0 ↔ n % 2 ^ (blen n - fP f - d + d) = 0:=by
    unfold clsR
    split
    · simp [*]
    · split
      · simp [*]
      · split <;> simp [*]
  have hmuE:∀ m,muE f m false d n = (blen n - fP f - d) * 2 ^ (fP f - 1) + cutJ m false n (blen n - fP f - d + d):=fun _=>rfl
  have hrnd:=fun m=>rndM_muE hf m false h0 d
  have htiny:∀ m,isTiny f m false n (qm f - d) false → blen n < fP f + d:=fun m h=>by
    have h1:=h.1
    unfold topE qm at h1
    omega
  have hcut:∀ m,cutJ m false n (blen n - fP f - d + d) = if clsR (n % 2 ^ (blen n - fP f - d + d)) (blen n - fP f - d + d) ≠ 0 ∧ furM m false (decide (n / 2 ^ (blen n - fP f - d + d) % 2 = 1)) (clsR (n % 2 ^ (blen n - fP f - d + d)) (blen n - fP f - d + d)) = true then n / 2 ^ (blen n - fP f - d + d) + 1 else n / 2 ^ (blen n - fP f - d + d):=fun _=>rfl
  have hpow:2 ^ (blen n - fP f - d + d) = 2 ^ (blen n - fP f - d) * 2 ^ d:=Nat.pow_add ..
  generalize clsR (n % 2 ^ (blen n - fP f - d + d)) (blen n - fP f - d + d) = c at *
  generalize n % 2 ^ (blen n - fP f - d + d) = rr at *
  generalize n / 2 ^ (blen n - fP f - d + d) = Q at *
  by_cases hB:infF f ≤ (blen n - fP f - d) * 2 ^ (fP f - 1) + Q
  · -- beyond the end
    have hj:2 * fX f ≤ blen n - fP f - d:=by
      rcases Nat.lt_or_ge (blen n - fP f - d) (2 * fX f) with h | h
      · have:=Nat.mul_le_mul_right (2 ^ (fP f - 1)) (show blen n - fP f - d + 2 ≤ 2 * fX f + 1 by omega)
        rw [Nat.add_mul] at this
        omega
      · exact h
    have hq:=hql (by omega)
    have hform:=pv_form hf (J:=2 * fX f - 1) (u:=2 ^ fP f - 1) (by
      have:=Nat.mul_le_mul_right (2 ^ (fP f - 1)) (show 2 * fX f - 1 + 2 ≤ 2 * fX f + 1 by omega)
      rw [Nat.add_mul] at this
      omega) (by omega) (.inr (by omega))
    have hBe:infF f - 1 = (2 * fX f - 1) * 2 ^ (fP f - 1) + (2 ^ fP f - 1):=by
      have:(2 * fX f + 1) * 2 ^ (fP f - 1) = (2 * fX f - 1) * 2 ^ (fP f - 1) + 2 * 2 ^ (fP f - 1):=by rw [← Nat.add_mul]; congr 1; omega
      omega
    rw [← hBe] at hform
    have hn:2 ^ (fP f + 2 * fX f - 1 + d) ≤ n:=by
      have h1:2 ^ (fP f - 1) * 2 ^ (2 * fX f + d) ≤ Q * 2 ^ (blen n - fP f - d + d):=Nat.mul_le_mul hq (Nat.pow_le_pow_right (by decide) (by omega))
      rw [← Nat.pow_add,show fP f - 1 + (2 * fX f + d) = fP f + 2 * fX f - 1 + d by omega,Nat.mul_comm Q] at h1
      omega
    have hlt:pv f (infF f - 1) * 2 ^ d < n:=by
      have h1:(2 ^ fP f - 1) * 2 ^ (2 * fX f - 1) * 2 ^ d < 2 ^ fP f * 2 ^ (2 * fX f - 1) * 2 ^ d :=
        Nat.mul_lt_mul_of_pos_right (Nat.mul_lt_mul_of_pos_right (by omega) (Nat.two_pow_pos _)) (Nat.two_pow_pos _)
      rw [← Nat.pow_add,← Nat.pow_add,show fP f + (2 * fX f - 1) + d = fP f + 2 * fX f - 1 + d by omega] at h1
      rw [hform]
      omega
    refine ⟨infF f - 1,true,by omega,by omega,.inr (by omega),.inr ?_,?_,fun m hm=>?_⟩
    · exact Nat.le_trans (Nat.pow_le_pow_right (by decide) (by omega)) hn
    · rw [decide_eq_true (by omega)]
    · have hc:Q ≤ cutJ m false n (blen n - fP f - d + d):=by
        rw [hcut]; split <;> omega
      rw [hrnd,hmuE,if_pos (by omega)]
      refine ⟨?_,?_,?_,fun h=>(by cases h),fun _=>.inr (.inl rfl),fun _=>rfl,fun _=>by omega⟩
      · unfold limM; split
        · exact .inr ⟨rfl,by dsimp only; omega⟩
        · exact .inl rfl
      · rintro rfl; rfl
      · rintro rfl
        show infF f = infF f - 1 + 1
        omega
  · -- within
    have hform:=pv_form hf (J:=blen n - fP f - d) (u:=Q) (by omega) (by omega) (by
      rcases hJd with h | h
      · exact .inr (hql h)
      · exact .inl h)
    have hform1:=pv_form hf (J:=blen n - fP f - d) (u:=Q + 1) (by omega) (by omega) (by
      rcases hJd with h | h
      · have:=hql h; exact .inr (by omega)
      · exact .inl h)
    have hv:pv f ((blen n - fP f - d) * 2 ^ (fP f - 1) + Q) * 2 ^ d = 2 ^ (blen n - fP f - d + d) * Q:=by
      rw [hform,Nat.mul_assoc,← hpow,Nat.mul_comm]
    have hv1:pv f ((blen n - fP f - d) * 2 ^ (fP f - 1) + Q + 1) * 2 ^ d = 2 ^ (blen n - fP f - d + d) * Q + 2 ^ (blen n - fP f - d + d):=by
      rw [Nat.add_assoc,hform1,Nat.mul_assoc,← hpow,Nat.mul_comm,Nat.mul_add,Nat.mul_one]
    refine ⟨(blen n - fP f - d) * 2 ^ (fP f - 1) + Q,decide (c ≠ 0),by omega,by omega,.inl (by omega),?_,?_,fun m hm=>?_⟩
    · rcases Nat.lt_or_ge ((blen n - fP f - d) * 2 ^ (fP f - 1) + Q + 1) (infF f) with h | h
      · exact .inl h
      · right
        have hj:2 * fX f - 1 ≤ blen n - fP f - d:=by
          rcases Nat.lt_or_ge (blen n - fP f - d) (2 * fX f - 1) with h1 | h1
          · have:=Nat.mul_le_mul_right (2 ^ (fP f - 1)) (show blen n - fP f - d + 3 ≤ 2 * fX f + 1 by omega)
            rw [Nat.add_mul] at this
            omega
          · exact h1
        have hq:=hql (by omega)
        have h1:2 ^ (fP f - 1) * 2 ^ (2 * fX f - 1 + d) ≤ Q * 2 ^ (blen n - fP f - d + d):=Nat.mul_le_mul hq (Nat.pow_le_pow_right (by decide) (by omega))
        rw [← Nat.pow_add,show fP f - 1 + (2 * fX f - 1 + d) = fP f + 2 * fX f - 2 + d by omega,Nat.mul_comm Q] at h1
        omega
    · rw [decide_eq_decide,hv]
      omega
    · have hc:=hcut m
      rw [hrnd,hmuE,hc]
      by_cases hc0:c = 0
      · rw [if_neg (show ¬ (c ≠ 0 ∧ furM m false (decide (Q % 2 = 1)) c = true) from fun h=>h.1 hc0),if_neg hB,if_pos hc0,decide_eq_false (fun h=>h hc0)]
        exact ⟨.inl rfl,fun _=>rfl,fun _=>rfl,fun _=>rfl,fun h=>(by cases h),fun h=>(by dsimp only at h; omega),fun h=>(by cases h)⟩
      · rw [decide_eq_true hc0,if_neg hc0]
        have hfl:(if isTiny f m false n (qm f - d) false then 24 else 16) = 16 ∨ (if isTiny f m false n (qm f - d) false then 24 else 16) = 20 ∨ ((if isTiny f m false n (qm f - d) false then 24 else 16) = 24 ∧ blen n < fP f + d):=by
          by_cases ht:isTiny f m false n (qm f - d) false
          · rw [if_pos ht]; exact .inr (.inr ⟨rfl,htiny m ht⟩)
          · rw [if_neg ht]; exact .inl rfl
        have hf20:¬ (if isTiny f m false n (qm f - d) false then 24 else 16) = 20:=by split <;> decide
        by_cases hu:furM m false (decide (Q % 2 = 1)) c = true
        · rw [if_pos (show c ≠ 0 ∧ furM m false (decide (Q % 2 = 1)) c = true from ⟨hc0,hu⟩)]
          by_cases hend:infF f ≤ (blen n - fP f - d) * 2 ^ (fP f - 1) + (Q + 1)
          · have hQ:Q % 2 = 1:=by
              obtain ⟨H,hH⟩:∃ H,2 ^ (fP f - 1) = 2 * H:=⟨2 ^ (fP f - 2),by rw [← Nat.pow_succ',Nat.succ_eq_add_one]; congr 1; omega⟩
              have e1:(2 * fX f + 1) * 2 ^ (fP f - 1) = 2 * ((2 * fX f + 1) * H):=by rw [hH,Nat.mul_left_comm]
              have e2:(blen n - fP f - d) * 2 ^ (fP f - 1) = 2 * ((blen n - fP f - d) * H):=by rw [hH,Nat.mul_left_comm]
              omega
            rw [decide_eq_true hQ] at hu
            have hup:=up_end hm (show c = 1 ∨ c = 2 ∨ c = 3 by omega) hu
            rw [if_pos hend]
            refine ⟨.inr ⟨rfl,?_⟩,?_,?_,fun h=>(by cases h),fun _=>.inr (.inl rfl),fun _=>rfl,fun _=>by omega⟩
            · unfold limM; rw [if_pos hup]; dsimp only; omega
            · rintro rfl; exact absurd hup (by decide)
            · rintro rfl; unfold limM; rw [if_pos hup]; dsimp only [cond_true]; omega
          · rw [if_neg hend]
            refine ⟨.inr ⟨rfl,rfl⟩,?_,fun _=>rfl,fun h=>(by cases h),fun _=>hfl,fun h=>(by dsimp only at h; omega),fun h=>absurd h hf20⟩
            rintro rfl; exact absurd (show false = true from hu) (by decide)
        · rw [if_neg (show ¬ (c ≠ 0 ∧ furM m false (decide (Q % 2 = 1)) c = true) from fun h=>hu h.2),if_neg hB]
          refine ⟨.inl rfl,fun _=>rfl,?_,fun h=>(by cases h),fun _=>hfl,fun h=>(by dsimp only at h; omega),fun h=>absurd h hf20⟩
          rintro rfl; exact absurd rfl hu
end VL
namespace VL
open Go Vx
theorem rndM2_N {f:Int} (hf:Fm f) {R:Nat} (h0:R ≠ 0) (m:Int) (d:Nat) (more:Bool) :
    rndM2 f m R (qm f - d) more = rndM f m false (2 * R + (bif more then 1 else 0)) (qm f - ((d + 1:Nat):Int)):=by
  have e1:qm f - ((d + 1:Nat):Int) = qm f - d - 1:=by omega
  have hmk:∀ x:Nat × Nat,(mkF f false x.1,x.2) = x:=fun x=>by unfold mkF; rfl
  unfold rndM2
  cases more
  · have:=rnd_scale (f:=f) (m:=m) (neg:=false) hf h0 1 (qm f - d - 1)
    rw [show qm f - (d:Int) - 1 + ((1:Nat):Int) = qm f - d by omega,Nat.pow_one,Nat.mul_comm] at this
    rw [if_neg (by decide),← this,rnd_M hf,hmk,e1]
    rfl
  · rw [if_pos rfl,rnd_M hf,hmk,e1]
    rfl
theorem sticky_floor {f:Int} (hf:Fm f) {R:Nat} (h0:R ≠ 0) (d:Nat) (more:Bool) :
    ∃ (B:Nat) (inex:Bool),B < infF f ∧ pv f B * 2 ^ d ≤ R ∧ (R < pv f (B + 1) * 2 ^ d ∨ B + 1 = infF f) ∧ (B + 1 < infF f ∨ 2 ^ (fP f + 2 * fX f - 2 + d) ≤ R) ∧ inex = (more || decide (pv f B * 2 ^ d ≠ R)) ∧
      ∀ m,0 ≤ m ∧ m ≤ 5 → rndOk f m (d + 1) (2 * R + (bif more then 1 else 0)) B inex (rndM2 f m R (qm f - d) more):=by
  obtain ⟨B,inex,k1,k2,k3,k4,k5,k6⟩:=rnd_floor hf (n:=2 * R + (bif more then 1 else 0)) (by omega) (d + 1)
  rw [Nat.pow_succ,← Nat.mul_assoc] at k2 k3 k5
  rw [← Nat.add_assoc,Nat.pow_succ] at k4
  have hb:(bif more then 1 else 0) < 2:=by cases more <;> decide
  refine ⟨B,inex,k1,by omega,by omega,by omega,?_,fun m hm=>?_⟩
  · rw [k5]
    cases more
    · rw [Bool.false_or,decide_eq_decide]
      simp only [cond_false]
      omega
    · rw [Bool.true_or,decide_eq_true_eq]
      simp only [cond_true]
      omega
  · rw [rndM2_N hf h0]
    exact k6 m hm
theorem plain_lt {f:Int} (hf:Fm f) {x:Nat} (h:x < infF f):x < 2 ^ (fW f - 1) ∧ x < 2 ^ fW f ∧ x < 2 ^ 64:=by
  have h1:=infF_lt hf
  have h2:=two_half hf
  have h3:=fW_le hf
  have:2 ^ fW f ≤ 2 ^ 64:=Nat.pow_le_pow_right (by decide) h3
  omega
theorem plain_abs {f:Int} (hf:Fm f) {x:Nat} (h:x < infF f):absF f x = x:=Nat.mod_eq_of_lt (plain_lt hf h).1
theorem plain_facts {f:Int} (hf:Fm f) {x:Nat} (h:x < infF f):chk f x = 0 ∧ sF f x = false ∧ nan f x = false ∧ isInf f x = false ∧ eF f x ≠ fullF f ∧ snan f x = false:=by
  obtain ⟨h1,h2,h3⟩:=plain_lt hf h
  have ha:=plain_abs hf h
  have hn:nan f x = false:=nan_of_le hf (by omega)
  have hE:eF f x ≠ fullF f:=by
    rw [eF_abs hf,ha]
    intro he
    have:=Nat.div_add_mod x (2 ^ (fP f - 1))
    rw [he] at this
    unfold infF at h
    omega
  refine ⟨chk_ok hf h2,?_,hn,?_,hE,snan_nan hn⟩
  · unfold sF
    rw [Nat.div_eq_of_lt h1]; rfl
  · unfold isInf
    rw [beq_eq_false_iff_ne.2 hE]; rfl
theorem plain_zro {f:Int} (hf:Fm f) {x:Nat} (h:x < infF f):zro f x = decide (x = 0):=by
  have ha:=plain_abs hf h
  unfold zro
  rw [eF_abs hf,mF_abs hf,ha,Bool.eq_iff_iff,Bool.and_eq_true,beq_iff_eq,beq_iff_eq,decide_eq_true_eq]
  have:=Nat.div_add_mod x (2 ^ (fP f - 1))
  constructor
  · rintro ⟨h1,h2⟩
    rw [h1,h2] at this
    omega
  · rintro rfl
    exact ⟨Nat.zero_div _,Nat.zero_mod _⟩
theorem plain_mant {f:Int} (hf:Fm f) {x:Nat} (h:x < infF f) (h0:x ≠ 0):mant f x ≠ 0:=by
  apply zro_mant
  rw [plain_zro hf h,decide_eq_false h0]
def VV (f:Int) (x:Nat):Nat:=mant f x * 2 ^ (xpn f x + 2600).toNat
theorem VV_ne {f:Int} {x:Nat} (h:mant f x ≠ 0):VV f x ≠ 0:=Nat.mul_ne_zero h (Nat.ne_of_gt (Nat.two_pow_pos _))
theorem rootX_V {f m:Int} (hf:Fm f) {x:Nat} (h0:mant f x ≠ 0):rootX f m (mant f x) (xpn f x) = rootB f m (VV f x) (-1300):=by
  have hPl:=fP_le hf
  have hx:=xpn_tight hf x
  have go:∀ (n:Nat) (e:Int),n ≠ 0 → -1200 ≤ e ∧ e ≤ 1200 → rootB f m (n * 2 ^ 200) (e - 100) = rootB f m (n * 2 ^ (2 * e + 2600).toNat) (-1300):=fun n e hn he=>by
    obtain ⟨k,hk⟩:=Int.eq_ofNat_of_zero_le (show 0 ≤ e + 1200 by omega)
    have hX:2 ^ (2 * 100) ≤ n * 2 ^ 200:=by
      have:=Nat.mul_le_mul_right (2 ^ 200) (show 1 ≤ n by omega)
      rw [Nat.one_mul] at this
      exact this
    have hb:=isq_blen hX
    have hX0:n * 2 ^ 200 ≠ 0:=Nat.mul_ne_zero hn (by decide)
    have:=rootB_fine (f:=f) (m:=m) (k:=k) (E:=e - 100) hf hX0 (by omega)
    rw [← this,show e - 100 - (k:Int) = -1300 by omega]
    congr 1
    rw [Nat.mul_assoc,← Nat.pow_add,← Nat.pow_add]
    congr 2
    omega
  unfold rootX VV
  by_cases ho:xpn f x % 2 = 1
  · rw [if_pos ho,go _ _ (by omega) (by omega),Nat.mul_assoc,← Nat.pow_succ']
    congr 3
    omega
  · rw [if_neg ho,go _ _ h0 (by omega)]
    congr 3
    omega
end VL
namespace VL
open Go Vx
theorem T112_all {f:Int} {a:Nat} (ha:a < 2 ^ 64):∃ v:Int,T112 (f,(a:Int),()) = some (v,chk f a,()) ∧ (chk f a = 0 → v = (absF f a:Int)):=by
  by_cases h:chk f a = 0
  · exact ⟨_,by rw [T112_ok ha h,h],fun _=>rfl⟩
  · refine ⟨0,?_,fun h2=>absurd h2 h⟩
    show t112 S66.pre S66.F S115.pre S115.F f (a:Int) = _
    unfold t112
    have p0:=T66_eq f a ha
    simp only [pre66 p0,fun66 p0,cond_true,bne_iff_ne.2 h]
theorem T40_all {f:Int} {a:Nat} (ha:a < 2 ^ 64):∃ (v:DenS O40) ,T40 (f,(a:Int),()) = some v ∧ (v.2.1 = 0 ↔ chk f a = 0 ∧ eF f a ≠ fullF f):=by
  by_cases h:chk f a = 0
  · by_cases h2:eF f a = fullF f
    · exact ⟨_,T40_full h h2,⟨fun h3=>absurd (show (40:Int) = 0 from h3) (by decide),fun h3=>absurd h2 h3.2⟩⟩
    · exact ⟨_,T40_fin h h2,⟨fun _=>⟨h,h2⟩,fun _=>rfl⟩⟩
  · exact ⟨_,T40_bad ha h,⟨fun h3=>absurd h3 h,fun h3=>absurd h3.1 h⟩⟩
theorem fin_abs {f:Int} (hf:Fm f) {a:Nat} (h:eF f a ≠ fullF f):absF f a < infF f:=by
  rw [eF_abs hf] at h
  have hlt:=abs_lt' (f:=f) a
  have h2:absF f a / 2 ^ (fP f - 1) < 2 ^ (fW f - fP f):=by
    rw [Nat.div_lt_iff_lt_mul (Nat.two_pow_pos _),← Nat.pow_add]
    have:=fP_lt hf
    have:=fP_ge hf
    rw [show fW f - fP f + (fP f - 1) = fW f - 1 by omega]
    exact hlt
  have h3:absF f a / 2 ^ (fP f - 1) < fullF f:=by unfold fullF at *; omega
  rw [Nat.div_lt_iff_lt_mul (Nat.two_pow_pos _),Nat.mul_comm] at h3
  exact h3
theorem chkL_plain {f:Int} (hf:Fm f) {x:Nat} (h:x < infF f) (m:Int):chkL f m [x] = if m < 0 ∨ m > 5 then 3 else 0:=by
  unfold chkL okL
  rw [if_neg (show ¬ ¬ Fm f from fun h=>h hf),List.all_cons,List.all_nil,(plain_facts hf h).1]
  rfl
theorem sqrt_plain {f m:Int} (hf:Fm f) (hm:0 ≤ m ∧ m ≤ 5) {x:Nat} (h:x < infF f) :
    sqrtF f m x = if x = 0 then (0,0,0,()) else (((rootB f m (VV f x) (-1300)).1:Int),((rootB f m (VV f x) (-1300)).2:Int),0,()):=by
  obtain ⟨a1,a2,a3,a4,a5,a6⟩:=plain_facts hf h
  have hz:=plain_zro hf h
  have hc:=chkL_plain hf h m
  rw [if_neg (by omega)] at hc
  unfold sqrtF
  rw [hc,if_neg (by decide),a3,a2,a4,hz]
  by_cases h0:x = 0
  · rw [decide_eq_true h0,if_pos h0,h0]; rfl
  · rw [decide_eq_false h0,if_neg h0,rootX_V hf (plain_mant hf h h0)]; rfl
end VL
namespace VL
open Go Vx
theorem rst_zero {n:Nat} {e q:Int} (h:rstE n e q = 0):quoE n e q * 2 ^ (q - min e q).toNat = n * 2 ^ (e - min e q).toNat:=by
  by_cases hq:q ≤ e
  · rw [quoE_lo hq,show (q - min e q).toNat = 0 by omega,show min e q = q by omega,Nat.pow_zero,Nat.mul_one]
  · have hq:e < q:=by omega
    rw [rstE_hi hq] at h
    have hr:n % 2 ^ (q - e).toNat = 0:=by
      unfold clsR at h
      split at h
      · assumption
      · split at h
        · cases h
        · split at h <;> cases h
    rw [quoE_hi hq,show min e q = e by omega,show (e - e).toNat = 0 by omega,Nat.pow_zero,Nat.mul_one,Nat.mul_comm]
    have:=Nat.div_add_mod n (2 ^ (q - e).toNat)
    omega
theorem rnd_zero {f m:Int} (hf:Fm f) (neg:Bool) {n:Nat} {e:Int} (hn:n ≠ 0) (h0:(rndN f m neg n e false).2 = 0) :
    chk f (rndN f m neg n e false).1 = 0 ∧ sF f (rndN f m neg n e false).1 = neg ∧ eF f (rndN f m neg n e false).1 ≠ fullF f ∧ mant f (rndN f m neg n e false).1 ≠ 0 ∧
      mant f (rndN f m neg n e false).1 * 2 ^ (xpn f (rndN f m neg n e false).1 - min e (xpn f (rndN f m neg n e false).1)).toNat = n * 2 ^ (e - min e (xpn f (rndN f m neg n e false).1)).toNat:=by
  have hP:=fP_ge hf
  have hPl:=fP_le hf
  have hX15:=fX_ge hf
  have hbl1:=blen_pos hn
  unfold rndN at h0 ⊢
  by_cases ht:topE n e > fX f
  · rw [if_pos ht] at h0; cases h0
  rw [if_neg ht] at h0 ⊢
  dsimp only at h0 ⊢
  obtain ⟨l1,l2,l3⟩:=low_facts f hf (topE n e) ht
  by_cases h2:lowE f (topE n e) + (blen (cutN m neg n e (lowE f (topE n e)) false):Int) - 1 > fX f
  · rw [if_pos h2] at h0; cases h0
  rw [if_neg h2] at h0 ⊢
  dsimp only at h0 ⊢
  have hlow:lowE f (topE n e) = qm f ∨ (qm f < lowE f (topE n e) ∧ lowE f (topE n e) = topE n e - (fP f:Int) + 1):=by
    unfold lowE qm
    split
    · exact .inl rfl
    · by_cases h:topE n e = 1 - (fX f:Int)
      · left; rw [h]
      · right; exact ⟨by omega,rfl⟩
  generalize hq:lowE f (topE n e) = q at *
  have hr:rstE n e q = 0:=by
    by_cases hr:cutR n e q false = 0
    · exact hr
    · rw [if_neg hr] at h0
      split at h0 <;> cases h0
  have hcut:cutN m neg n e q false = quoE n e q:=by
    unfold cutN
    rw [if_neg (fun h=>h.1 hr)]
  rw [hcut] at h2 ⊢
  have hval:=rst_zero hr
  have hlt:quoE n e q < 2 ^ fP f:=quo_lt l1
  generalize hu:quoE n e q = u at *
  have hu0:u ≠ 0:=fun h=>by
    rw [h,Nat.zero_mul] at hval
    exact Nat.mul_ne_zero hn (Nat.ne_of_gt (Nat.two_pow_pos _)) hval.symm
  have hqm:(1 - (fX f:Int) - (fP f:Int) + 1) = qm f:=rfl
  rw [hqm]
  have h2P:=two_P hf
  have hpp:=Nat.two_pow_pos (fP f - 1)
  -- where the highest bit stands
  have hbig:q ≠ qm f → 2 ^ (fP f - 1) ≤ u:=fun hne=>by
    rcases hlow with h | ⟨h,h'⟩
    · exact absurd h hne
    · -- u * 2^q = n * 2^e is at least 2^top
      have ht2:topE n e = e + (blen n:Int) - 1:=rfl
      have hnl:=blen_le hn
      rcases Nat.lt_or_ge u (2 ^ (fP f - 1)) with hl | hl
      · exfalso
        have k1:u * 2 ^ (q - min e q).toNat < 2 ^ (fP f - 1) * 2 ^ (q - min e q).toNat:=Nat.mul_lt_mul_of_pos_right hl (Nat.two_pow_pos _)
        rw [hval,← Nat.pow_add] at k1
        have k2:2 ^ (blen n - 1) * 2 ^ (e - min e q).toNat ≤ n * 2 ^ (e - min e q).toNat:=Nat.mul_le_mul_right _ hnl
        rw [← Nat.pow_add] at k2
        have k3:=(Nat.pow_lt_pow_iff_right (a:=2) (by decide)).1 (Nat.lt_of_le_of_lt k2 k1)
        omega
      · exact hl
  have hblu:blen u ≤ fP f:=blen_bound hlt
  obtain ⟨d,hd⟩:=Int.eq_ofNat_of_zero_le (show 0 ≤ q - qm f by rcases hlow with h | ⟨h,_⟩ <;> omega)
  rw [hd,Int.toNat_natCast]
  have hfull:fullF f = 2 * fX f + 1:=by unfold fullF; rw [← fX_eq hf]
  have hinf:infF f = 2 ^ (fP f - 1) * fullF f:=rfl
  have hroom:=inf_room hf
  rw [add_sgn]
  by_cases hs:u < 2 ^ (fP f - 1)
  · have hqe:q = qm f:=Classical.byContradiction fun h=>absurd (hbig h) (by omega)
    have hd0:d = 0:=by omega
    rw [hd0,Nat.zero_mul,Nat.zero_add]
    have hul:u < 2 ^ (fW f - 1):=by
      have:2 ^ (fP f - 1) * 1 ≤ 2 ^ (fP f - 1) * fullF f:=Nat.mul_le_mul_left _ (full_pos hf)
      omega
    have ha:=mk_abs (f:=f) neg hul
    have hE:eF f (mkF f neg u) = 0:=by rw [eF_abs hf,ha,Nat.div_eq_of_lt hs]
    have hM:mF f (mkF f neg u) = u:=by rw [mF_abs hf,ha,Nat.mod_eq_of_lt hs]
    have hm:mant f (mkF f neg u) = u:=by unfold mant; rw [if_pos hE,hM]
    have hx:xpn f (mkF f neg u) = q:=by unfold xpn; rw [if_pos hE,hqe]; unfold qm; omega
    refine ⟨mk_chk hf neg hul,mk_sgn neg hul,by rw [hE]; have:=full_pos hf; omega,by rw [hm]; exact hu0,?_⟩
    rw [hm,hx]; exact hval
  · have hbu:blen u = fP f:=by
      have:=blen_of (n:=u) (k:=fP f - 1) (by omega) (by rw [show fP f - 1 + 1 = fP f by omega]; exact hlt)
      omega
    have hdl:d ≤ 2 * fX f - 1:=by
      have:qm f = 1 - (fX f:Int) - (fP f:Int) + 1:=rfl
      omega
    obtain ⟨r,hr2⟩:∃ r,u = 2 ^ (fP f - 1) + r:=⟨u - 2 ^ (fP f - 1),by omega⟩
    have hrl:r < 2 ^ (fP f - 1):=by omega
    have hv:d * 2 ^ (fP f - 1) + u = r + 2 ^ (fP f - 1) * (d + 1):=by rw [hr2,Nat.mul_add,Nat.mul_comm]; omega
    rw [hv]
    have hle:2 ^ (fP f - 1) * (d + 1 + 1) ≤ 2 ^ (fP f - 1) * fullF f:=Nat.mul_le_mul_left _ (by omega)
    rw [Nat.mul_add _ (d + 1)] at hle
    have hul:r + 2 ^ (fP f - 1) * (d + 1) < 2 ^ (fW f - 1):=by omega
    have ha:=mk_abs (f:=f) neg hul
    have hE:eF f (mkF f neg (r + 2 ^ (fP f - 1) * (d + 1))) = d + 1:=by
      rw [eF_abs hf,ha,Nat.add_mul_div_left _ _ hpp,Nat.div_eq_of_lt hrl,Nat.zero_add]
    have hM:mF f (mkF f neg (r + 2 ^ (fP f - 1) * (d + 1))) = r:=by
      rw [mF_abs hf,ha,Nat.add_mul_mod_self_left,Nat.mod_eq_of_lt hrl]
    have hm:mant f (mkF f neg (r + 2 ^ (fP f - 1) * (d + 1))) = u:=by
      unfold mant; rw [if_neg (by omega),hM,hr2]; omega
    have hx:xpn f (mkF f neg (r + 2 ^ (fP f - 1) * (d + 1))) = q:=by
      unfold xpn; rw [if_neg (by omega),hE]
      have:qm f = 1 - (fX f:Int) - (fP f:Int) + 1:=rfl
      omega
    refine ⟨mk_chk hf neg hul,mk_sgn neg hul,by rw [hE]; omega,by rw [hm]; exact hu0,?_⟩
    rw [hm,hx]; exact hval
theorem zro_absF {f:Int} (hf:Fm f) (a:Nat):(absF f a = 0) = (zro f a = true):=by
  unfold zro
  rw [eF_abs hf,mF_abs hf]
  have hp:=Nat.two_pow_pos (fP f - 1)
  apply propext
  rw [Bool.and_eq_true,beq_iff_eq,beq_iff_eq]
  constructor
  · intro h; rw [h]; exact ⟨Nat.zero_div _,Nat.zero_mod _⟩
  · rintro ⟨h1,h2⟩
    have:=Nat.div_add_mod (absF f a) (2 ^ (fP f - 1))
    rw [h1,h2,Nat.mul_zero] at this
    omega
end VL
namespace VL
open Go Vx
theorem rnd_c {f m:Int} {neg:Bool} (hf:Fm f) {n n':Nat} {e e':Int} (c:Int) (hn:n ≠ 0) (hn':n' ≠ 0) (h1:c ≤ e) (h2:c ≤ e') (h:n * 2 ^ (e - c).toNat = n' * 2 ^ (e' - c).toNat):rndN f m neg n e false = rndN f m neg n' e' false:=by
  have a1:=rnd_scale (m:=m) (neg:=neg) hf hn (e - c).toNat c
  have a2:=rnd_scale (m:=m) (neg:=neg) hf hn' (e' - c).toNat c
  rw [h,a2] at a1
  rw [show c + ((e - c).toNat:Int) = e by omega,show c + ((e' - c).toNat:Int) = e' by omega] at a1
  exact a1.symm
theorem rnd_zero_c {f m:Int} (hf:Fm f) (neg:Bool) {n:Nat} {e:Int} (c:Int) (hn:n ≠ 0) (h0:(rndN f m neg n e false).2 = 0) (h1:c ≤ e) (h2:c ≤ xpn f (rndN f m neg n e false).1) :
    chk f (rndN f m neg n e false).1 = 0 ∧ sF f (rndN f m neg n e false).1 = neg ∧ eF f (rndN f m neg n e false).1 ≠ fullF f ∧ mant f (rndN f m neg n e false).1 ≠ 0 ∧
      mant f (rndN f m neg n e false).1 * 2 ^ (xpn f (rndN f m neg n e false).1 - c).toNat = n * 2 ^ (e - c).toNat:=by
  obtain ⟨q1,q2,q3,q4,q5⟩:=rnd_zero hf neg hn h0
  refine ⟨q1,q2,q3,q4,?_⟩
  generalize (rndN f m neg n e false).1 = r at *
  have e1:(xpn f r - c).toNat = (xpn f r - min e (xpn f r)).toNat + (min e (xpn f r) - c).toNat:=by omega
  have e2:(e - c).toNat = (e - min e (xpn f r)).toNat + (min e (xpn f r) - c).toNat:=by omega
  rw [e1,e2,Nat.pow_add,Nat.pow_add,← Nat.mul_assoc,← Nat.mul_assoc,q5]
theorem self_plain {f:Int} (hf:Fm f) (m:Int) {x:Nat} (h:x < infF f) (h0:x ≠ 0):rndN f m false (mant f x) (xpn f x) false = (x,0):=by
  obtain ⟨a1,a2,_,_,a5,_⟩:=plain_facts hf h
  have:=rnd_self (m:=m) hf a1 a5 (plain_mant hf h h0)
  rwa [a2] at this
theorem mant_of_abs {f:Int} (hf:Fm f) (a:Nat):mant f (absF f a) = mant f a ∧ xpn f (absF f a) = xpn f a:=by
  have h1:absF f (absF f a) = absF f a:=Nat.mod_mod _ _
  have e1:eF f (absF f a) = eF f a:=by rw [eF_abs hf,eF_abs hf,h1]
  have e2:mF f (absF f a) = mF f a:=by rw [mF_abs hf,mF_abs hf,h1]
  unfold mant xpn
  rw [e1,e2]
  exact ⟨rfl,rfl⟩
theorem rootB_sq {f m:Int} (R:Nat) (E:Int):rootB f m (R * R) E = rndN f m false R E false:=by
  unfold rootB
  rw [isq_sq,if_pos rfl]
theorem mulA_sq {f m:Int} (hf:Fm f) (hm:0 ≤ m ∧ m ≤ 5) {a:Nat} (h:chk f a = 0) (hfin:eF f a ≠ fullF f) :
    mulA f m a a = if absF f a = 0 then (0,0,0,()) else (((rndN f m false (mant f a * mant f a) (xpn f a + xpn f a) false).1:Int),((rndN f m false (mant f a * mant f a) (xpn f a + xpn f a) false).2:Int),0,()):=by
  obtain ⟨hn,hi⟩:nan f a = false ∧ isInf f a = false:=⟨(part_vals hfin).1,by unfold isInf; rw [beq_eq_false_iff_ne.2 hfin]; rfl⟩
  have hs:(!(sF f a == sF f a)) = false:=by rw [beq_self_eq_true]; rfl
  unfold mulA mulR
  rw [if_neg (show ¬ ¬ Fm f from fun h=>h hf),if_neg (show ¬ (m < 0 ∨ m > 5) by omega),if_neg (show ¬ chk f a ≠ 0 from fun h'=>h' h),if_neg (show ¬ chk f a ≠ 0 from fun h'=>h' h),hs,hn,hi,Bool.or_self,Bool.or_self]
  cases hz:zro f a
  · rw [if_neg (fun h=>by rw [zro_absF hf,hz] at h; cases h)]
    rfl
  · rw [if_pos (by rw [zro_absF hf]; exact hz)]
    rfl
theorem sqrt_back {f m:Int} (hf:Fm f) (hm:0 ≤ m ∧ m ≤ 5) {a:Nat} (h:chk f a = 0) (hfin:eF f a ≠ fullF f) (h0:(mulA f m a a).2.1 = 0) :
    ∃ s:Nat,(mulA f m a a).1 = (s:Int) ∧ s < infF f ∧ sqrtF f m s = ((absF f a:Int),0,0,()):=by
  have hp:=fin_abs hf hfin
  have hinf:=infF_pos hf
  rw [mulA_sq hf hm h hfin] at h0 ⊢
  by_cases hz:absF f a = 0
  · rw [if_pos hz]
    exact ⟨0,rfl,by omega,by rw [sqrt_plain hf hm (by omega),if_pos rfl,hz]; rfl⟩
  rw [if_neg hz] at h0 ⊢
  obtain ⟨m1,m2⟩:=mant_of_abs hf a
  have hm0:mant f a ≠ 0:=by rw [← m1]; exact plain_mant hf hp hz
  have hx:=xpn_tight hf a
  have hq:=qm_ge hf
  have h0:(rndN f m false (mant f a * mant f a) (xpn f a + xpn f a) false).2 = 0:=by
    have:((rndN f m false (mant f a * mant f a) (xpn f a + xpn f a) false).2:Int) = 0:=h0
    omega
  have hxs:=xpn_tight hf (rndN f m false (mant f a * mant f a) (xpn f a + xpn f a) false).1
  obtain ⟨q1,q2,q3,q4,q5⟩:=rnd_zero_c hf false (-2600) (Nat.mul_ne_zero hm0 hm0) h0 (by omega) (by omega)
  generalize (rndN f m false (mant f a * mant f a) (xpn f a + xpn f a) false).1 = s at *
  have hsp:absF f s = s:=by
    unfold sF at q2
    rw [bne_eq_false_iff_eq] at q2
    have:=Nat.div_add_mod s (2 ^ (fW f - 1))
    rw [q2] at this
    unfold absF
    omega
  have hsi:s < infF f:=by
    have:=fin_abs hf q3
    omega
  have hs0:s ≠ 0:=fun h=>by
    have hz:=plain_zro hf hsi
    rw [decide_eq_true h] at hz
    have:=zro_mantB f s
    rw [hz,beq_iff_eq] at this
    omega
  refine ⟨s,rfl,hsi,?_⟩
  have hV:VV f s = (mant f a * 2 ^ (xpn f a + 1300).toNat) * (mant f a * 2 ^ (xpn f a + 1300).toNat):=by
    unfold VV
    rw [show xpn f s + 2600 = xpn f s - -2600 by omega,q5,mul_sq,← Nat.pow_add]
    congr 2
    omega
  rw [sqrt_plain hf hm hsi,if_neg hs0,hV,rootB_sq]
  have e1:rndN f m false (mant f a * 2 ^ (xpn f a + 1300).toNat) (-1300) false = (absF f a,0):=by
    rw [rnd_scale hf hm0,show (-1300:Int) + ((xpn f a + 1300).toNat:Int) = xpn f a by omega,← m1,← m2]
    exact self_plain hf m hp hz
  rw [e1]; rfl
theorem zeroPat {f:Int} (hf:Fm f) (z:Bool):sgnF f z < 2 ^ 64 ∧ chk f (sgnF f z) = 0 ∧ nan f (sgnF f z) = false ∧ isInf f (sgnF f z) = false ∧ zro f (sgnF f z) = true ∧ mant f (sgnF f z) = 0:=by
  obtain ⟨k1,k2,k3,k4⟩:=zero_vals hf z
  rw [← sgn_zero] at k1 k2 k3 k4
  have hfin:eF f (sgnF f z) ≠ fullF f:=by
    rw [k2]
    have:=full_pos hf
    omega
  refine ⟨pat_lt k1,k1,(part_vals hfin).1,?_,?_,k3⟩
  · unfold isInf
    rw [beq_eq_false_iff_ne.2 hfin]; rfl
  · have:=zro_mantB f (sgnF f z)
    rw [← this,k3]; rfl
theorem hypX_one {f m:Int} (hf:Fm f) {n:Nat} (h0:n ≠ 0) (x y:Int):hypX f m n x 0 y = rndN f m false n x false ∧ hypX f m 0 y n x = rndN f m false n x false:=by
  have key:∀ l:Int,l ≤ x → rootB f m (n * n * 2 ^ (2 * (x - l).toNat) * 2 ^ 200) (l - 100) = rndN f m false n x false:=fun l hl=>by
    have e1:n * n * 2 ^ (2 * (x - l).toNat) * 2 ^ 200 = (n * 2 ^ ((x - l).toNat + 100)) * (n * 2 ^ ((x - l).toNat + 100)):=by
      rw [mul_sq,← Nat.pow_add,Nat.mul_assoc,← Nat.pow_add]
      congr 2
      omega
    rw [e1,rootB_sq,rnd_scale hf h0]
    congr 1
    omega
  unfold hypX sqsum
  constructor
  · rw [Nat.mul_zero,Nat.zero_mul,Nat.add_zero]
    exact key _ (by omega)
  · rw [Nat.mul_zero,Nat.zero_mul,Nat.zero_add]
    exact key _ (by omega)
theorem hyp_zero {f m:Int} (hf:Fm f) (hm:0 ≤ m ∧ m ≤ 5) {a:Nat} (h:chk f a = 0) (hfin:eF f a ≠ fullF f) (z:Bool) :
    hypF f m a (sgnF f z) = ((absF f a:Int),0,0,()) ∧ hypF f m (sgnF f z) a = ((absF f a:Int),0,0,()):=by
  obtain ⟨z1,z2,z3,z4,z5,z6⟩:=zeroPat hf z
  have hn:=(part_vals hfin).1
  have hi:isInf f a = false:=by unfold isInf; rw [beq_eq_false_iff_ne.2 hfin]; rfl
  have c1:chkL f m [a,sgnF f z] = 0:=by
    unfold chkL okL
    rw [if_neg (show ¬ ¬ Fm f from fun h=>h hf),if_neg (show ¬ (m < 0 ∨ m > 5) by omega),List.all_cons,List.all_cons,List.all_nil,h,z2]
    rfl
  have c2:chkL f m [sgnF f z,a] = 0:=by
    unfold chkL okL
    rw [if_neg (show ¬ ¬ Fm f from fun h=>h hf),if_neg (show ¬ (m < 0 ∨ m > 5) by omega),List.all_cons,List.all_cons,List.all_nil,h,z2]
    rfl
  have hp:=fin_abs hf hfin
  obtain ⟨m1,m2⟩:=mant_of_abs hf a
  unfold hypF
  rw [c1,c2,if_neg (by decide),if_neg (by decide),hn,hi,snan_nan hn,z3,z4,z5,snan_nan z3,z6,Bool.and_true,Bool.true_and]
  cases hz:zro f a
  · have hz0:absF f a ≠ 0:=fun h=>by rw [zro_absF hf,hz] at h; cases h
    have hm0:=zro_mant hz
    obtain ⟨k1,k2⟩:=hypX_one (m:=m) hf hm0 (xpn f a) (xpn f (sgnF f z))
    have hs:=self_plain hf m hp hz0
    rw [m1,m2] at hs
    rw [k1,k2,hs]
    exact ⟨rfl,rfl⟩
  · have hz0:absF f a = 0:=by rw [zro_absF hf]; exact hz
    rw [hz0]
    exact ⟨rfl,rfl⟩
theorem square_back {f m:Int} (hf:Fm f) (hm:0 ≤ m ∧ m ≤ 5) {x:Nat} (h:x < infF f) (h0:(sqrtF f m x).2.1 = 0) :
    ∃ r:Nat,(sqrtF f m x).1 = (r:Int) ∧ r < 2 ^ 64 ∧ mulA f m r r = ((x:Int),0,0,()):=by
  have hinf:=infF_pos hf
  rw [sqrt_plain hf hm h] at h0 ⊢
  by_cases hx0:x = 0
  · rw [if_pos hx0]
    refine ⟨0,rfl,by decide,?_⟩
    obtain ⟨a1,_,_,_,a5,_⟩:=plain_facts hf (x:=0) (by omega)
    rw [mulA_sq hf hm a1 a5,if_pos (show absF f 0 = 0 from Nat.zero_mod _),hx0]; rfl
  rw [if_neg hx0] at h0 ⊢
  have hm0:=plain_mant hf h hx0
  have hV:=VV_ne hm0
  have hq:=qm_ge hf
  obtain ⟨d,hd⟩:=Int.eq_ofNat_of_zero_le (show 0 ≤ qm f + 1300 by omega)
  have hR:=isq_pos hV
  have h0:(rootB f m (VV f x) (-1300)).2 = 0:=by
    have:((rootB f m (VV f x) (-1300)).2:Int) = 0:=h0
    omega
  have hex:isq (VV f x) * isq (VV f x) = VV f x:=by
    rcases Classical.em (isq (VV f x) * isq (VV f x) = VV f x) with he | he
    · exact he
    · exfalso
      obtain ⟨B,inex,_,_,_,_,k5,k6⟩:=sticky_floor hf (R:=isq (VV f x)) (by omega) d (!decide (isq (VV f x) * isq (VV f x) = VV f x))
      have k6:=k6 m hm
      rw [rootB_M2,show qm f - (d:Int) = -1300 by omega] at k6
      rw [decide_eq_false he,Bool.not_false,Bool.true_or] at k5
      have:=k6.2.2.2.2.1 k5
      omega
  have hB:rootB f m (VV f x) (-1300) = rndN f m false (isq (VV f x)) (-1300) false:=by
    unfold rootB
    rw [if_pos hex]
  rw [hB] at h0 ⊢
  have hxr:=xpn_tight hf (rndN f m false (isq (VV f x)) (-1300) false).1
  obtain ⟨q1,q2,q3,q4,q5⟩:=rnd_zero_c hf false (-1300) (by omega) h0 (by omega) (by omega)
  generalize (rndN f m false (isq (VV f x)) (-1300) false).1 = r at *
  refine ⟨r,rfl,pat_lt q1,?_⟩
  have hr0:absF f r ≠ 0:=fun h=>by
    rw [zro_absF hf] at h
    have:=zro_mantB f r
    rw [h,beq_iff_eq] at this
    omega
  rw [mulA_sq hf hm q1 q3,if_neg hr0]
  have hx:=xpn_tight hf x
  have hs:=self_plain hf m h hx0
  have e1:rndN f m false (mant f r * mant f r) (xpn f r + xpn f r) false = rndN f m false (mant f x) (xpn f x) false:=by
    refine rnd_c hf (-2600) (Nat.mul_ne_zero q4 q4) hm0 (by omega) (by omega) ?_
    have e2:mant f r * mant f r * 2 ^ (xpn f r + xpn f r - -2600).toNat = (mant f r * 2 ^ (xpn f r - -1300).toNat) * (mant f r * 2 ^ (xpn f r - -1300).toNat):=by
      rw [mul_sq,← Nat.pow_add]
      congr 2
      omega
    rw [e2,q5,Int.sub_self,Int.toNat_zero,Nat.pow_zero,Nat.mul_one,hex]
    unfold VV
    rw [show xpn f x + 2600 = xpn f x - -2600 by omega]
  rw [e1,hs]; rfl
theorem T357_eq (f m:Int) {a:Nat} (ha:a < 2 ^ 64):T357 (f,m,(a:Int),()) = some (mulA f m a a):=by
  show t357 S354.pre S354.F f m (a:Int) = _
  unfold t357
  have p0:=T354_eq f m ha ha
  simp only [pre354 p0,fun354 p0,cond_true]
theorem mulA_err (f m:Int) (a:Nat):(mulA f m a a).2.2.1 = 0 → Fm f ∧ 0 ≤ m ∧ m ≤ 5 ∧ chk f a = 0:=by
  unfold mulA
  by_cases hf:Fm f
  · rw [if_neg (show ¬ ¬ Fm f from fun h=>h hf)]
    by_cases hm:m < 0 ∨ m > 5
    · rw [if_pos hm]; intro h; exact absurd (show (3:Int) = 0 from h) (by decide)
    · rw [if_neg hm]
      by_cases hc:chk f a = 0
      · exact fun _=>⟨hf,by omega,by omega,hc⟩
      · rw [if_pos hc]; intro h; exact absurd h hc
  · rw [if_pos hf]; intro h; exact absurd (show (2:Int) = 0 from h) (by decide)
theorem sqrt_nat {f m:Int} (hf:Fm f) (hm:0 ≤ m ∧ m ≤ 5) {x:Nat} (h:x < infF f):(sqrtF f m x).2.2.1 = 0:=by
  rw [sqrt_plain hf hm h]
  split <;> rfl
theorem mulA_nat {f m:Int} (hf:Fm f) (hm:0 ≤ m ∧ m ≤ 5) {a:Nat} (h:chk f a = 0) (hfin:eF f a ≠ fullF f):∃ s:Nat,(mulA f m a a).1 = (s:Int) ∧ s < 2 ^ 64:=by
  rw [mulA_sq hf hm h hfin]
  split
  · exact ⟨0,rfl,by decide⟩
  · refine ⟨_,rfl,?_⟩
    rw [rnd_M hf]
    have h1:=rndM_le hf m false (mant f a * mant f a) (xpn f a + xpn f a)
    have h2:=infF_lt hf
    have h3:=fW_le hf
    have h4:2 ^ (fW f - 1) ≤ 2 ^ 63:=Nat.pow_le_pow_right (by decide) (by omega)
    show (rndM f m false (mant f a * mant f a) (xpn f a + xpn f a)).1 + 0 < 2 ^ 64
    omega
theorem T358_true (f m:Int) {a:Nat} (ha:a < 2 ^ 64):T358 (f,m,(a:Int),()) = some (true,()):=by
  show t358 S337.pre S337.F S40.pre S40.F S112.pre S112.F S118.pre S118.F S336.pre S336.F S318.pre S318.F S357.pre S357.F f m (a:Int) = _
  unfold t358
  have p0:=T337_true
  obtain ⟨v1,p1,w1⟩:=T112_all (f:=f) ha
  obtain ⟨v3,p3,w3⟩:=T40_all (f:=f) ha
  have p4:=T357_eq f m ha
  dsimp only
  simp only [pre337 p0,fun337 p0,cond_true,Bool.not_true,cond_false,pre112 p1,fun112 p1,pre40 p3,fun40 p3,pre357 p4,fun357 p4]
  cases hbad:(((v3.2.1 != 0) || (chk f a != 0)) || ((mulA f m a a).2.2.1 != 0))
  case true=>rfl
  rw [Bool.or_eq_false_iff,Bool.or_eq_false_iff,bne_eq_false_iff_eq,bne_eq_false_iff_eq,bne_eq_false_iff_eq] at hbad
  obtain ⟨⟨b3,b1⟩,b4⟩:=hbad
  obtain ⟨hf,hm0,hm5,_⟩:=mulA_err f m a b4
  have hm:0 ≤ m ∧ m ≤ 5:=⟨hm0,hm5⟩
  have hfin:=(w3.1 b3).2
  have hp:=fin_abs hf hfin
  have hp64:=(plain_lt hf hp).2.2
  have p5:=T118_ok hf (andI .u64 (a:Int) 1 == 1)
  obtain ⟨hz64,_⟩:=zeroPat hf (andI .u64 (a:Int) 1 == 1)
  obtain ⟨h1,h2⟩:=hyp_zero hf hm b1 hfin (andI .u64 (a:Int) 1 == 1)
  generalize (andI .u64 (a:Int) 1 == 1) = z at *
  have p6:=T336_eq f m ha hz64
  have p7:=T336_eq f m hz64 ha
  rw [h1] at p6
  rw [h2] at p7
  obtain ⟨s,hs1,hs2⟩:=mulA_nat hf hm b1 hfin
  have p8:=T318_eq f m hs2
  have p9:=T318_eq f m hp64
  have e9:=sqrt_nat hf hm hp
  rw [w1 b1]
  simp only [cond_false,hs1,pre318 p8,fun318 p8,cond_true,pre118 p5,fun118 p5,pre336 p6,fun336 p6,pre336 p7,fun336 p7,bne_self_eq_false,Bool.or_self,pre318 p9,fun318 p9,e9,Bool.false_or]
  have key:(((mulA f m a a).2.1 == 0) && (((sqrtF f m s).1 != (absF f a:Int)) || ((sqrtF f m s).2.1 != 0) || ((sqrtF f m s).2.2.1 != 0))) = false:=by
    cases hg:(mulA f m a a).2.1 == 0
    · rfl
    · obtain ⟨s',k1,_,k3⟩:=sqrt_back hf hm b1 hfin (by rwa [beq_iff_eq] at hg)
      have:s' = s:=by rw [hs1] at k1; omega
      rw [← this,k3,bne_self_eq_false]; rfl
  rw [key,cond_false]
  cases hg:((sqrtF f m (absF f a)).2.1 != 0)
  · rw [bne_eq_false_iff_eq] at hg
    obtain ⟨r,k1,k2,k3⟩:=square_back hf hm hp hg
    have p10:=T357_eq f m k2
    rw [k3] at p10
    simp only [cond_false,k1,pre357 p10,fun357 p10,cond_true,beq_self_eq_true,Bool.and_self]
  · rfl
end VL
namespace Vx
open Go Go.RowKit Go.ChangeShapes Go.WideShapes
def wfD:(τ:Shape) → Den τ → Prop
  | .int k,n=>k.min ≤ n ∧ n ≤ k.max
  | .flt _,_=>True
  | .slice e,xs=>xs.length < lim ∧ ∀ x ∈ xs,wfD e x
  | .pair a b,x=>wfD a x.1 ∧ wfD b x.2
  | .bool,_=>True
  | .str,_=>True
  | .fn,_=>True
  | .unit,_=>True
theorem DRep.wfD {w:World} {S:Nat → Prop}:∀ {τ:Shape} {x:Den τ} {cs:List Value},DRep w S τ x cs → wfD τ x
  | .int _,_,_,h=>h.2
  | .flt _,_,_,_=>trivial
  | .bool,_,_,_=>trivial
  | .str,_,_,_=>trivial
  | .fn,_,_,_=>trivial
  | .unit,_,_,_=>trivial
  | .slice _,xs,_,⟨A,c,_,h1,h2,h3⟩=>by
    refine ⟨Nat.lt_of_le_of_lt h1 h2,fun x hx=>?_⟩
    obtain ⟨r,o,vs,T,fz,_,_,_,h⟩:=h3 (List.ne_nil_of_mem hx)
    obtain ⟨i,hi⟩:=List.getElem?_of_mem hx
    obtain ⟨ds,hd,_⟩:=h i x hi
    exact hd.wfD
  | .pair _ _,_,_,⟨c1,c2,_,h1,h2⟩=>⟨h1.wfD,h2.wfD⟩
def wfS:(sg:Sig) → DenS sg → Prop
  | [],_=>True
  | (_,τ) :: r,x=>wfD τ x.1 ∧ wfS r x.2
def undat {H:Type}:(τ:Shape) → (DataW H → Option (Den τ)) × (List (DataW H) → Option (Den τ))
  | .int k=>(fun d=>match d with | .lit (.int k' n)=>if k' = k then some n else none | _=>none,fun _=>none)
  | .bool=>(fun d=>match d with | .lit (.bool b)=>some b | _=>none,fun _=>none)
  | .unit=>(fun d=>match d with | .agg []=>some () | _=>none,fun l=>match l with | []=>some () | _=>none)
  | .pair a b =>
    let f:=fun l=>match l with
      | d :: r=>(match (undat a).1 d,(undat b).2 r with | some x,some y=>some (x,y) | _,_=>none)
      | []=>none
    (fun d=>match d with | .agg l=>f l | _=>none,f)
  | .flt _=>(fun _=>none,fun _=>none)
  | .str=>(fun _=>none,fun _=>none)
  | .fn=>(fun _=>none,fun _=>none)
  | .slice _=>(fun _=>none,fun _=>none)
def fitF (P:Program) (g:TypeId → Shape → Bool):List Field → Nat → Shape → Bool
  | [],_,.unit=>true
  | f :: fs,o,.pair a b=>(f.offset == o) && (P.cellsOf f.type == a.width) && g f.type a && fitF P g fs (o + a.width) b
  | _,_,_=>false
def fitB (P:Program):Nat → TypeId → Shape → Bool
  | 0,_,_=>false
  | n + 1,t,τ=>match P.underlying t with
    | some (.int k)=>(match τ with | .int k'=>decide (k = k') | _=>false)
    | some .bool=>(match τ with | .bool=>true | _=>false)
    | some (.slice e)=>(match τ with | .slice σ=>(P.cellsOf e == σ.width) && decide (0 < σ.width) && fitB P n e σ | _=>false)
    | some (.struct fs)=>(P.cellsOf t == τ.width) && fitF P (fitB P n) fs.toList 0 τ
    | _=>false
theorem choose_list {A:Type} {Q:Nat → A → Prop}:∀ (n:Nat),(∀ i,i < n → ∃ x,Q i x) → ∃ xs:List A,xs.length = n ∧ ∀ i x,xs[i]? = some x → Q i x
  | 0,_=>⟨[],rfl,fun i x h=>by simp at h⟩
  | n + 1,h=>by
    obtain ⟨xs,h1,h2⟩:=choose_list n fun i hi=>h i (by omega)
    obtain ⟨x,hx⟩:=h n (by omega)
    refine ⟨xs ++ [x],by simp [h1],fun i y hy=>?_⟩
    rcases Nat.lt_or_ge i n with hi | hi
    · rw [List.getElem?_append_left (by omega)] at hy
      exact h2 i y hy
    · rw [List.getElem?_append_right (by omega)] at hy
      have:i = n:=by
        have:=(List.getElem?_eq_some_iff.1 hy).1
        simp at this; omega
      subst this
      simp [h1] at hy
      exact hy ▸ hx
theorem wf_int {k:IntKind} {n:Int} (h:(Lit.int k n).wf = true):k.min ≤ n ∧ n ≤ k.max:=by
  simpa [Lit.wf] using h
section
variable {H:Type} {enc:TypeId × Value → H} {P:Program} {W:World} {spare:Nat → Bool} {held:Bool}
theorem fitF_ok {n:Nat} {m:Nat} {cs:List Value} (ih:∀ (t:TypeId) (τ:Shape) (cs:List Value) (d:DataW H) (p:List MemPlace),fitB P n t τ = true → DataW.trod enc P W 0 spare held m t cs = some (d,p) → ∃ x:Den τ,DRep W (fun q=>q < W.heap.size) τ x cs ∧ ∀ y,(undat τ).1 d = some y → x = y) :
    ∀ (l:List Field) (o:Nat) (τ:Shape) (xs:List (DataW H × List MemPlace)),fitF P (fitB P n) l o τ = true → xs.length = l.length → cs.length = o + τ.width →
      (∀ (i:Nat) (f:Field),l[i]? = some f → DataW.trod enc P W 0 spare held m f.type ((cs.drop f.offset).take (P.cellsOf f.type)) = xs[i]?) →
      ∃ x:Den τ,DRep W (fun q=>q < W.heap.size) τ x (cs.drop o) ∧ ∀ y,(undat τ).2 (xs.map (·.1)) = some y → x = y
  | [],o,τ,xs,hf,hx,hl,_=>by
    cases τ <;> simp [fitF] at hf
    refine ⟨(),?_,fun _ _=>rfl⟩
    show cs.drop o = []
    apply List.drop_eq_nil_of_le
    simp [Shape.width] at hl
    omega
  | f :: fs,o,τ,xs,hf,hx,hl,h=>by
    cases τ with
    | pair a b =>
      simp only [fitF,Bool.and_eq_true,beq_iff_eq] at hf
      obtain ⟨⟨⟨ho,hc⟩,hg⟩,hr⟩:=hf
      cases xs with
      | nil=>simp at hx
      | cons x0 xs =>
        have h0:=h 0 f rfl
        rw [ho,hc] at h0
        simp only [List.getElem?_cons_zero] at h0
        obtain ⟨xa,ha,hua⟩:=ih f.type a _ x0.1 x0.2 hg h0
        simp only [Shape.width] at hl
        obtain ⟨xb,hb,hub⟩:=fitF_ok ih fs (o + a.width) b xs hr (by simpa using hx) (by rw [hl]; omega) fun i g hi=>by
          have:=h (i + 1) g (by simpa using hi)
          simpa using this
        refine ⟨(xa,xb),⟨(cs.drop o).take a.width,cs.drop (o + a.width),?_,ha,hb⟩,fun y hy=>?_⟩
        · rw [← List.drop_drop,List.take_append_drop]
        · simp only [undat,List.map_cons] at hy
          split at hy
          · rename_i e1 e2
            have:=hua _ e1; have:=hub _ e2
            subst_vars
            exact Option.some.inj hy
          · cases hy
    | _=>simp [fitF] at hf
theorem fit_ok:∀ (n:Nat) (m:Nat) (t:TypeId) (τ:Shape) (cs:List Value) (d:DataW H) (p:List MemPlace),fitB P n t τ = true → DataW.trod enc P W 0 spare held m t cs = some (d,p) →
    ∃ x:Den τ,DRep W (fun q=>q < W.heap.size) τ x cs ∧ ∀ y,(undat τ).1 d = some y → x = y
  | 0,_,_,_,_,_,_,h,_=>by simp [fitB] at h
  | n + 1,m,t,τ,cs,d,p,h,ht=>by
    unfold fitB at h
    split at h
    · rename_i k hk
      cases τ with
      | int k' =>
        simp only [decide_eq_true_eq] at h
        subst h
        obtain ⟨v,hv,hx,hw⟩:=DataW.trod_int hk ht
        simp only [Prod.mk.injEq] at hx
        refine ⟨v,⟨hv,wf_int hw⟩,fun y hy=>?_⟩
        rw [hx.1] at hy
        simp only [undat,if_true] at hy
        exact Option.some.inj hy
      | _=>cases h
    · rename_i hk
      cases τ with
      | bool =>
        obtain ⟨v,hv,hx⟩:=DataW.trod_bool hk ht
        simp only [Prod.mk.injEq] at hx
        refine ⟨v,hv,fun y hy=>?_⟩
        rw [hx.1] at hy
        simp only [undat] at hy
        exact Option.some.inj hy
      | _=>cases h
    · rename_i e hk
      cases τ with
      | slice σ =>
        simp only [Bool.and_eq_true,beq_iff_eq,decide_eq_true_eq] at h
        obtain ⟨⟨hc,hpos⟩,hf⟩:=h
        rcases DataW.trod_slice hk ht with ⟨hcs,hx⟩ | ⟨a,len,cap,elems,rest,m',rfl,hcs,hx,hb,hlc,hcap,hlen,hel,_⟩
        · exact ⟨[],⟨none,0,hcs,Nat.le_refl _,by decide,fun h=>absurd rfl h⟩,fun y hy=>by simp [undat] at hy⟩
        · have each:∀ i,i < len → ∃ x:Den σ,∃ ds,W.cells? 0 (a.add (i * P.cellsOf e)) (P.cellsOf e) = some ds ∧ DRep W (fun q=>q < W.heap.size) σ x ds:=fun i hi=>by
            have:=hel i hi
            rw [List.getElem?_eq_getElem (by omega),Option.bind_eq_some_iff] at this
            obtain ⟨ds,h1,h2⟩:=this
            obtain ⟨x,hx,_⟩:=fit_ok n m' e σ ds (elems[i]'(by omega)).1 (elems[i]'(by omega)).2 hf h2
            exact ⟨x,ds,h1,hx⟩
          obtain ⟨xs,hxl,hxs⟩:=choose_list len each
          refine ⟨xs,⟨some a,cap,by rw [hxl]; exact hcs,by omega,by unfold lim; unfold maxLen at hcap; omega,fun hne=>?_⟩,fun y hy=>by simp [undat] at hy⟩
          have h0:0 < xs.length:=List.length_pos_iff.2 hne
          obtain ⟨ds0,hd0,_⟩:=hxs 0 xs[0] (List.getElem?_eq_getElem h0)
          obtain ⟨_,hl0,hc0⟩:=World.cells?_some hd0
          have hz:a.add (0 * P.cellsOf e) = a:=by simp [Addr.add]
          have hz':a.add 0 = a:=by simp [Addr.add]
          rw [hz] at hc0
          have hc00:=hc0 0 (by omega)
          rw [hz',List.getElem?_eq_getElem (by omega)] at hc00
          unfold World.cell? at hc00
          split at hc00
          · rename_i c T fz hheap
            split at hc00
            · cases hc00
            · rename_i hspot
              have hs:a.spot = none:=by simpa using hspot
              have hadd:∀ q,a.add q = ⟨a.block,a.off + q,none⟩:=fun q=>by
                unfold Addr.add
                split
                · subst_vars; cases a; simp at hs; simp [hs]
                · rfl
              have ha:a = ⟨a.block,a.off,none⟩:=by cases a; simp at hs; simp [hs]
              refine ⟨a.block,a.off,c,T,fz,by rw [← ha],?_,hheap,fun i x hi=>?_⟩
              · exact (Array.getElem?_eq_some_iff.1 hheap).1
              · obtain ⟨ds,hd,hr⟩:=hxs i x hi
                refine ⟨ds,hr,fun j v hj=>?_⟩
                obtain ⟨_,hl,hcj⟩:=World.cells?_some hd
                have hjl:j < P.cellsOf e:=by rw [← hl]; exact (List.getElem?_eq_some_iff.1 hj).1
                have:=hcj j hjl
                rw [hadd,hj] at this
                have hadd2:(⟨a.block,a.off + i * P.cellsOf e,none⟩:Addr).add j = ⟨a.block,a.off + i * P.cellsOf e + j,none⟩:=by
                  unfold Addr.add
                  split
                  · subst_vars; rfl
                  · rfl
                rw [hadd2] at this
                unfold World.cell? at this
                simp only [hheap] at this
                rw [hc] at this
                exact this
          · cases hc00
      | _=>cases h
    · rename_i fs hk
      simp only [Bool.and_eq_true,beq_iff_eq] at h
      obtain ⟨hc,hf⟩:=h
      obtain ⟨xs,m',rfl,hx,hl,hxl,hel⟩:=DataW.trod_struct hk ht
      simp only [Prod.mk.injEq] at hx
      obtain ⟨x,h1,h2⟩:=fitF_ok (fun t τ cs d p=>fit_ok n m' t τ cs d p) fs.toList 0 τ xs hf (by simpa using hxl) (by rw [hl,hc]; omega) fun i f hi=>hel i f (by simpa using hi)
      refine ⟨x,by simpa using h1,fun y hy=>h2 y ?_⟩
      rw [hx.1] at hy
      cases τ with
      | pair a b=>exact hy
      | unit =>
        simp only [undat] at hy ⊢
        split at hy
        · rename_i e; simp only [DataW.agg.injEq] at e; rw [e]
        · cases hy
      | _=>simp [undat] at hy
    · cases h
end
end Vx
namespace Vx
open Go Go.RowKit Go.ChangeShapes Go.WideShapes
def isStruct (P:Program) (t:TypeId):Bool:=match P.underlying t with
  | some (.struct _)=>true
  | _=>false
def fitS (P:Program) (n:Nat):List TypeId → Sig → Bool
  | [],[]=>true
  | t :: ts,(a,τ) :: r=>fitB P n t τ && (a == isStruct P t) && fitS P n ts r
  | _,_=>false
section
variable {H:Type} {enc:TypeId × Value → H} {P:Program} {W:World}
theorem cells_one {n:Nat} {t:TypeId} {τ:Shape} {r:Reach} {b0:Nat} {v:Value} (hf:fitB P n t τ = true) (hs:isStruct P t = false) (hv:Value.okWide P W r b0 t v):v.cells.toList = [v]:=by
  cases n with
  | zero=>simp [fitB] at hf
  | succ n =>
    unfold fitB at hf
    split at hf
    · rename_i k hk; obtain ⟨_,rfl⟩:=okWide_int hk hv; rfl
    · rename_i hk; obtain ⟨_,rfl⟩:=okWide_bool hk hv; rfl
    · rename_i e hk; obtain ⟨_,_,_,rfl⟩:=okWide_slice hk hv; rfl
    · rename_i fs hk; simp [isStruct,hk] at hs
    · cases hf
theorem erep_plain {S:Nat → Prop} {a:Bool} {τ:Shape} {x:Den τ} {y:Value} (ho:ownE a τ = false) (h:PRep W S a τ x y):ERep W S a τ x y []:=by
  cases τ with
  | slice e =>
    cases a with
    | true=>cases ho
    | false=>exact ⟨rfl,h⟩
  | _=>exact ⟨rfl,h⟩
theorem args_ok {n:Nat} {sp:Nat → Bool} {held:Bool} {b0:Nat}:∀ (ts:List TypeId) (I:Sig) (vs:List Value) (ds:List (DataW H)) (ps:List MemPlace),fitS P n ts I = true →
    (∀ (j:Nat) (t:TypeId) (v:Value),ts[j]? = some t → vs[j]? = some v → Value.okWide P W .any b0 t v) → DataW.TrodAll enc P W 0 sp held ts vs ds ps → ∃ x:DenS I,SRep W (fun q=>q < W.heap.size) I x vs [] ∧ wfS I x ∧ ds.length = ts.length
  | [],[],vs,ds,ps,_,_,h=>by
    cases vs <;> cases ds <;> simp [DataW.TrodAll] at h
    exact ⟨(),⟨rfl,rfl⟩,trivial,rfl⟩
  | [],_ :: _,_,_,_,hf,_,_=>by simp [fitS] at hf
  | _ :: _,[],_,_,_,hf,_,_=>by simp [fitS] at hf
  | t :: ts,(a,τ) :: I,vs,ds,ps,hf,hv,h=>by
    cases vs with
    | nil=>simp [DataW.TrodAll] at h
    | cons v vs =>
      cases ds with
      | nil=>simp [DataW.TrodAll] at h
      | cons d ds =>
        obtain ⟨p,q,⟨m,hp⟩,hq,_⟩:=h
        simp only [fitS,Bool.and_eq_true,beq_iff_eq] at hf
        obtain ⟨⟨h1,h2⟩,h3⟩:=hf
        obtain ⟨x,hx,hw,hl⟩:=args_ok ts I vs ds q h3 (fun j t v ht hv'=>hv (j + 1) t v (by simpa using ht) (by simpa using hv')) hq
        obtain ⟨y,hy,_⟩:=fit_ok n m t τ _ d p h1 hp
        have hok:=hv 0 t v rfl rfl
        refine ⟨(y,x),⟨v,vs,[],[],rfl,rfl,erep_plain ?_ ?_,hx⟩,⟨hy.wfD,hw⟩,by simp [hl]⟩
        · cases τ with
          | slice σ =>
            show a = false
            rw [h2]
            cases n with
            | zero=>simp [fitB] at h1
            | succ n =>
              unfold fitB at h1
              unfold isStruct
              split at h1 <;> rename_i hk <;> first | (rw [hk]; done) | (simp only [hk]; done) | (simp [fitF] at h1; done) | skip
          | _=>rfl
        cases a with
        | true =>
          have hs:isStruct P t = true:=h2.symm
          unfold isStruct at hs
          split at hs
          · rename_i fs hk
            unfold Value.okWide at hok
            rw [hk] at hok
            obtain ⟨cs,rfl,_⟩:=hok
            exact ⟨cs.toList,by simp,hy⟩
          · cases hs
        | false =>
          have hs:isStruct P t = false:=h2.symm
          rw [cells_one h1 hs hok] at hy
          exact hy
theorem trodAll_below (hl:laidOutB P = true) {W':World} (hb:Below W.heap.size W W'):∀ (ts:List TypeId) (vs:List Value) (ds:List (DataW H)) (ps:List MemPlace),(ts.all fun t=>P.readableRec t && decide (t < P.types.size)) = true →
    DataW.TrodAll enc P W 0 (fun _=>true) true ts vs ds ps → (∀ x ∈ ps,x.block < W.heap.size) → DataW.TrodAll enc P W' 0 (fun b=>decide (b < W.heap.size)) true ts vs ds ps
  | [],vs,ds,ps,_,h,_=>by
    cases vs <;> cases ds <;> simp [DataW.TrodAll] at h ⊢
    exact h
  | t :: ts,vs,ds,ps,hr,h,hlt=>by
    cases vs with
    | nil=>simp [DataW.TrodAll] at h
    | cons v vs =>
      cases ds with
      | nil=>simp [DataW.TrodAll] at h
      | cons d ds =>
        obtain ⟨p,q,hp,hq,rfl⟩:=h
        simp only [List.all_cons,Bool.and_eq_true,decide_eq_true_eq] at hr
        exact ⟨p,q,Below.trod hl hr.1.1 hr.1.2 hp hb (fun x hx=>hlt x (List.mem_append.2 (.inl hx))),
          trodAll_below hl hb ts vs ds q hr.2 hq (fun x hx=>hlt x (List.mem_append.2 (.inr hx))),rfl⟩
theorem glob_of {n:String} {g:Nat} {t e:TypeId} {m k:Nat} {τ:Shape} {ds:List (DataW Unit)} {xs:List (Den τ)} {r:List (String × DataW Unit)} {ps:List MemPlace}
    (hL:DataW.LaidVars P W ((n,.agg ds) :: r) ps) (hg:P.globalNamed n = some g) (ht:(P.globals[g]?).map (·.type) = some t) (hu:P.underlying t = some (.array m e)) (hc:P.cellsOf e = τ.width) (hf:fitB P k e τ = true)
    (hx:ds.map (undat τ).1 = xs.map some) :
    (g < W.heap.size ∧ ∃ vs T fz,W.heap[g]? = some (.cells vs T fz) ∧ Rows W (fun q=>q < W.heap.size) τ vs 0 xs) ∧ ∃ ps',DataW.LaidVars P W r ps':=by
  obtain ⟨g',t',cs,fuel,p,q,h1,h2,h3,h4,h5,_⟩:=hL
  rw [hg] at h1; cases h1
  rw [ht] at h2; cases h2
  refine ⟨?_,q,h5⟩
  unfold World.var? at h3
  rw [hg] at h3
  simp only [Option.bind_some] at h3
  split at h3
  · rename_i c T fz hh
    cases h3
    refine ⟨(Array.getElem?_eq_some_iff.1 hh).1,cs,T,fz,hh,?_⟩
    obtain ⟨ys,m',rfl,hy,hl,hyl,hel⟩:=DataW.trod_array hu h4
    simp only [Prod.mk.injEq,DataW.agg.injEq] at hy
    intro i x hi
    have hxl:xs.length = m:=by
      have:=congrArg List.length hx
      simp [hy.1,hyl] at this
      omega
    have him:i < m:=by rw [← hxl]; exact (List.getElem?_eq_some_iff.1 hi).1
    have he:=hel i him
    have hyi:ys[i]? = some (ys[i]'(by omega)):=List.getElem?_eq_getElem (by omega)
    rw [hyi,hc] at he
    obtain ⟨x',h6,h7⟩:=fit_ok k m' e τ _ _ _ hf he
    have hd:(undat τ).1 (ys[i]'(by omega)).1 = some x:=by
      have:=congrArg (·[i]?) hx
      simp only [List.getElem?_map,hy.1,hyi,hi,Option.map_some] at this
      exact Option.some.inj this
    have:=h7 x hd
    subst this
    refine ⟨_,h6,fun j v hj=>?_⟩
    rw [List.getElem?_take] at hj
    split at hj
    · rw [List.getElem?_drop] at hj
      simpa using hj
    · cases hj
  · cases h3
theorem returns_true {G : List (Nat × Sigma fun τ => List (Den τ))} {f : FuncId} {I : Sig} {T : DenS I → Option (DenS [(false, .bool)])} {d : DenS [(false, .bool)]} (hS : Sound P G f (sumOf I [(false, .bool)] T d)) {x : DenS I} (hT : T x = some (true, ())) (hcal : ∃ fn, P.funcs[f]? = some fn ∧ fn.body.isNone = false ∧ (fn.name == "runtime.NumGoroutine") = false) {W : World} {args : Array Value}
    (hG:GlobsOk G W fun q=>q < W.heap.size) (ha:SRep W (fun q=>q < W.heap.size) I x args.toList []):Calls P f args W fun e W'=>e = .returned (.bool true) ∧ Below W.heap.size W W':=by
  have:=hS.calls x (by show (T x).isSome = true; rw [hT]; rfl) W (fun q=>q < W.heap.size) args.toList [] (fun q h=>h) hG ha List.nodup_nil (fun r h=>by simp at h)
  rw [Array.toArray_toList] at this
  have this:=this.resolve_right (fun ⟨v,hv,_⟩=>by rw [run_callFunc hcal] at hv; cases hv)
  refine this.2.mono fun e W' ⟨zs,rs',he,hb,_,_,hz⟩=>⟨?_,⟨hb.os,hb.tape,hb.output,hb.size,fun k hk=>hb.block k hk (fun h=>by simp at h)⟩⟩
  obtain ⟨y,ys,r1,r2,rfl,_,⟨_,h1⟩,rfl,_⟩:=hz
  have h2:[y] = [Value.bool ((T x).getD d).1]:=h1
  rw [hT] at h2
  cases h2
  exact he
theorem law_post {G:List (Nat × Sigma fun τ=>List (Den τ))} {f:FuncId} {fn:Func} {I:Sig} {T:DenS I → Option (DenS [(false,.bool)])} {d:DenS [(false,.bool)]} {s:ChangeSpec} {n:Nat} {tb:TypeId}
    (hS : Sound P G f (sumOf I [(false, .bool)] T d)) (hT : ∀ x, wfS I x → T x = some (true, ())) (hcal : ∃ fn, P.funcs[f]? = some fn ∧ fn.body.isNone = false ∧ (fn.name == "runtime.NumGoroutine") = false) (hlay : laidOutB P = true) (hfit : fitS P n fn.params.toList I = true)
    (hread:(fn.params.toList.all fun t=>P.readableRec t && decide (t < P.types.size)) = true) (hres:fn.resultTypes = #[tb]) (hbool:P.underlying tb = some .bool) (hvars:s.vars = [])
    (hspec:∀ ds:List (DataW H),ds.length = fn.params.toList.length → s.fn H ds = { results:=[.lit (.bool true)],args:=ds })
    {W:World} {base:Nat} {args:Array Value} {ds gs:List (DataW H)} {before:List MemPlace}
    (hval:∀ (j:Nat) (t:TypeId) (v:Value),fn.params[j]? = some t → args[j]? = some v → Value.okWide P W .any base t v)
    (hW:DataW.Whole enc P fn.params.toList s.vars false W args.toList ds gs before) (hG:GlobsOk G W fun q=>q < W.heap.size) :
    Calls P f args W fun e W'=>∃ v,e = .returned v ∧ ChangeSpec.post enc P fn s false true false false W args v W':=by
  have hW':=hW
  obtain ⟨p,q,hA,hV,rfl,_,_⟩:=hW
  rw [hvars] at hV
  obtain ⟨rfl,rfl⟩:=trodVars_none hV
  obtain ⟨x,hx,hw,hlen⟩:=args_ok (b0:=base) fn.params.toList I args.toList ds p hfit (fun j t v ht hv=>hval j t v (by simpa using ht) (by simpa using hv)) hA
  refine (returns_true hS (hT x hw) hcal hG hx).mono fun e W' ⟨he,hb⟩=>⟨.bool true,he,ds,[],p ++ [],[],p,[],hW',?_,?_,?_,hb.frame _,fun h=>by cases h⟩
  · rw [List.append_nil,hspec ds hlen,hres]
    exact trodAll_mk1 (shut_bool hbool true)
  · rw [List.append_nil,hspec ds hlen]
    exact trodAll_below hlay hb _ _ _ _ hread hA fun y hy=>by simpa using hW'.lt y (by simpa using hy)
  · rw [List.append_nil,hspec ds hlen,hvars]
    rfl
end
theorem globs_nil {W:World} {S:Nat → Prop}:GlobsOk [] W S:=fun _ _ _ h=>by simp [findGlob] at h
theorem globs_cons {W:World} {S:Nat → Prop} {g:Nat} {τ:Shape} {xs:List (Den τ)} {G:List (Nat × Sigma fun τ=>List (Den τ))} (h:S g ∧ ∃ vs T fz,W.heap[g]? = some (.cells vs T fz) ∧ Rows W S τ vs 0 xs) (r:GlobsOk G W S) :
    GlobsOk ((g,⟨τ,xs⟩) :: G) W S:=fun g' τ' xs' hf=>by
  simp only [findGlob] at hf
  cases hb:Nat.beq g g' with
  | true =>
    have:=Nat.eq_of_beq_eq_true hb
    subst this
    rw [hb] at hf
    simp only [cond_true,Option.some.injEq] at hf
    cases hf
    exact h
  | false =>
    rw [hb] at hf
    exact r g' τ' xs' hf
end Vx
