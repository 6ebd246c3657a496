/- Part 7 of the proof. What is proved: symbolic execution of the functions, proved sound; what each function of the program computes, and that every run ends with it; what these functions compute, in plain numbers. Conditions: each theorem bears its own. -/
import Derived.Test.YtblmecpfokfjpaaDoorVxG6
import Derived.ProofKit
import Derived.LaidMore
import Derived.OpenShut
import Derived.Stop.Joined
import GoSem.ClaimJoined
set_option linter.all false
set_option exponentiation.threshold 1000000
namespace VL
open Go Vx
theorem dg_len_ge {x k:Nat} (h:(2 ^ 64) ^ k ≤ x):k < (dg (2 ^ 64) x).length:=by
  have:=dg_len_gt (B:=2 ^ 64) (by decide) x
  exact (Nat.pow_lt_pow_iff_right (a:=2 ^ 64) (by decide)).1 (Nat.lt_of_le_of_lt h this)
theorem dg_top {x:Nat} (h0:x ≠ 0):∃ t,(dg (2 ^ 64) x).getD ((dg (2 ^ 64) x).length - 1) 0 = t ∧ t ≠ 0 ∧ t < 2 ^ 64 ∧ blen x = 64 * ((dg (2 ^ 64) x).length - 1) + blen t ∧ 0 < (dg (2 ^ 64) x).length:=by
  have hl:0 < (dg (2 ^ 64) x).length:=by rw [dg_pos (by decide) (by omega)]; simp
  have ht:=dg_trim (B:=2 ^ 64) (by decide) x
  have h1:=trim_last (dg (2 ^ 64) x) (by rw [ht]; exact hl)
  have h2:=blen_row (dg_lt (B:=2 ^ 64) (by decide) x) (by rw [ht]; exact hl)
  rw [ht] at h1 h2
  rw [nv_Dw] at h2
  exact ⟨_,rfl,h1,getD_lt (by decide) (dg_lt (by decide) x) _,h2,hl⟩
theorem pow64_2 (k:Nat):(2 ^ 64) ^ k = 2 ^ (64 * k):=(Nat.pow_mul ..).symm
theorem T333_eq {a b:Nat} (ha:a < (2 ^ 64) ^ 4000) (hb:b < (2 ^ 64) ^ 4000) (h0:b ≠ 0):T333 (Dw a,Dw b,()) = some (Dw (a / b),Dw (a % b),()):=by
  have up:∀ {x:Nat},x < (2 ^ 64) ^ 4000 → x < (2 ^ 64) ^ 5000:=fun h=>Nat.lt_of_lt_of_le h (Nat.pow_le_pow_right (by decide) (by decide))
  show t333 S1146.pre S1146.F S1329.pre S1329.F S144.pre S144.F S146.pre S146.F S329.pre S329.F S327.pre S327.F S186.pre S186.F S332.pre S332.F S173.pre S173.F S171.pre S171.F W333_14 (Dw a) (Dw b) = _
  unfold t333
  have pa:=T173_dw (up ha)
  have pb:=T173_dw (up hb)
  have pc:=T144_eq (up ha) (up hb)
  have wa:=Dw_ws (up ha)
  have wb:=Dw_ws (up hb)
  have hla:(dg (2 ^ 64) a).length ≤ 4000:=dg_len_le (by decide) _ _ ha
  have hlb:(dg (2 ^ 64) b).length ≤ 4000:=dg_len_le (by decide) _ _ hb
  have pcopy:=T1146_eq (dg (2 ^ 64) a) wa
  rw [nv_Dw] at pcopy
  have pcopy:T1146 (Dw a,()) = some (Dw a,()):=pcopy
  obtain ⟨t,ht,ht0,ht64,hbt,hlp⟩:=dg_top h0
  have hLen:∀ x:Nat,(Dw x).length = (dg (2 ^ 64) x).length:=fun x=>Wd_len _
  have hGet:∀ (x i:Nat),(Dw x).getD i 0 = (((dg (2 ^ 64) x).getD i 0:Nat):Int):=fun x i=>Wd_getD _ _
  dsimp only
  simp only [pre173 pa,fun173 pa,pre173 pb,fun173 pb,pre144 pc,fun144 pc,cond_true]
  by_cases hlt:a < b
  · have e0:decide ((if a = b then (0:Int) else if a < b then -1 else 1) < 0) = true:=by rw [if_neg (by omega),if_pos hlt]; rfl
    simp only [e0,cond_true,pre1146 pcopy,fun1146 pcopy]
    rw [Nat.div_eq_of_lt hlt,Nat.mod_eq_of_lt hlt,Dw_zero]
  have e0:decide ((if a = b then (0:Int) else if a < b then -1 else 1) < 0) = false:=by
    rw [if_neg hlt]
    split <;> rfl
  simp only [e0,cond_false]
  by_cases h1:(dg (2 ^ 64) b).length = 1
  · have e1:(((Dw b).length:Int) == 1) = true:=by rw [hLen,h1]; rfl
    have hb64:b < 2 ^ 64:=by
      have:=dg_len_gt (B:=2 ^ 64) (by decide) b
      rw [h1,Nat.pow_one] at this
      exact this
    have e2:decide ((0:Int) < ((Dw b).length:Int)) = true:=by rw [hLen,h1]; rfl
    have e3:(Dw b).getD (Int.toNat 0) 0 = (b:Int):=by rw [Int.toNat_zero,Dw_get,Nat.mod_eq_of_lt hb64]
    have p0:=T1329_eq (up ha) (Nat.pos_of_ne_zero h0) hb64
    have hr:a % b < b:=Nat.mod_lt _ (Nat.pos_of_ne_zero h0)
    have p1:=T173_eq [a % b] (by simp)
    rw [trim_Dw (by intro x hx; rw [List.mem_singleton] at hx; omega),show nv (2 ^ 64) [a % b] = a % b by simp [nv]] at p1
    have p1:T173 ((((a % b:Nat):Int) :: []),()) = _:=p1
    simp only [e1,e2,e3,cond_true,pre1146 pcopy,fun1146 pcopy,pre1329 p0,fun1329 p0,pre173 p1,fun173 p1]
  have e1:(((Dw b).length:Int) == 1) = false:=by
    rw [hLen]
    exact ibeq_f _ _ (by omega)
  simp only [e1,cond_false]
  -- the lengths
  obtain ⟨n,hn⟩:∃ n,(dg (2 ^ 64) b).length = n + 2:=⟨(dg (2 ^ 64) b).length - 2,by omega⟩
  have hab:(dg (2 ^ 64) b).length ≤ (dg (2 ^ 64) a).length:=dg_len_mono (by decide) (by omega)
  obtain ⟨Q,hQ⟩:∃ Q,(dg (2 ^ 64) a).length + 1 = Q + n + 2:=⟨(dg (2 ^ 64) a).length + 1 - (n + 2),by omega⟩
  rw [show (dg (2 ^ 64) b).length - 1 = n + 1 by omega] at ht hbt
  have hbl:=blen_bound ht64
  have hbl1:=blen_pos ht0
  generalize hs:64 - blen t = s at *
  have p327:=T327_eq ht64
  rw [hs] at p327
  have hub:=blen_lt b
  have hlob:=blen_le h0
  have hp:=Nat.two_pow_pos s
  have hV1:b * 2 ^ s < 2 ^ (64 * (n + 2)):=by
    have h2:b * 2 ^ s < 2 ^ blen b * 2 ^ s:=Nat.mul_lt_mul_of_pos_right hub hp
    rw [← Nat.pow_add,show blen b + s = 64 * (n + 2) by omega] at h2
    exact h2
  have hV2:2 ^ (64 * (n + 2) - 1) ≤ b * 2 ^ s:=by
    have h2:2 ^ (blen b - 1) * 2 ^ s ≤ b * 2 ^ s:=Nat.mul_le_mul_right _ hlob
    rw [← Nat.pow_add,show blen b - 1 + s = 64 * (n + 2) - 1 by omega] at h2
    exact h2
  have hvlen:(dg (2 ^ 64) (b * 2 ^ s)).length = n + 2:=by
    have h2:(dg (2 ^ 64) (b * 2 ^ s)).length ≤ n + 2:=dg_len_le (by decide) _ _ (by rw [pow64_2]; exact hV1)
    have h3:=dg_len_ge (x:=b * 2 ^ s) (k:=n + 1) (by
      rw [pow64_2]
      exact Nat.le_trans (Nat.pow_le_pow_right (by decide) (by omega)) hV2)
    omega
  have hA:a * 2 ^ s < 2 ^ (64 * (dg (2 ^ 64) a).length + s):=by
    have h2:=dg_len_gt (B:=2 ^ 64) (by decide) a
    rw [pow64_2] at h2
    rw [Nat.pow_add]
    exact Nat.mul_lt_mul_of_pos_right h2 hp
  have hulen:(dg (2 ^ 64) (a * 2 ^ s)).length ≤ Q + n + 2:=dg_len_le (by decide) _ _ (by
    rw [pow64_2]
    exact Nat.lt_of_lt_of_le hA (Nat.pow_le_pow_right (by decide) (by omega)))
  have hstart:a * 2 ^ s < b * 2 ^ s * (2 ^ 64) ^ Q:=by
    have h2:2 ^ (64 * (n + 2) - 1) * 2 ^ (64 * Q) ≤ b * 2 ^ s * 2 ^ (64 * Q):=Nat.mul_le_mul_right _ hV2
    rw [← Nat.pow_add] at h2
    rw [pow64_2]
    exact Nat.lt_of_lt_of_le (Nat.lt_of_lt_of_le hA (Nat.pow_le_pow_right (by decide) (by omega))) h2
  have pv:=T186_eq (dg (2 ^ 64) b) wb s (by rw [dg_trim (by decide)]; omega)
  have pu:=T186_eq (dg (2 ^ 64) a) wa s (by rw [dg_trim (by decide)]; omega)
  rw [nv_Dw] at pv pu
  have pv:T186 (Dw b,(s:Int),()) = some (Dw (b * 2 ^ s),()):=pv
  have pu:T186 (Dw a,(s:Int),()) = some (Dw (a * 2 ^ s),()):=pu
  have e17:IntKind.wrap .i64 (((Dw b).length:Int) - 1) = ((n + 1:Nat):Int):=by rw [hLen,wrapI (by omega)]; omega
  have e18:IntKind.wrap .i64 (((Dw a).length:Int) + 1) = ((Q + n + 2:Nat):Int):=by rw [hLen,wrapI (by omega)]; omega
  have eg:(Dw b).getD (Int.toNat ((n + 1:Nat):Int)) 0 = (t:Int):=by rw [Int.toNat_natCast,hGet,ht]
  have e2:(decide ((0:Int) ≤ ((n + 1:Nat):Int)) && decide (((n + 1:Nat):Int) < ((Dw b).length:Int))) = true:=by
    rw [hLen,decide_eq_true (by omega),decide_eq_true (by omega)]; rfl
  have e3:(decide ((0:Int) ≤ ((Q + n + 2:Nat):Int)) && decide (((Q + n + 2:Nat):Int) * 8 ≤ 140737488355328)) = true:=by
    rw [decide_eq_true (by omega),decide_eq_true (by omega)]; rfl
  -- the row u
  generalize hud:dg (2 ^ 64) (a * 2 ^ s) ++ List.replicate (Q + n + 2 - (dg (2 ^ 64) (a * 2 ^ s)).length) 0 = us
  have husl:us.length = Q + n + 2:=by rw [← hud,List.length_append,List.length_replicate]; omega
  have hus:∀ x ∈ us,x < 2 ^ 64:=by
    rw [← hud]
    intro x hx
    rcases List.mem_append.1 hx with hx | hx
    · exact dg_lt (by decide) _ x hx
    · have:=(List.mem_replicate.1 hx).2
      omega
  have husv:nv (2 ^ 64) us = a * 2 ^ s:=by rw [← hud,nv_append,nv_rep,Nat.mul_zero,Nat.add_zero,nv_Dw]
  have hrow:(Dw (a * 2 ^ s)).take (List.replicate (Int.toNat ((Q + n + 2:Nat):Int)) (0:Int)).length ++ (List.replicate (Int.toNat ((Q + n + 2:Nat):Int)) (0:Int)).drop (Dw (a * 2 ^ s)).length = Wd us:=by
    rw [Int.toNat_natCast,List.length_replicate,Wd_rep,hLen,Wd_drop,List.drop_replicate]
    unfold Dw
    rw [Wd_take,List.take_of_length_le hulen,← hud]
    unfold Wd
    rw [List.map_append]
  have e11:IntKind.wrap .i64 (((Wd us).length:Int) - ((Dw (b * 2 ^ s)).length:Int)) = (Q:Int):=by
    rw [Wd_len,husl,hLen,hvlen,wrapI (by omega)]; omega
  have e4:(decide ((0:Int) ≤ (Q:Int)) && decide ((Q:Int) * 8 ≤ 140737488355328)) = true:=by
    rw [decide_eq_true (by omega),decide_eq_true (by omega)]; rfl
  have e5:IntKind.wrap .i64 (((List.replicate (Int.toNat (Q:Int)) (0:Int)).length:Int) - 1) = (Q:Int) - 1:=by
    rw [Int.toNat_natCast,List.length_replicate,wrapI (by omega)]
  obtain ⟨qs,us',k1,k2,k3,k4,k5,k6,k7⟩:=W333_eq (dg (2 ^ 64) (b * 2 ^ s)) hvlen (dg_lt (by decide) _) (by omega) (X:=a * 2 ^ s) Q (by omega) (s:Int) us husl hus husv (by rw [nv_Dw]; exact hstart)
  rw [nv_Dw] at k3 k6
  rw [Nat.mul_div_mul_right _ _ hp] at k3
  rw [Nat.mul_mod_mul_right] at k6
  have k7:W333_14 (((Dw (b * 2 ^ s),(((Q:Int) - 1),((),((),(((Dw (b * 2 ^ s)).length:Int),((s:Int),())))))),(Wd us,((List.replicate (Int.toNat (Q:Int)) (0:Int)),()))):P333_14.D) = some (.inl (((),((),(((n + 2:Nat):Int),((s:Int),())))),(Wd us',(Wd qs,())))):=by
    rw [Int.toNat_natCast,Wd_rep,hLen]
    rw [hvlen] at k7 ⊢
    exact k7
  simp only [e17,eg,pre327 p327,fun327 p327,pre186 pv,fun186 pv,pre186 pu,fun186 pu,e18,e2,e3,cond_true,hrow,e11,e4,e5]
  rw [k7]
  dsimp only [obind,obind2]
  have pq:=T173_eq qs (by omega)
  rw [trim_Dw k2,k3] at pq
  have hnl:nv (2 ^ 64) (us'.take (n + 2)) = a % b * 2 ^ s:=by
    have h2:=nv_split (2 ^ 64) us' (n + 2) (by omega)
    have h3:nv (2 ^ 64) (us'.drop (n + 2)) = 0:=by
      rcases Nat.eq_zero_or_pos (nv (2 ^ 64) (us'.drop (n + 2))) with h | h
      · exact h
      · exfalso
        have h4:(2 ^ 64) ^ (n + 2) * 1 ≤ (2 ^ 64) ^ (n + 2) * nv (2 ^ 64) (us'.drop (n + 2)):=Nat.mul_le_mul_left _ h
        have h5:a % b * 2 ^ s < b * 2 ^ s:=Nat.mul_lt_mul_of_pos_right (Nat.mod_lt _ (Nat.pos_of_ne_zero h0)) hp
        rw [pow64_2] at h4 h2
        omega
    rw [h3,Nat.mul_zero,Nat.add_zero] at h2
    rw [← h2,k6]
  have pr:=T171_eq (us'.take (n + 2)) ⟨fun x hx=>k5 x (List.mem_of_mem_take hx),by simp; omega⟩ s (by omega)
  rw [hnl,Nat.mul_div_cancel _ hp] at pr
  have pr:T171 (Wd (us'.take (n + 2)),(s:Int),()) = some (Dw (a % b),()):=pr
  have e6:(decide ((0:Int) ≤ ((n + 2:Nat):Int)) && decide (((n + 2:Nat):Int) ≤ ((Wd us').length:Int))) = true:=by
    rw [Wd_len,k4,decide_eq_true (by omega),decide_eq_true (by omega)]; rfl
  have e7:((Wd us').take (Int.toNat ((n + 2:Nat):Int))).drop (Int.toNat 0) = Wd (us'.take (n + 2)):=by
    rw [Int.toNat_natCast,Int.toNat_zero,Wd_take,List.drop_zero]
  simp only [pre173 pq,fun173 pq,e6,e7,pre171 pr,fun171 pr,cond_true]
theorem great_no {l:List (List Nat)} (hl:∀ x ∈ l,x.length ≤ 1024) (hn:l.length ≤ 1000000):T185 (l.map Wd,()) = some (false,()):=by
  have:=T185_eq l (fun x hx=>by have:=hl x hx; omega) hn
  rw [this,decide_eq_true (fun x hx=>Nat.le_trans (trim_len x).1 (hl x hx))]; rfl
theorem T345_eq {a b:Nat} (ha:a < (2 ^ 64) ^ 1024) (hb:b < (2 ^ 64) ^ 1024) (h0:b ≠ 0):T345 (Dw a,Dw b,()) = some (Dw (a / b),Dw (a % b),0,()):=by
  have up:∀ {x:Nat},x < (2 ^ 64) ^ 1024 → x < (2 ^ 64) ^ 4000:=fun h=>Nat.lt_of_lt_of_le h (Nat.pow_le_pow_right (by decide) (by decide))
  have up5:∀ {x:Nat},x < (2 ^ 64) ^ 1024 → x < (2 ^ 64) ^ 5000:=fun h=>Nat.lt_of_lt_of_le h (Nat.pow_le_pow_right (by decide) (by decide))
  show t345 S185.pre S185.F S173.pre S173.F S333.pre S333.F (Dw a) (Dw b) = _
  unfold t345
  have p0:=great_no (l:=[dg (2 ^ 64) a,dg (2 ^ 64) b]) (by
    intro x hx
    rcases List.mem_cons.1 hx with rfl | hx
    · exact dg_len_le (by decide) _ _ ha
    · rw [List.mem_singleton] at hx
      rw [hx]
      exact dg_len_le (by decide) _ _ hb) (by simp)
  have p0:T185 ((Dw a :: Dw b :: []),()) = some (false,()):=p0
  have p1:=T173_dw (up5 hb)
  have p2:=T333_eq (up ha) (up hb) h0
  have e0:(((Dw b).length:Int) == 0) = false:=by rw [Dw_len0,decide_eq_false h0]
  simp only [pre185 p0,fun185 p0,pre173 p1,fun173 p1,pre333 p2,fun333 p2,cond_true,cond_false,e0]
end VL
namespace VL
open Go Vx
theorem mul_word2 {x y p c:Nat} (hx:x < 2 ^ 64) (hy:y < 2 ^ 64) (hp:p < 2 ^ 64) (hc:c < 2 ^ 64) :
    x * y + p + c = 2 ^ 64 * (x * y / 2 ^ 64 + (x * y % 2 ^ 64 + p) / 2 ^ 64 + ((x * y % 2 ^ 64 + p) % 2 ^ 64 + c) / 2 ^ 64) + ((x * y % 2 ^ 64 + p) % 2 ^ 64 + c) % 2 ^ 64 ∧
      x * y / 2 ^ 64 + (x * y % 2 ^ 64 + p) / 2 ^ 64 + ((x * y % 2 ^ 64 + p) % 2 ^ 64 + c) / 2 ^ 64 < 2 ^ 64:=by
  have:x * y ≤ (2 ^ 64 - 1) * (2 ^ 64 - 1):=Nat.mul_le_mul (by omega) (by omega)
  generalize x * y = z at *
  omega
theorem getD_setI (l:List Nat) (i j v:Nat):(l.set i v).getD j 0 = if i = j ∧ i < l.length then v else l.getD j 0:=by
  rw [List.getD_eq_getElem?_getD,List.getD_eq_getElem?_getD,List.getElem?_set]
  by_cases h:i = j
  · subst h
    by_cases h2:i < l.length
    · simp [h2]
    · simp [h2]
  · simp [h]
theorem mem_set {l:List Nat} {i v B:Nat} (h:∀ x ∈ l,x < B) (hv:v < B):∀ x ∈ l.set i v,x < B:=fun x hx=>by
  rcases List.mem_or_eq_of_mem_set hx with h1 | h1
  · exact h x h1
  · omega
theorem W324b_eq (a b p:List Nat) (hb:∀ x ∈ b,x < 2 ^ 64) (hn:b.length ≤ 100000) {x i:Nat} (hx:x < 2 ^ 64) (hi:i ≤ 100000) (hpl:i + b.length < p.length) (hpn:p.length ≤ 300000) (hpd:∀ z ∈ p,z < 2 ^ 64)
    (hz:∀ k,i + b.length ≤ k → p.getD k 0 = 0) (la:Int) :
    ∃ (p':List Nat) (c:Nat),p'.length = p.length ∧ (∀ z ∈ p',z < 2 ^ 64) ∧ c < 2 ^ 64 ∧ nv (2 ^ 64) p' + (2 ^ 64) ^ (i + b.length) * c = nv (2 ^ 64) p + (2 ^ 64) ^ i * (x * nv (2 ^ 64) b) ∧ (∀ k,i + b.length ≤ k → p'.getD k 0 = 0) ∧
      W324_8 (((b.length:Int),(Wd b,((x:Int),((0:Int),((i:Int),((0:Int),((i:Int),(la,(Wd a,(Wd b,((),()))))))))))),(Wd p,())) = some (.inl (((i:Int),((c:Int),((i:Int),(la,(Wd a,(Wd b,((),()))))))),(Wd p',()))):=by
  have key:=lfix_ex (m324_8 S315.pre S315.F S155.pre S155.F S173.pre S173.F) (fun s=>b.length - s.1.2.2.2.1.toNat)
    (fun s=>∃ (j:Nat) (p':List Nat) (c:Nat),j ≤ b.length ∧ p'.length = p.length ∧ (∀ z ∈ p',z < 2 ^ 64) ∧ c < 2 ^ 64 ∧ nv (2 ^ 64) p' + (2 ^ 64) ^ (i + j) * c = nv (2 ^ 64) p + (2 ^ 64) ^ i * (x * nv (2 ^ 64) (b.take j)) ∧ (∀ k,i + b.length ≤ k → p'.getD k 0 = 0) ∧
      s = (((b.length:Int),(Wd b,((x:Int),((j:Int),((i:Int),((c:Int),((i:Int),(la,(Wd a,(Wd b,((),()))))))))))),(Wd p',())))
    (fun y=>∃ (p':List Nat) (c:Nat),p'.length = p.length ∧ (∀ z ∈ p',z < 2 ^ 64) ∧ c < 2 ^ 64 ∧ nv (2 ^ 64) p' + (2 ^ 64) ^ (i + b.length) * c = nv (2 ^ 64) p + (2 ^ 64) ^ i * (x * nv (2 ^ 64) b) ∧ (∀ k,i + b.length ≤ k → p'.getD k 0 = 0) ∧
      y = .inl (((i:Int),((c:Int),((i:Int),(la,(Wd a,(Wd b,((),()))))))),(Wd p',()))) ?_
    (((b.length:Int),(Wd b,((x:Int),((0:Int),((i:Int),((0:Int),((i:Int),(la,(Wd a,(Wd b,((),()))))))))))),(Wd p,()))
    ⟨0,p,0,Nat.zero_le _,rfl,hpd,by decide,by simp [nv],hz,rfl⟩
  · obtain ⟨y,hy,p',c,k1,k2,k3,k4,k5,rfl⟩:=key
    exact ⟨p',c,k1,k2,k3,k4,k5,hy⟩
  intro L s hs hL
  obtain ⟨j,q,c,hj,hql,hqd,hc,hinv,hqz,rfl⟩:=hs
  unfold h324_8
  rcases Nat.lt_or_ge j b.length with hlt | hge
  · have hy:=getD_lt (by decide) hb j
    have hp:=getD_lt (by decide) hqd (i + j)
    have hnb:=nv_take_next (2 ^ 64) b j
    have hgb:(Wd b).getD j 0 = ((b.getD j 0:Nat):Int):=Wd_getD b j
    have hgq:(Wd q).getD (i + j) 0 = ((q.getD (i + j) 0:Nat):Int):=Wd_getD q _
    have hst:=fun z=>nv_set (2 ^ 64) q (i + j) z (by omega)
    have hgs:=fun z k=>getD_setI q (i + j) k z
    generalize b.getD j 0 = y at *
    generalize q.getD (i + j) 0 = d at *
    have p0:=T315_eq hx hy
    obtain ⟨m1,m2⟩:=mul_word2 hx hy hp hc
    have q1:=addF (x * y % 2 ^ 64) d 0
    have q2:=addP ((x * y % 2 ^ 64:Nat):Int) (d:Int) 0 (by decide)
    have r1:=addF ((x * y % 2 ^ 64 + d) % 2 ^ 64) c 0
    have r2:=addP (((x * y % 2 ^ 64 + d) % 2 ^ 64:Nat):Int) (c:Int) 0 (by decide)
    rw [Nat.add_zero] at q1 r1
    have z0:((0:Nat):Int) = 0:=rfl
    rw [z0] at q1 q2 r1 r2
    have hl:((x * y % 2 ^ 64 + d) % 2 ^ 64 + c) % 2 ^ 64 < 2 ^ 64:=Nat.mod_lt _ (by decide)
    have e5:=wu_add (x * y / 2 ^ 64) ((x * y % 2 ^ 64 + d) / 2 ^ 64) (by omega)
    have e6:=wu_add (x * y / 2 ^ 64 + (x * y % 2 ^ 64 + d) / 2 ^ 64) (((x * y % 2 ^ 64 + d) % 2 ^ 64 + c) / 2 ^ 64) m2
    have e0:decide ((j:Int) < (b.length:Int)) = true:=decide_eq_true (by omega)
    have e1:decide ((0:Int) ≤ (j:Int)) = true:=decide_eq_true (by omega)
    have e2:IntKind.wrap .i64 ((i:Int) + (j:Int)) = ((i + j:Nat):Int):=by rw [wrapI (by omega)]; omega
    have e3:IntKind.wrap .i64 ((j:Int) + 1) = ((j + 1:Nat):Int):=by rw [wrapI (by omega)]; omega
    have e4:decide ((0:Int) ≤ ((i + j:Nat):Int)) = true:=decide_eq_true (by omega)
    have e7:decide (((i + j:Nat):Int) < (q.length:Int)) = true:=decide_eq_true (by omega)
    dsimp only
    simp only [e0,e1,e2,e3,e4,e7,cond_true,Bool.and_self,Wd_len,Int.toNat_natCast,hgb,hgq,pre315 p0,fun315 p0,q1,q2,r1,r2,e5,e6,Wd_set]
    refine hL _ ⟨j + 1,q.set (i + j) (((x * y % 2 ^ 64 + d) % 2 ^ 64 + c) % 2 ^ 64),x * y / 2 ^ 64 + (x * y % 2 ^ 64 + d) / 2 ^ 64 + ((x * y % 2 ^ 64 + d) % 2 ^ 64 + c) / 2 ^ 64,by omega,by rw [List.length_set]; exact hql,mem_set hqd hl,m2,?_,?_,rfl⟩ (by simp only [Int.toNat_natCast]; omega)
    · have h1:=hst (((x * y % 2 ^ 64 + d) % 2 ^ 64 + c) % 2 ^ 64)
      rw [hnb,show i + (j + 1) = i + j + 1 by omega,pow_up,Nat.mul_add x,Nat.mul_add ((2 ^ 64) ^ i),Nat.mul_left_comm x,← Nat.mul_assoc ((2 ^ 64) ^ i) ((2 ^ 64) ^ j),← Nat.pow_add]
      generalize ((x * y % 2 ^ 64 + d) % 2 ^ 64 + c) % 2 ^ 64 = o at *
      generalize x * y / 2 ^ 64 + (x * y % 2 ^ 64 + d) / 2 ^ 64 + ((x * y % 2 ^ 64 + d) % 2 ^ 64 + c) / 2 ^ 64 = c' at *
      generalize x * y = z at *
      have h2:(2 ^ 64) ^ (i + j) * (z + d + c) = (2 ^ 64) ^ (i + j) * (2 ^ 64 * c' + o):=by rw [m1]
      rw [Nat.mul_add,Nat.mul_add,Nat.mul_add,← Nat.mul_assoc ((2 ^ 64) ^ (i + j)) (2 ^ 64)] at h2
      omega
    · intro k hk
      rw [hgs,if_neg (by omega)]
      exact hqz k hk
  · have e:j = b.length:=by omega
    subst e
    have e0:decide ((b.length:Int) < (b.length:Int)) = false:=decide_eq_false (by omega)
    dsimp only
    simp only [e0,cond_false]
    rw [List.take_length] at hinv
    exact ⟨_,rfl,q,c,hql,hqd,hc,hinv,hqz,rfl⟩
theorem W324a_eq (a b:List Nat) (ha:∀ x ∈ a,x < 2 ^ 64) (hb:∀ x ∈ b,x < 2 ^ 64) (hna:a.length ≤ 100000) (hnb:b.length ≤ 100000) :
    ∃ p:List Nat,p.length = a.length + b.length ∧ (∀ z ∈ p,z < 2 ^ 64) ∧ nv (2 ^ 64) p = nv (2 ^ 64) a * nv (2 ^ 64) b ∧
      W324_4 ((((a.length:Int),(Wd a,(Wd b,((0:Int),((),()))))),(Wd (List.replicate (a.length + b.length) 0),())):P324_4.D) = some (.inl (((),()),(Wd p,()))):=by
  have key:=lfix_ex (m324_4 S315.pre S315.F S155.pre S155.F S173.pre S173.F W324_8) (fun s=>a.length - s.1.2.2.2.1.toNat)
    (fun s=>∃ (i:Nat) (p:List Nat),i ≤ a.length ∧ p.length = a.length + b.length ∧ (∀ z ∈ p,z < 2 ^ 64) ∧ nv (2 ^ 64) p = nv (2 ^ 64) (a.take i) * nv (2 ^ 64) b ∧ (∀ k,i + b.length ≤ k → p.getD k 0 = 0) ∧
      s = (((a.length:Int),(Wd a,(Wd b,((i:Int),((),()))))),(Wd p,())))
    (fun y=>∃ p:List Nat,p.length = a.length + b.length ∧ (∀ z ∈ p,z < 2 ^ 64) ∧ nv (2 ^ 64) p = nv (2 ^ 64) a * nv (2 ^ 64) b ∧ y = .inl (((),()),(Wd p,()))) ?_
    (((a.length:Int),(Wd a,(Wd b,((0:Int),((),()))))),(Wd (List.replicate (a.length + b.length) 0),()))
    ⟨0,List.replicate (a.length + b.length) 0,Nat.zero_le _,by simp,(fun z hz=>by have:=(List.mem_replicate.1 hz).2; omega),by rw [nv_rep]; simp [nv],(fun k _=>by
      rw [List.getD_eq_getElem?_getD,List.getElem?_replicate]; split <;> rfl),rfl⟩
  · obtain ⟨y,hy,p,k1,k2,k3,rfl⟩:=key
    exact ⟨p,k1,k2,k3,hy⟩
  intro L s hs hL
  obtain ⟨i,p,hi,hpl,hpd,hinv,hz,rfl⟩:=hs
  unfold h324_4
  rcases Nat.lt_or_ge i a.length with hlt | hge
  · have hx:=getD_lt (by decide) ha i
    have hna':=nv_take_next (2 ^ 64) a i
    have hga:(Wd a).getD i 0 = ((a.getD i 0:Nat):Int):=Wd_getD a i
    obtain ⟨p',c,k1,k2,k3,k4,k5,k6⟩:=W324b_eq a b p hb hnb hx (i:=i) (by omega) (by omega) (by omega) hpd hz (a.length:Int)
    have e0:decide ((i:Int) < (a.length:Int)) = true:=decide_eq_true (by omega)
    have e1:decide ((0:Int) ≤ (i:Int)) = true:=decide_eq_true (by omega)
    have e2:IntKind.wrap .i64 ((i:Int) + (b.length:Int)) = ((i + b.length:Nat):Int):=by rw [wrapI (by omega)]; omega
    have e3:IntKind.wrap .i64 ((i:Int) + 1) = ((i + 1:Nat):Int):=by rw [wrapI (by omega)]; omega
    have e4:decide ((0:Int) ≤ ((i + b.length:Nat):Int)) = true:=decide_eq_true (by omega)
    have e5:decide (((i + b.length:Nat):Int) < (p'.length:Int)) = true:=decide_eq_true (by omega)
    dsimp only
    simp only [e0,e1,cond_true,Bool.and_self,Wd_len,Int.toNat_natCast,hga]
    rw [k6]
    dsimp only [obind,obind2]
    simp only [e2,e3,e4,e5,cond_true,Bool.and_self,Wd_len,Int.toNat_natCast,Wd_set]
    refine hL _ ⟨i + 1,p'.set (i + b.length) c,by omega,by rw [List.length_set]; omega,mem_set k2 k3,?_,?_,rfl⟩ (by simp only [Int.toNat_natCast]; omega)
    · have h1:=nv_set (2 ^ 64) p' (i + b.length) c (by omega)
      rw [k5 _ (Nat.le_refl _),Nat.mul_zero,Nat.add_zero] at h1
      rw [h1,k4,hinv,hna',Nat.add_mul,Nat.mul_assoc]
    · intro k hk
      rw [getD_setI,if_neg (by omega)]
      exact k5 k (by omega)
  · have e:i = a.length:=by omega
    subst e
    have e0:decide ((a.length:Int) < (a.length:Int)) = false:=decide_eq_false (by omega)
    simp only [e0,cond_false]
    rw [List.take_length] at hinv
    exact ⟨_,rfl,p,hpl,hpd,hinv,rfl⟩
theorem T324_eq {a b:Nat} (ha:a < (2 ^ 64) ^ 5000) (hb:b < (2 ^ 64) ^ 5000):T324 (Dw a,Dw b,()) = some (Dw (a * b),()):=by
  show t324 S315.pre S315.F S155.pre S155.F S173.pre S173.F W324_4 W324_8 (Dw a) (Dw b) = _
  unfold t324
  have pa:=T173_dw ha
  have pb:=T173_dw hb
  have hla:(dg (2 ^ 64) a).length ≤ 5000:=dg_len_le (by decide) _ _ ha
  have hlb:(dg (2 ^ 64) b).length ≤ 5000:=dg_len_le (by decide) _ _ hb
  obtain ⟨p,k1,k2,k3,k4⟩:=W324a_eq (dg (2 ^ 64) a) (dg (2 ^ 64) b) (dg_lt (by decide) _) (dg_lt (by decide) _) (by omega) (by omega)
  rw [nv_Dw,nv_Dw] at k3
  have hLen:∀ x:Nat,(Dw x).length = (dg (2 ^ 64) x).length:=fun x=>Wd_len _
  have e0:IntKind.wrap .i64 (((Dw a).length:Int) + ((Dw b).length:Int)) = (((dg (2 ^ 64) a).length + (dg (2 ^ 64) b).length:Nat):Int):=by rw [hLen,hLen,wrapI (by omega)]; omega
  have e1:(decide ((0:Int) ≤ (((dg (2 ^ 64) a).length + (dg (2 ^ 64) b).length:Nat):Int)) && decide ((((dg (2 ^ 64) a).length + (dg (2 ^ 64) b).length:Nat):Int) * 8 ≤ 140737488355328)) = true:=by
    rw [decide_eq_true (by omega),decide_eq_true (by omega)]; rfl
  have k4:W324_4 (((((Dw a).length:Int),(Dw a,(Dw b,((0:Int),((),()))))),((List.replicate (Int.toNat (((dg (2 ^ 64) a).length + (dg (2 ^ 64) b).length:Nat):Int)) (0:Int)),())):P324_4.D) = some (.inl (((),()),(Wd p,()))):=by
    rw [Int.toNat_natCast,Wd_rep,hLen]
    exact k4
  have p0:=T173_eq p (by omega)
  rw [trim_Dw k2,k3] at p0
  dsimp only
  simp only [pre173 pa,fun173 pa,pre173 pb,fun173 pb,cond_true,e0,e1]
  rw [k4]
  dsimp only [obind,obind2]
  simp only [pre173 p0,fun173 p0,cond_true]
theorem T325_eq {a b:Nat} (ha:a < (2 ^ 64) ^ 1024) (hb:b < (2 ^ 64) ^ 1024) (hab:a * b < (2 ^ 64) ^ 1024):T325 (Dw a,Dw b,()) = some (Dw (a * b),0,()):=by
  have up5:∀ {x:Nat},x < (2 ^ 64) ^ 1024 → x < (2 ^ 64) ^ 5000:=fun h=>Nat.lt_of_lt_of_le h (Nat.pow_le_pow_right (by decide) (by decide))
  show t325 S324.pre S324.F S185.pre S185.F (Dw a) (Dw b) = _
  unfold t325
  have p0:=great_no (l:=[dg (2 ^ 64) a,dg (2 ^ 64) b]) (by
    intro x hx
    rcases List.mem_cons.1 hx with rfl | hx
    · exact dg_len_le (by decide) _ _ ha
    · rw [List.mem_singleton] at hx
      rw [hx]
      exact dg_len_le (by decide) _ _ hb) (by simp)
  have p0:T185 ((Dw a :: Dw b :: []),()) = some (false,()):=p0
  have p2:=great_no (l:=[dg (2 ^ 64) (a * b)]) (by
    intro x hx
    rw [List.mem_singleton] at hx
    rw [hx]
    exact dg_len_le (by decide) _ _ hab) (by simp)
  have p2:T185 ((Dw (a * b) :: []),()) = some (false,()):=p2
  have p1:=T324_eq (up5 ha) (up5 hb)
  simp only [pre185 p0,fun185 p0,pre324 p1,fun324 p1,pre185 p2,fun185 p2,cond_true,cond_false]
theorem T326_eq {n k:Nat} (hn:n < 2 ^ 64) (hk:k ≤ 10000):T326 ((n:Int),(k:Int),()) = some (Dw (n * n * 2 ^ (2 * k)),()):=by
  show t326 S325.pre S325.F S176.pre S176.F (n:Int) (k:Int) = _
  unfold t326
  dsimp only
  rcases Nat.eq_zero_or_pos n with rfl | hn0
  · have e0:0 * 0 * 2 ^ (2 * k) = 0:=by simp
    rw [e0,Dw_zero]
    rfl
  have hnn:n * n < (2 ^ 64) ^ 2:=by
    rw [show (2 ^ 64) ^ 2 = 2 ^ 64 * 2 ^ 64 by decide]
    exact Nat.mul_lt_mul'' hn hn
  have h1:n < (2 ^ 64) ^ 1024:=Nat.lt_of_lt_of_le (show n < (2 ^ 64) ^ 1 by rw [Nat.pow_one]; exact hn) (Nat.pow_le_pow_right (by decide) (by decide))
  have h2:n * n < (2 ^ 64) ^ 1024:=Nat.lt_of_lt_of_le hnn (Nat.pow_le_pow_right (by decide) (by decide))
  have p0:=T325_eq h1 h1 h2
  rw [Dw_small (by omega) hn] at p0
  have e1:((n:Int) == 0) = false:=beq0_f _ (by omega)
  have e2:IntKind.wrap .i64 (2 * (k:Int)) = ((2 * k:Nat):Int):=by rw [wrapI (by omega)]; omega
  have h3:n * n * 2 ^ (2 * k) < (2 ^ 64) ^ 1024:=by
    rw [pow64_2] at hnn ⊢
    have h4:n * n * 2 ^ (2 * k) < 2 ^ (64 * 2) * 2 ^ (2 * k):=Nat.mul_lt_mul_of_pos_right hnn (Nat.two_pow_pos _)
    rw [← Nat.pow_add] at h4
    exact Nat.lt_of_lt_of_le h4 (Nat.pow_le_pow_right (by decide) (by omega))
  have p1:=T176_eq (dg (2 ^ 64) (n * n)) (Dw_ws (Nat.lt_of_lt_of_le h2 (Nat.pow_le_pow_right (by decide) (by decide)))) (2 * k) (by omega) (by rw [nv_Dw]; exact h3)
  rw [nv_Dw] at p1
  have p1:T176 (Dw (n * n),((2 * k:Nat):Int),()) = _:=p1
  simp only [e1,cond_false,pre325 p0,fun325 p0,cond_true,e2,pre176 p1,fun176 p1]
theorem newton_ge {A x:Nat} (hx:0 < x):isq A ≤ (x + A / x) / 2:=by
  have h1:=isq_le A
  generalize isq A = r at *
  have h3:A < (A / x + 1) * x:=by
    have:=Nat.lt_div_mul_add hx (a:=A)
    rw [Nat.add_mul,Nat.one_mul]; exact this
  generalize A / x = q at *
  rcases Nat.lt_or_ge ((x + q) / 2) r with h | h
  · exfalso
    have h2:q + 1 ≤ 2 * r - x:=by omega
    have h4:(q + 1) * x ≤ (2 * r - x) * x:=Nat.mul_le_mul_right _ h2
    have h5:(2 * r - x) * x ≤ r * r:=by
      rcases Nat.le_total x r with h6 | h6
      · obtain ⟨d,rfl⟩:∃ d,r = x + d:=⟨r - x,by omega⟩
        rw [show 2 * (x + d) - x = x + 2 * d by omega,Nat.add_mul,Nat.mul_add,Nat.add_mul,Nat.add_mul,Nat.mul_comm x d,Nat.mul_assoc 2]
        omega
      · obtain ⟨d,rfl⟩:∃ d,x = r + d:=⟨x - r,by omega⟩
        have:2 * r - (r + d) = r - d:=by omega
        rw [this,Nat.mul_add,Nat.sub_mul,Nat.sub_mul]
        have h7:d * r ≤ r * r:=Nat.mul_le_mul_right _ (by omega)
        rw [Nat.mul_comm r d]
        omega
    omega
  · exact h
theorem newton_end {A x:Nat} (hx:isq A ≤ x) (h:x ≤ (x + A / x) / 2) (h0:0 < x):x = isq A:=by
  have h1:x ≤ A / x:=by
    generalize A / x = q at *
    omega
  have h2:x * x ≤ A:=(Nat.le_div_iff_mul_le h0).1 h1
  have:=isq_ge h2
  omega
theorem Wd_nat (l:List Nat):(Wd l).map Int.toNat = l:=by
  unfold Wd
  rw [List.map_map]
  have:(Int.toNat ∘ fun n:Nat=>(n:Int)) = id:=by funext n; rfl
  rw [this,List.map_id]
theorem W334_eq {A x0:Nat} (hA0:A ≠ 0) (hA:A < (2 ^ 64) ^ 1030) (hx0:isq A ≤ x0) (hxb:x0 < (2 ^ 64) ^ 1030) :
    W334_7 (((Dw x0,(Dw A,())),()):P334_7.D) = some (.inl ((Dw (isq A),(Dw A,())),())):=by
  have up:∀ {x:Nat},x < (2 ^ 64) ^ 1030 → x < (2 ^ 64) ^ 4000:=fun h=>Nat.lt_of_lt_of_le h (Nat.pow_le_pow_right (by decide) (by decide))
  have up5:∀ {x:Nat},x < (2 ^ 64) ^ 1030 → x < (2 ^ 64) ^ 5000:=fun h=>Nat.lt_of_lt_of_le h (Nat.pow_le_pow_right (by decide) (by decide))
  have hpos:=isq_pos hA0
  have key:=lfix_ind (m334_7 S185.pre S185.F S173.pre S173.F S151.pre S151.F S186.pre S186.F S333.pre S333.F S143.pre S143.F S171.pre S171.F S324.pre S324.F S144.pre S144.F) (fun s=>nv (2 ^ 64) (s.1.1.map Int.toNat))
    (fun s=>∃ x:Nat,isq A ≤ x ∧ x < (2 ^ 64) ^ 1030 ∧ s = ((Dw x,(Dw A,())),()))
    (fun _=>.inl ((Dw (isq A),(Dw A,())),())) ?_ ((Dw x0,(Dw A,())),()) ⟨x0,hx0,hxb,rfl⟩
  · exact key
  intro L s hs hL
  obtain ⟨x,hx,hxb,rfl⟩:=hs
  unfold h334_7
  have hx1:0 < x:=by omega
  have p0:=T333_eq (up hA) (up hxb) (by omega)
  have hd:A / x ≤ A:=Nat.div_le_self _ _
  have hdb:A / x < (2 ^ 64) ^ 1030:=Nat.lt_of_le_of_lt hd hA
  have p1:=T143_dw (up5 hxb) (up5 hdb)
  have hsum:x + A / x < (2 ^ 64) ^ 1031:=by
    rw [show (2 ^ 64) ^ 1031 = (2 ^ 64) ^ 1030 * 2 ^ 64 from pow_up 1030]
    have:0 < (2 ^ 64) ^ 1030:=Nat.pow_pos (by decide)
    generalize (2 ^ 64) ^ 1030 = P at *
    omega
  have p2:=T171_eq (dg (2 ^ 64) (x + A / x)) (Dw_ws (Nat.lt_of_lt_of_le hsum (Nat.pow_le_pow_right (by decide) (by decide)))) 1 (by decide)
  rw [nv_Dw,Nat.pow_one] at p2
  have p2:T171 (Dw (x + A / x),(1:Int),()) = some (Dw ((x + A / x) / 2),()):=p2
  have hyb:(x + A / x) / 2 < (2 ^ 64) ^ 1030:=by omega
  have p3:=T144_eq (up5 hyb) (up5 hxb)
  have hge:=newton_ge (A:=A) hx1
  dsimp only
  simp only [pre333 p0,fun333 p0,pre143 p1,fun143 p1,pre171 p2,fun171 p2,pre144 p3,fun144 p3,cond_true]
  by_cases hc:x ≤ (x + A / x) / 2
  · have e0:decide ((if (x + A / x) / 2 = x then (0:Int) else if (x + A / x) / 2 < x then -1 else 1) ≥ 0) = true:=by
      rw [decide_eq_true_eq]
      split
      · omega
      · rw [if_neg (by omega)]; omega
    rw [e0,cond_true,newton_end hx hc hx1,newton_end (isq_ge (isq_le A)) (by rw [← newton_end hx hc hx1]; exact hc) hpos]
  · have e0:decide ((if (x + A / x) / 2 = x then (0:Int) else if (x + A / x) / 2 < x then -1 else 1) ≥ 0) = false:=by
      rw [decide_eq_false_iff_not]
      rw [if_neg (by omega),if_pos (by omega)]; omega
    rw [e0,cond_false]
    refine hL _ ⟨_,hge,hyb,rfl⟩ ?_
    show nv (2 ^ 64) ((Wd (dg (2 ^ 64) ((x + A / x) / 2))).map Int.toNat) < nv (2 ^ 64) ((Wd (dg (2 ^ 64) x)).map Int.toNat)
    rw [Wd_nat,Wd_nat,nv_Dw,nv_Dw]
    omega
theorem T334_eq {A:Nat} (hA:A < (2 ^ 64) ^ 1024):T334 (Dw A,()) = some (Dw (isq A),decide (isq A * isq A = A),0,()):=by
  have up5:∀ {x:Nat},x < (2 ^ 64) ^ 1024 → x < (2 ^ 64) ^ 5000:=fun h=>Nat.lt_of_lt_of_le h (Nat.pow_le_pow_right (by decide) (by decide))
  show t334 S185.pre S185.F S173.pre S173.F S151.pre S151.F S186.pre S186.F S333.pre S333.F S143.pre S143.F S171.pre S171.F S324.pre S324.F S144.pre S144.F W334_7 (Dw A) = _
  unfold t334
  have p0:=great_no (l:=[dg (2 ^ 64) A]) (by
    intro x hx
    rw [List.mem_singleton] at hx
    rw [hx]
    exact dg_len_le (by decide) _ _ hA) (by simp)
  have p0:T185 ((Dw A :: []),()) = some (false,()):=p0
  have p1:=T173_dw (up5 hA)
  dsimp only
  simp only [pre185 p0,fun185 p0,pre173 p1,fun173 p1,cond_true,cond_false,Dw_len0]
  by_cases h0:A = 0
  · subst h0
    have:isq 0 = 0:=isq_of (by decide) (by decide)
    rw [this,Dw_zero]; rfl
  rw [decide_eq_false h0,cond_false]
  have p2:=T151_Dw (up5 hA)
  have hA':=hA
  rw [pow64_2] at hA'
  have hbl:=blen_bound hA'
  have e1:IntKind.wrap .i64 ((blen A:Int) + 1) = ((blen A + 1:Nat):Int):=by rw [wrapI (by omega)]; omega
  have e2:quoI .i64 ((blen A + 1:Nat):Int) 2 = (((blen A + 1) / 2:Nat):Int):=quo2i _ (by omega)
  have p3:=T186_eq [1] ⟨by simp,by simp⟩ ((blen A + 1) / 2) (by simp [trimL]; omega)
  rw [show nv (2 ^ 64) [1] = 1 by simp [nv],Nat.one_mul] at p3
  have p3:T186 (((1:Int) :: []),(((blen A + 1) / 2:Nat):Int),()) = _:=p3
  have hge:isq A ≤ 2 ^ ((blen A + 1) / 2):=by
    have h1:=isq_bound (X:=A) (k:=(blen A + 1) / 2) (Nat.lt_of_lt_of_le (blen_lt A) (Nat.pow_le_pow_right (by decide) (by omega)))
    omega
  have hw:=W334_eq h0 (Nat.lt_of_lt_of_le hA (Nat.pow_le_pow_right (by decide) (by decide))) hge (by
    rw [pow64_2]
    exact Nat.pow_lt_pow_right (by decide) (by omega))
  have hs:=isq_self A
  have hsA:isq A < (2 ^ 64) ^ 1024:=Nat.lt_of_le_of_lt hs hA
  have p4:=T324_eq (up5 hsA) (up5 hsA)
  have hle:=isq_le A
  have p5:=T144_eq (up5 (Nat.lt_of_le_of_lt hle hA)) (up5 hA)
  simp only [pre151 p2,fun151 p2,e1,e2,pre186 p3,fun186 p3,cond_true]
  rw [hw]
  dsimp only [obind,obind2]
  simp only [pre324 p4,fun324 p4,pre144 p5,fun144 p5,cond_true]
  congr 3
  rw [Bool.eq_iff_iff,beq_iff_eq,decide_eq_true_eq]
  constructor
  · intro h
    split at h
    · assumption
    · split at h <;> cases h
  · intro h
    rw [if_pos h]
end VL
namespace VL
open Go Vx
noncomputable def rndM2 (f m:Int) (R:Nat) (E:Int) (more:Bool):Nat × Nat:=if more = true then rndN f m false (2 * R + 1) (E - 1) false else rndN f m false R E false
theorem rndM2_mark {f m:Int} (hf:Fm f) {R:Nat} {E:Int} {more:Bool} (hb:more = true → fP f + 2 ≤ blen R):rndN f m false R E more = rndM2 f m R E more:=by
  unfold rndM2
  cases more
  · rw [if_neg (by decide)]
  · rw [if_pos rfl,rnd_more hf (hb rfl)]
theorem rndM2_cut {f m:Int} (hf:Fm f) {R k:Nat} {E:Int} {more:Bool} (hb:fP f + 2 ≤ blen (R / 2 ^ k)):rndN f m false (R / 2 ^ k) (E + k) (more || decide (R % 2 ^ k ≠ 0)) = rndM2 f m R E more:=by
  have hP:=fP_ge hf
  have h0:R / 2 ^ k ≠ 0:=fun h=>by
    rw [h] at hb
    have:blen 0 = 0:=rfl
    omega
  unfold rndM2
  cases more
  · rw [if_neg (by decide),Bool.false_or]
    exact rnd_trunc hf h0 fun _=>hb
  · rw [if_pos rfl,Bool.true_or]
    have:=rnd_fine (f:=f) (m:=m) (neg:=false) (N:=R) (k:=k) (E:=E + k) hf hb
    rw [this,show E + (k:Int) - (k:Int) - 1 = E - 1 by omega]
theorem rootB_M2 (f m:Int) (X:Nat) (E:Int):rndM2 f m (isq X) E (!decide (isq X * isq X = X)) = rootB f m X E:=by
  unfold rndM2 rootB
  by_cases h:isq X * isq X = X
  · rw [decide_eq_true h,if_pos h]; rfl
  · rw [decide_eq_false h,if_neg h]; rfl
theorem two_cells {R:Nat} (hR:R < 2 ^ 128) :
    ((((0:Int) :: ((0:Int) :: [])).take (0:Nat) ++ (Dw R).take ((0:Int) :: ((0:Int) :: [])).length) ++ (((0:Int) :: ((0:Int) :: [])).drop ((0:Nat) + (min (Dw R).length ((0:Int) :: ((0:Int) :: [])).length)))) = ((R % 2 ^ 64:Nat):Int) :: ((R / 2 ^ 64:Nat):Int) :: []:=by
  rcases Nat.eq_zero_or_pos R with rfl | h0
  · rw [Dw_zero]; rfl
  rcases Nat.lt_or_ge R (2 ^ 64) with h | h
  · rw [Dw_small (by omega) h,Nat.mod_eq_of_lt h,Nat.div_eq_of_lt h]; rfl
  · have hd:Dw R = ((R % 2 ^ 64:Nat):Int) :: ((R / 2 ^ 64:Nat):Int) :: []:=by
      unfold Dw
      rw [dg_pos (by decide) (by omega),dg_pos (n:=R / 2 ^ 64) (by decide) (by omega),Nat.mod_eq_of_lt (a:=R / 2 ^ 64) (by omega),Nat.div_eq_of_lt (a:=R / 2 ^ 64) (by omega),dg_zero]; rfl
    rw [hd]; rfl
theorem T335_eq {f m:Int} (hf:Fm f) (hm:0 ≤ m ∧ m ≤ 5) {R:Nat} (h0:R ≠ 0) (hR:R < 2 ^ 20000) (E:Int) (hE:-10000 ≤ E ∧ E ≤ 10000) (more:Bool) (hmore:more = true → fP f + 2 ≤ blen R) :
    T335 (f,m,Dw R,E,more,()) = some (((rndM2 f m R E more).1:Int),((rndM2 f m R E more).2:Int),0,()):=by
  show t335 S151.pre S151.F S141.pre S141.F S176.pre S176.F S144.pre S144.F S122.pre S122.F f m (Dw R) E more = _
  unfold t335
  have hPl:=fP_le hf
  have hR5:R < (2 ^ 64) ^ 5000:=by
    rw [pow64_2]
    exact Nat.lt_of_lt_of_le hR (Nat.pow_le_pow_right (by decide) (by decide))
  have hbl:=blen_bound hR
  have p0:=T151_Dw hR5
  have e12:IntKind.wrap .i64 ((blen R:Int) - 128) = (blen R:Int) - 128:=wrapI (by omega)
  dsimp only
  simp only [pre151 p0,fun151 p0,cond_true,e12]
  by_cases hc:128 < blen R
  · obtain ⟨k,hk⟩:∃ k:Nat,blen R = 128 + k:=⟨blen R - 128,by omega⟩
    have ek:(blen R:Int) - 128 = (k:Int):=by omega
    have e0:decide ((k:Int) > 0) = true:=decide_eq_true (by omega)
    have hle:=blen_le h0
    have hlt:=blen_lt R
    have hk2:2 ^ k ≤ R:=Nat.le_trans (Nat.pow_le_pow_right (by decide) (by omega)) hle
    have hb2:=blen_shift hk2
    have htop:R / 2 ^ k < 2 ^ 128:=by
      rw [Nat.div_lt_iff_lt_mul (Nat.two_pow_pos k),← Nat.pow_add]
      exact Nat.lt_of_lt_of_le hlt (Nat.pow_le_pow_right (by decide) (by omega))
    have p1:=T141_eq (dg (2 ^ 64) R) (Dw_ws hR5) k (by omega)
    rw [nv_Dw] at p1
    have p1:T141 (Dw R,(k:Int),()) = some (Dw (R / 2 ^ k),0,()):=p1
    have hw:R / 2 ^ k * 2 ^ k ≤ R:=Nat.div_mul_le_self _ _
    have ht5:R / 2 ^ k < (2 ^ 64) ^ 5000:=Nat.lt_of_le_of_lt (Nat.div_le_self _ _) hR5
    have p2:=T176_eq (dg (2 ^ 64) (R / 2 ^ k)) (Dw_ws ht5) k (by omega) (by
      rw [nv_Dw,pow64_2]
      exact Nat.lt_of_le_of_lt hw (Nat.lt_of_lt_of_le hR (Nat.pow_le_pow_right (by decide) (by decide))))
    rw [nv_Dw] at p2
    have p2:T176 (Dw (R / 2 ^ k),(k:Int),()) = some (Dw (R / 2 ^ k * 2 ^ k),0,()):=p2
    have p3:=T144_eq (Nat.lt_of_le_of_lt hw hR5) hR5
    have hne:((if R / 2 ^ k * 2 ^ k = R then (0:Int) else if R / 2 ^ k * 2 ^ k < R then -1 else 1) != 0) = decide (R % 2 ^ k ≠ 0):=by
      have hdm:=Nat.div_add_mod R (2 ^ k)
      rw [Nat.mul_comm] at hdm
      rw [Bool.eq_iff_iff,bne_iff_ne,decide_eq_true_eq]
      split
      · omega
      · split <;> omega
    have p4:=T122_eq hf hm false (R / 2 ^ k) htop (E + k) (by omega) (more || decide (R % 2 ^ k ≠ 0)) (fun _=>by omega)
    have hq0:R / 2 ^ k ≠ 0:=fun h=>by
      rw [h] at hb2
      have:blen 0 = 0:=rfl
      omega
    rw [if_neg hq0,rndM2_cut hf (by omega)] at p4
    have e5:IntKind.wrap .i64 (E + (k:Int)) = E + (k:Int):=wrapI (by omega)
    have tw:=two_cells htop
    simp only [ek,e0,cond_true,pre141 p1,fun141 p1,pre176 p2,fun176 p2,pre144 p3,fun144 p3,Bool.true_or,hne,e5,tw]
    show (bif S122.pre (f,(m,(false,(Wi (R / 2 ^ k),(E + (k:Int),((more || decide (R % 2 ^ k ≠ 0)),())))))) then some (S122.F (f,(m,(false,(Wi (R / 2 ^ k),(E + (k:Int),((more || decide (R % 2 ^ k ≠ 0)),()))))))) else none) = _
    simp only [pre122 p4,fun122 p4,cond_true]
    rfl
  · have e0:decide ((blen R:Int) - 128 > 0) = false:=decide_eq_false (by omega)
    have hR128:R < 2 ^ 128:=Nat.lt_of_lt_of_le (blen_lt R) (Nat.pow_le_pow_right (by decide) (by omega))
    have p4:=T122_eq hf hm false R hR128 E (by omega) more hmore
    rw [if_neg h0,rndM2_mark hf hmore] at p4
    have tw:=two_cells hR128
    simp only [e0,cond_false,tw]
    show (bif S122.pre (f,(m,(false,(Wi R,(E,(more,())))))) then some (S122.F (f,(m,(false,(Wi R,(E,(more,()))))))) else none) = _
    simp only [pre122 p4,fun122 p4,cond_true]
    rfl
end VL
namespace VL
open Go Vx
theorem T326_zero (z:Int):T326 ((0:Int),z,()) = some (Dw 0,()):=by
  rw [Dw_zero]
  show t326 S325.pre S325.F S176.pre S176.F (0:Int) z = _
  rfl
def sqsum (n:Nat) (x:Int) (k:Nat) (y l:Int):Nat:=n * n * 2 ^ (2 * (x - l).toNat) + k * k * 2 ^ (2 * (y - l).toNat)
noncomputable def hypX (f m:Int) (n:Nat) (x:Int) (k:Nat) (y:Int):Nat × Nat:=rootB f m (sqsum n x k y (min x y) * 2 ^ 200) (min x y - 100)
theorem hyp_at {f m:Int} (hf:Fm f) {n k:Nat} {x y low:Int} (hS:sqsum n x k y low ≠ 0) (d:Nat) (hd:low = min x y + d) (he:sqsum n x k y (min x y) = sqsum n x k y low * 2 ^ (2 * d)) :
    rootB f m (sqsum n x k y low * 2 ^ 128) (low - 64) = hypX f m n x k y ∧ 65 ≤ blen (isq (sqsum n x k y low * 2 ^ 128)):=by
  have hPl:=fP_le hf
  have hX:2 ^ (2 * 64) ≤ sqsum n x k y low * 2 ^ 128:=by
    have:=Nat.mul_le_mul_right (2 ^ 128) (show 1 ≤ sqsum n x k y low by omega)
    rw [Nat.one_mul] at this
    exact this
  have hb:=isq_blen hX
  have h0:sqsum n x k y low * 2 ^ 128 ≠ 0:=fun h=>by
    rw [h] at hX
    exact absurd hX (by decide)
  refine ⟨?_,hb⟩
  have:=rootB_fine (f:=f) (m:=m) (k:=36 + d) (E:=low - 64) hf h0 (by omega)
  unfold hypX
  rw [he,← this]
  have e1:sqsum n x k y low * 2 ^ (2 * d) * 2 ^ 200 = sqsum n x k y low * 2 ^ 128 * (2 ^ (36 + d) * 2 ^ (36 + d)):=by
    rw [Nat.mul_assoc,Nat.mul_assoc,← Nat.pow_add,← Nat.pow_add,← Nat.pow_add]
    congr 2
    omega
  rw [e1,show min x y - 100 = low - 64 - ((36 + d:Nat):Int) by omega]
theorem sq_bound {n:Nat} {j:Nat} (hn:n < 2 ^ 53) (hj:j ≤ 2200):n * n * 2 ^ (2 * j) < 2 ^ 4506:=by
  have h1:n * n < 2 ^ 53 * 2 ^ 53:=Nat.mul_lt_mul'' hn hn
  have h2:n * n * 2 ^ (2 * j) < 2 ^ 53 * 2 ^ 53 * 2 ^ (2 * j):=Nat.mul_lt_mul_of_pos_right h1 (Nat.two_pow_pos _)
  rw [← Nat.pow_add,← Nat.pow_add] at h2
  exact Nat.lt_of_lt_of_le h2 (Nat.pow_le_pow_right (by decide) (by omega))
theorem sqsum_bound {n k:Nat} {x y l:Int} (hn:n < 2 ^ 53) (hk:k < 2 ^ 53) (hx:x - l ≤ 2200) (hy:y - l ≤ 2200):sqsum n x k y l < 2 ^ 4507:=by
  have h1:=sq_bound (j:=(x - l).toNat) hn (by omega)
  have h2:=sq_bound (j:=(y - l).toNat) hk (by omega)
  unfold sqsum
  rw [Nat.pow_succ]
  omega
noncomputable def hypF (f m:Int) (a b:Nat):Int × Int × Int × Unit :=
  if chkL f m [a,b] ≠ 0 then (0,0,chkL f m [a,b],())
  else bif snan f a || snan f b then ((nanF f:Int),1,0,())
  else bif isInf f a || isInf f b then ((infB f false:Int),0,0,())
  else bif nan f a || nan f b then ((nanF f:Int),0,0,())
  else bif zro f a && zro f b then ((sgnF f false:Int),0,0,())
  else (((hypX f m (mant f a) (xpn f a) (mant f b) (xpn f b)).1:Int),((hypX f m (mant f a) (xpn f a) (mant f b) (xpn f b)).2:Int),0,())
theorem xpn_tight {f:Int} (hf:Fm f) (a:Nat):-1100 ≤ xpn f a ∧ xpn f a ≤ 1100:=by
  have h1:=e_le (f:=f) a
  have e:fullF f = 2 * fX f + 1:=by unfold fullF; rw [← fX_eq hf]
  have h2:=fX_le hf
  have h3:=fP_le hf
  have h4:=fP_ge hf
  unfold xpn
  split <;> omega
theorem zro_mantB (f:Int) (a:Nat):((mant f a:Int) == 0) = zro f a:=by
  cases hz:zro f a
  · exact beq0_f _ (zro_mant hz)
  · unfold zro at hz
    rw [Bool.and_eq_true,beq_iff_eq,beq_iff_eq] at hz
    unfold mant
    rw [if_pos hz.1,hz.2]; rfl
theorem hyp_run {f m:Int} (hf:Fm f) (hm:0 ≤ m ∧ m ≤ 5) {n k:Nat} {x y low:Int} (hn:n < 2 ^ 53) (hk:k < 2 ^ 53) (hx:-1100 ≤ x ∧ x ≤ 1100) (hy:-1100 ≤ y ∧ y ≤ 1100) (hl:-1100 ≤ low ∧ low ≤ 1100)
    (hS:sqsum n x k y low ≠ 0) (d:Nat) (hd:low = min x y + d) (he:sqsum n x k y (min x y) = sqsum n x k y low * 2 ^ (2 * d))
    (h1:T326 ((n:Int),x - low,()) = some (Dw (n * n * 2 ^ (2 * (x - low).toNat)),())) (h2:T326 ((k:Int),y - low,()) = some (Dw (k * k * 2 ^ (2 * (y - low).toNat)),())) :
    T143 (Dw (n * n * 2 ^ (2 * (x - low).toNat)),Dw (k * k * 2 ^ (2 * (y - low).toNat)),()) = some (Dw (sqsum n x k y low),()) ∧
    T176 (Dw (sqsum n x k y low),(128:Int),()) = some (Dw (sqsum n x k y low * 2 ^ 128),0,()) ∧
    T334 (Dw (sqsum n x k y low * 2 ^ 128),()) = some (Dw (isq (sqsum n x k y low * 2 ^ 128)),decide (isq (sqsum n x k y low * 2 ^ 128) * isq (sqsum n x k y low * 2 ^ 128) = sqsum n x k y low * 2 ^ 128),0,()) ∧
    T335 (f,m,Dw (isq (sqsum n x k y low * 2 ^ 128)),low - 64,!decide (isq (sqsum n x k y low * 2 ^ 128) * isq (sqsum n x k y low * 2 ^ 128) = sqsum n x k y low * 2 ^ 128),()) = some (((hypX f m n x k y).1:Int),((hypX f m n x k y).2:Int),0,()) ∧
    IntKind.wrap .i64 (low - 64) = low - 64 ∧ IntKind.wrap .i64 (x - low) = x - low ∧ IntKind.wrap .i64 (y - low) = y - low:=by
  have hPl:=fP_le hf
  have up5:∀ {z j:Nat},z < 2 ^ j → j ≤ 65536 → z < (2 ^ 64) ^ 5000:=fun h hj=>by
    rw [pow64_2]
    exact Nat.lt_of_lt_of_le h (Nat.pow_le_pow_right (by decide) (by omega))
  have b1:=sq_bound (j:=(x - low).toNat) hn (by omega)
  have b2:=sq_bound (j:=(y - low).toNat) hk (by omega)
  have bs:=sqsum_bound (x:=x) (y:=y) (l:=low) hn hk (by omega) (by omega)
  have bs2:sqsum n x k y low * 2 ^ 128 < 2 ^ 4635:=by
    have:sqsum n x k y low * 2 ^ 128 < 2 ^ 4507 * 2 ^ 128:=Nat.mul_lt_mul_of_pos_right bs (Nat.two_pow_pos _)
    rw [← Nat.pow_add] at this
    exact this
  obtain ⟨r1,r2⟩:=hyp_at (m:=m) hf hS d hd he
  have p1:=T143_dw (up5 (j:=4506) b1 (by decide)) (up5 (j:=4506) b2 (by decide))
  have p2:=T176_eq (dg (2 ^ 64) (sqsum n x k y low)) (Dw_ws (up5 (j:=4507) bs (by decide))) 128 (by decide) (by
    rw [nv_Dw,pow64_2]
    exact Nat.lt_of_lt_of_le bs2 (Nat.pow_le_pow_right (by decide) (by decide)))
  rw [nv_Dw] at p2
  have p3:=T334_eq (A:=sqsum n x k y low * 2 ^ 128) (by
    rw [pow64_2]
    exact Nat.lt_of_lt_of_le bs2 (Nat.pow_le_pow_right (by decide) (by decide)))
  have hi:=isq_self (sqsum n x k y low * 2 ^ 128)
  have hi0:isq (sqsum n x k y low * 2 ^ 128) ≠ 0:=fun h=>by
    rw [h] at r2
    have:blen 0 = 0:=rfl
    omega
  have p4:=T335_eq hf hm hi0 (Nat.lt_of_le_of_lt hi (Nat.lt_of_lt_of_le bs2 (Nat.pow_le_pow_right (by decide) (by decide)))) (low - 64) (by omega) (!decide (isq (sqsum n x k y low * 2 ^ 128) * isq (sqsum n x k y low * 2 ^ 128) = sqsum n x k y low * 2 ^ 128)) (fun _=>by omega)
  rw [rootB_M2,r1] at p4
  exact ⟨p1,p2,p3,p4,wrapI (by omega),wrapI (by omega),wrapI (by omega)⟩
theorem sqsum_at {n k:Nat} {x y:Int} (h:n ≠ 0 ∨ k ≠ 0):sqsum n x k y (min x y) ≠ 0:=by
  unfold sqsum
  rcases h with h | h
  · have:n * n * 2 ^ (2 * (x - min x y).toNat) ≠ 0:=Nat.mul_ne_zero (Nat.mul_ne_zero h h) (Nat.ne_of_gt (Nat.two_pow_pos _))
    omega
  · have:k * k * 2 ^ (2 * (y - min x y).toNat) ≠ 0:=Nat.mul_ne_zero (Nat.mul_ne_zero h h) (Nat.ne_of_gt (Nat.two_pow_pos _))
    omega
theorem T336_eq (f m:Int) {a b:Nat} (ha:a < 2 ^ 64) (hb:b < 2 ^ 64):T336 (f,m,(a:Int),(b:Int),()) = some (hypF f m a b):=by
  show t336 S311.pre S311.F S65.pre S65.F S323.pre S323.F S97.pre S97.F S70.pre S70.F S313.pre S313.F S118.pre S118.F S326.pre S326.F S143.pre S143.F S176.pre S176.F S334.pre S334.F S335.pre S335.F f m a b = _
  unfold t336 hypF
  rw [show ((a:Int) :: (b:Int) :: []) = Wd [a,b] from rfl]
  by_cases hf:Fm f
  case neg =>
    have p0:=T311_bad (m:=m) hf [a,b]
    have e0:chkL f m [a,b] = 2:=by unfold chkL; rw [if_pos hf]
    rw [e0]
    simp only [pre311 p0,fun311 p0,cond_true]
    rfl
  have p0:=T311_ok (m:=m) hf [a,b] (fun c hc=>by
    rcases List.mem_cons.1 hc with rfl | hc
    · exact ha
    · rw [List.mem_singleton] at hc; omega) (show (2:Nat) < 1000 by decide)
  by_cases hk:chkL f m [a,b] ≠ 0
  · rw [if_pos hk]
    have:(chkL f m [a,b] != 0) = true:=bne_iff_ne.2 hk
    simp only [pre311 p0,fun311 p0,cond_true,this]
  have hk:chkL f m [a,b] = 0:=Classical.not_not.1 hk
  obtain ⟨_,hm,hc⟩:=chkL_zero hk
  have h:=hc a (by simp)
  have h':=hc b (by simp)
  rw [if_neg (show ¬ chkL f m [a,b] ≠ 0 from fun h=>h hk)]
  rw [hk] at p0
  have p1:=T65_ok ha h
  have p2:=T65_ok hb h'
  have t323:∀ c:Int,T323 (c,()) = some ((c == 2 || c == 9),()):=fun c=>rfl
  have p3:=t323 (cls f a)
  have p4:=t323 (cls f b)
  rw [cls_isInf] at p3 p4
  simp only [pre311 p0,fun311 p0,cond_true,bne_self_eq_false,cond_false,pre65 p1,fun65 p1,pre65 p2,fun65 p2,cls_snan,pre323 p3,fun323 p3,pre323 p4,fun323 p4,Bool.true_or,pre70 (T70_ok hf),fun70 (T70_ok hf),pre97 (T97_ok hf _),fun97 (T97_ok hf _),pre118 (T118_ok hf _),fun118 (T118_ok hf _)]
  cases hs:snan f a || snan f b
  case true=>rfl
  simp only [cond_false]
  cases hi:isInf f a || isInf f b
  case true=>rfl
  simp only [cond_false]
  rw [Bool.or_eq_false_iff] at hs
  have n1:(cls f a == 1) = nan f a:=by
    have:=cls_nan f a
    rw [cls_snan,hs.1,Bool.or_false] at this
    exact this
  have n2:(cls f b == 1) = nan f b:=by
    have:=cls_nan f b
    rw [cls_snan,hs.2,Bool.or_false] at this
    exact this
  rw [n1,n2]
  cases hn:nan f a || nan f b
  case true=>rfl
  simp only [cond_false]
  have q1:=T313_eq h
  have q2:=T313_eq h'
  simp only [pre313 q1,fun313 q1,pre313 q2,fun313 q2,cond_true,zro_mantB]
  cases hz:zro f a && zro f b
  case true=>rfl
  simp only [cond_false]
  have hn53:=mant_lt hf a
  have hk53:=mant_lt hf b
  have hx:=xpn_tight hf a
  have hy:=xpn_tight hf b
  have sq:∀ (n:Nat) (z:Int),n < 2 ^ 53 → 0 ≤ z ∧ z ≤ 2200 → T326 ((n:Int),z,()) = some (Dw (n * n * 2 ^ (2 * z.toNat)),()):=fun n z hn hz=>by
    obtain ⟨j,rfl⟩:=Int.eq_ofNat_of_zero_le hz.1
    exact T326_eq (Nat.lt_trans hn (by decide)) (by omega)
  have sq0:∀ (n:Nat) (z:Int),n = 0 → T326 ((n:Int),z,()) = some (Dw (n * n * 2 ^ (2 * z.toNat)),()):=fun n z hn=>by
    subst hn
    have e0:0 * 0 * 2 ^ (2 * z.toNat) = 0:=by simp
    rw [e0]
    exact T326_zero z
  have mz:∀ c:Nat,zro f c = true → mant f c = 0:=fun c hc=>by
    have:=zro_mantB f c
    rw [hc,beq_iff_eq] at this
    omega
  cases hza:zro f a
  · have hna:=zro_mant hza
    cases hzb:zro f b
    · have hkb:=zro_mant hzb
      simp only [cond_false]
      have em:(if xpn f b < xpn f a then xpn f b else xpn f a) = min (xpn f a) (xpn f b):=by
        rw [Int.min_def]
        split <;> split <;> omega
      have s1:=sq (mant f a) (xpn f a - min (xpn f a) (xpn f b)) hn53 (by omega)
      have s2:=sq (mant f b) (xpn f b - min (xpn f a) (xpn f b)) hk53 (by omega)
      obtain ⟨r1,r2,r3,r4,r5,r6,r7⟩:=hyp_run hf hm hn53 hk53 (by omega) (by omega) (by omega) (sqsum_at (.inl hna)) 0 (by omega) (by rw [Nat.mul_zero,Nat.pow_zero,Nat.mul_one]) s1 s2
      simp only [em,r5,r6,r7,pre326 s1,fun326 s1,pre326 s2,fun326 s2,pre143 r1,fun143 r1,pre176 r2,fun176 r2,pre334 r3,fun334 r3,pre335 r4,fun335 r4,cond_true]
    · have hk0:=mz b hzb
      simp only [cond_false,cond_true]
      have s1:=sq (mant f a) (xpn f a - xpn f a) hn53 (by omega)
      have s2:=sq0 (mant f b) (xpn f b - xpn f a) hk0
      obtain ⟨j,hj⟩:=Int.eq_ofNat_of_zero_le (show 0 ≤ xpn f a - min (xpn f a) (xpn f b) by omega)
      have he:sqsum (mant f a) (xpn f a) (mant f b) (xpn f b) (min (xpn f a) (xpn f b)) = sqsum (mant f a) (xpn f a) (mant f b) (xpn f b) (xpn f a) * 2 ^ (2 * j):=by
        unfold sqsum
        rw [hk0,hj,Int.toNat_natCast,Int.sub_self]
        simp
      have hS:sqsum (mant f a) (xpn f a) (mant f b) (xpn f b) (xpn f a) ≠ 0:=fun h=>by
        rw [h,Nat.zero_mul] at he
        exact sqsum_at (.inl hna) he
      obtain ⟨r1,r2,r3,r4,r5,r6,r7⟩:=hyp_run hf hm hn53 hk53 (by omega) (by omega) (by omega) hS j (by omega) he s1 s2
      simp only [r5,r6,r7,pre326 s1,fun326 s1,pre326 s2,fun326 s2,pre143 r1,fun143 r1,pre176 r2,fun176 r2,pre334 r3,fun334 r3,pre335 r4,fun335 r4,cond_true]
  · have hn0:=mz a hza
    rw [hza,Bool.true_and] at hz
    have hkb:=zro_mant hz
    simp only [cond_false,cond_true,hz]
    have s1:=sq0 (mant f a) (xpn f a - xpn f b) hn0
    have s2:=sq (mant f b) (xpn f b - xpn f b) hk53 (by omega)
    obtain ⟨j,hj⟩:=Int.eq_ofNat_of_zero_le (show 0 ≤ xpn f b - min (xpn f a) (xpn f b) by omega)
    have he:sqsum (mant f a) (xpn f a) (mant f b) (xpn f b) (min (xpn f a) (xpn f b)) = sqsum (mant f a) (xpn f a) (mant f b) (xpn f b) (xpn f b) * 2 ^ (2 * j):=by
      unfold sqsum
      rw [hn0,hj,Int.toNat_natCast,Int.sub_self]
      simp
    have hS:sqsum (mant f a) (xpn f a) (mant f b) (xpn f b) (xpn f b) ≠ 0:=fun h=>by
      rw [h,Nat.zero_mul] at he
      exact sqsum_at (.inr hkb) he
    obtain ⟨r1,r2,r3,r4,r5,r6,r7⟩:=hyp_run hf hm hn53 hk53 (by omega) (by omega) (by omega) hS j (by omega) he s1 s2
    simp only [r5,r6,r7,pre326 s1,fun326 s1,pre326 s2,fun326 s2,pre143 r1,fun143 r1,pre176 r2,fun176 r2,pre334 r3,fun334 r3,pre335 r4,fun335 r4,cond_true]
end VL
namespace VL
open Go Vx
theorem isq_fix1:isq (1024 * 2 * 2 ^ 200) = 57367317478181007276781504744917:=isq_of (by decide +kernel) (by decide +kernel)
theorem isq_fix2:isq (6553600 * 2 ^ 200) = 2560 * 2 ^ 100:=isq_of (by decide +kernel) (by decide +kernel)
theorem chkL_ok {f m:Int} {l:List Nat} (hf:Fm f) (hm:0 ≤ m ∧ m ≤ 5) (hl:okL f l = true):chkL f m l = 0:=by
  unfold chkL
  rw [if_neg (show ¬ ¬ Fm f from fun h=>h hf),if_neg (by omega),hl]; rfl
theorem Fm0:Fm 0:=⟨by decide,by decide⟩
theorem fix_sqrt:sqrtF 0 0 16384 = (15784,16,0,()):=by
  unfold sqrtF
  have e0:chkL 0 0 [16384] = 0:=chkL_ok Fm0 (by decide) (by decide +kernel)
  have e1:nan 0 16384 = false:=by decide +kernel
  have e2:(sF 0 16384 && !zro 0 16384) = false:=by decide +kernel
  have e3:(zro 0 16384 || isInf 0 16384) = false:=by decide +kernel
  have e4:mant 0 16384 = 1024:=by decide +kernel
  have e5:xpn 0 16384 = -9:=by decide +kernel
  rw [if_neg (by rw [e0]; decide),e1,e2,e3,e4,e5]
  have e6:rootX 0 0 1024 (-9) = (15784,16):=by
    unfold rootX rootB
    rw [if_pos (by decide),isq_fix1,if_neg (by decide +kernel)]
    decide +kernel
  rw [e6]; rfl
theorem fix_hyp:hypF 0 0 16896 50176 = (17664,0,0,()):=by
  unfold hypF
  have e0:chkL 0 0 [16896,50176] = 0:=chkL_ok Fm0 (by decide) (by decide +kernel)
  have e1:(snan 0 16896 || snan 0 50176) = false:=by decide +kernel
  have e2:(isInf 0 16896 || isInf 0 50176) = false:=by decide +kernel
  have e3:(nan 0 16896 || nan 0 50176) = false:=by decide +kernel
  have e4:(zro 0 16896 && zro 0 50176) = false:=by decide +kernel
  have m1:mant 0 16896 = 1536:=by decide +kernel
  have x1:xpn 0 16896 = -9:=by decide +kernel
  have m2:mant 0 50176 = 1024:=by decide +kernel
  have x2:xpn 0 50176 = -8:=by decide +kernel
  rw [if_neg (by rw [e0]; decide),e1,e2,e3,e4,m1,m2,x1,x2]
  have e6:hypX 0 0 1536 (-9) 1024 (-8) = (17664,0):=by
    unfold hypX rootB
    have e7:sqsum 1536 (-9) 1024 (-8) (min (-9) (-8)) = 6553600:=by decide +kernel
    rw [e7,isq_fix2,if_pos (by decide +kernel)]
    decide +kernel
  rw [e6]; rfl
theorem T337_true:T337 () = some (true,()):=by
  show t337 S318.pre S318.F S336.pre S336.F = _
  unfold t337
  have p1:=T318_eq 0 0 (a:=16384) (by decide)
  have p2:=T336_eq 0 0 (a:=16896) (b:=50176) (by decide) (by decide)
  rw [fix_sqrt] at p1
  rw [fix_hyp] at p2
  have p1:T318 ((0:Int),((0:Int),((16384:Int),()))) = _:=p1
  have p2:T336 ((0:Int),((0:Int),((16896:Int),((50176:Int),())))) = _:=p2
  dsimp only
  simp only [pre318 p1,fun318 p1,pre336 p2,fun336 p2,cond_true]
  rfl
end VL
namespace VL
open Go Vx
theorem cls_neg0 {f:Int} (hf:Fm f) (a:Nat):(cls f a == 5) = (zro f a && sF f a):=by
  have hfull:=full_pos hf
  unfold cls zro
  simp only [bne]
  cases h1:eF f a == fullF f <;> cases h2:mF f a == 0 <;> cases sF f a <;> cases h3:eF f a == 0 <;> cases mF f a / 2 ^ (fP f - 2) == 0 <;> first | rfl | (exfalso; rw [beq_iff_eq] at h1 h3; omega)
theorem cls_pos0 {f:Int} (hf:Fm f) (a:Nat):(cls f a == 6) = (zro f a && !sF f a):=by
  have hfull:=full_pos hf
  unfold cls zro
  simp only [bne]
  cases h1:eF f a == fullF f <;> cases h2:mF f a == 0 <;> cases sF f a <;> cases h3:eF f a == 0 <;> cases mF f a / 2 ^ (fP f - 2) == 0 <;> first | rfl | (exfalso; rw [beq_iff_eq] at h1 h3; omega)
theorem isq_quot (A n K:Nat) (hn:0 < n) (hK:0 < K):isq (A * (K * K) / n) / K = isq (A / n):=by
  symm
  have h1:=isq_le (A * (K * K) / n)
  have h3:∀ y,y * K ≤ isq (A * (K * K) / n) ↔ y * y ≤ A / n:=fun y=>by
    have e:y * K * (y * K) * n = y * y * n * (K * K):=by rw [mul_sq,Nat.mul_right_comm]
    constructor
    · intro h
      rw [Nat.le_div_iff_mul_le hn]
      have h4:=Nat.le_trans (sq_mono h) h1
      rw [Nat.le_div_iff_mul_le hn,e] at h4
      exact Nat.le_of_mul_le_mul_right h4 (Nat.mul_pos hK hK)
    · intro h
      rw [Nat.le_div_iff_mul_le hn] at h
      apply isq_ge
      rw [Nat.le_div_iff_mul_le hn,e]
      exact Nat.mul_le_mul_right _ h
  apply isq_of
  · exact (h3 _).1 (Nat.div_mul_le_self _ _)
  · rcases Nat.lt_or_ge (A / n) ((isq (A * (K * K) / n) / K + 1) * (isq (A * (K * K) / n) / K + 1)) with h | h
    · exact h
    · have:=(h3 _).2 h
      have h4:=Nat.lt_div_mul_add (a:=isq (A * (K * K) / n)) hK
      rw [Nat.add_mul,Nat.one_mul] at this
      omega
noncomputable def recB (f m:Int) (n:Nat) (e:Int):Nat × Nat:=rndM2 f m (isq (2 ^ 400 / n)) (-e - 200) (!decide (isq (2 ^ 400 / n) * isq (2 ^ 400 / n) * n = 2 ^ 400))
noncomputable def recX (f m:Int) (n:Nat) (e:Int):Nat × Nat:=if e % 2 = 1 then recB f m (2 * n) ((e - 1) / 2) else recB f m n (e / 2)
theorem rec_exact {n:Nat} (hn:0 < n):(isq (2 ^ 240 / n) * isq (2 ^ 240 / n) * n = 2 ^ 240) ↔ (isq (2 ^ 400 / n) * isq (2 ^ 400 / n) * n = 2 ^ 400 ∧ isq (2 ^ 400 / n) % 2 ^ 80 = 0):=by
  have hq:=isq_quot (2 ^ 240) n (2 ^ 80) hn (Nat.two_pow_pos _)
  rw [show 2 ^ 240 * (2 ^ 80 * 2 ^ 80) = 2 ^ 400 by decide +kernel] at hq
  have hdm:=Nat.div_add_mod (isq (2 ^ 400 / n)) (2 ^ 80)
  constructor
  · intro h
    have h2:isq (2 ^ 400 / n) = isq (2 ^ 240 / n) * 2 ^ 80:=by
      generalize isq (2 ^ 240 / n) = r at *
      have e:2 ^ 400 = (r * 2 ^ 80) * (r * 2 ^ 80) * n:=by
        rw [mul_sq,Nat.mul_right_comm,h] <;> decide +kernel
      rw [e,Nat.mul_div_cancel _ hn,isq_sq]
    rw [h2]
    refine ⟨?_,Nat.mul_mod_left _ _⟩
    rw [mul_sq,Nat.mul_right_comm,h] <;> decide +kernel
  · rintro ⟨h1,h2⟩
    rw [h2,Nat.add_zero,hq] at hdm
    rw [← hdm,Nat.mul_comm (2 ^ 80),mul_sq,Nat.mul_right_comm] at h1
    have e:2 ^ 400 = 2 ^ 240 * (2 ^ 80 * 2 ^ 80):=by decide +kernel
    rw [e] at h1
    exact Nat.eq_of_mul_eq_mul_right (by decide) h1
theorem blen_recip {n:Nat} (hn:0 < n) (h:n < 2 ^ 54):94 ≤ blen (isq (2 ^ 240 / n)):=by
  apply isq_blen
  rw [Nat.le_div_iff_mul_le hn]
  have:2 ^ (2 * 93) * n ≤ 2 ^ (2 * 93) * 2 ^ 54:=Nat.mul_le_mul_left _ (by omega)
  rw [← Nat.pow_add] at this
  exact this
theorem not_both (p:Prop) (y:Nat) [Decidable p] [Decidable (p ∧ y = 0)]:(!decide (p ∧ y = 0)) = (!decide p || decide (y ≠ 0)):=by
  by_cases h1:p <;> by_cases h2:y = 0 <;> simp [h1,h2]
theorem rec_prog {f m:Int} (hf:Fm f) {n:Nat} (hn:0 < n) (h:n < 2 ^ 54) (e:Int) :
    rndM2 f m (isq (2 ^ 240 / n)) (-e - 120) (!decide (isq (2 ^ 240 / n) * isq (2 ^ 240 / n) * n = 2 ^ 240)) = recB f m n e:=by
  have hPl:=fP_le hf
  have hb:=blen_recip hn h
  have hq:=isq_quot (2 ^ 240) n (2 ^ 80) hn (Nat.two_pow_pos _)
  rw [show 2 ^ 240 * (2 ^ 80 * 2 ^ 80) = 2 ^ 400 by decide +kernel] at hq
  have hx:=rec_exact hn
  have hc:=rndM2_cut (f:=f) (m:=m) (R:=isq (2 ^ 400 / n)) (k:=80) (E:=-e - 200) (more:=!decide (isq (2 ^ 400 / n) * isq (2 ^ 400 / n) * n = 2 ^ 400)) hf (by rw [hq]; omega)
  unfold recB
  rw [← hc,hq,← rndM2_mark hf (fun _=>by omega)]
  have e1:(!decide (isq (2 ^ 240 / n) * isq (2 ^ 240 / n) * n = 2 ^ 240)) = (!decide (isq (2 ^ 400 / n) * isq (2 ^ 400 / n) * n = 2 ^ 400) || decide (isq (2 ^ 400 / n) % 2 ^ 80 ≠ 0)):=by
    rw [decide_eq_decide.2 hx]
    exact not_both _ _
  rw [e1,show -e - 200 + ((80:Nat):Int) = -e - 120 by omega]
noncomputable def recipF (f m:Int) (a:Nat):Int × Int × Int × Unit :=
  if chkL f m [a] ≠ 0 then (0,0,chkL f m [a],())
  else bif nan f a then ((nanF f:Int),(bif snan f a then 1 else 0),0,())
  else bif sF f a && !zro f a then ((nanF f:Int),1,0,())
  else bif zro f a then ((infB f (sF f a):Int),2,0,())
  else bif isInf f a then ((sgnF f false:Int),0,0,())
  else (((recX f m (mant f a) (xpn f a)).1:Int),((recX f m (mant f a) (xpn f a)).2:Int),0,())
theorem T346_eq (f m:Int) {a:Nat} (ha:a < 2 ^ 64):T346 (f,m,(a:Int),()) = some (recipF f m a):=by
  show t346 S311.pre S311.F S65.pre S65.F S312.pre S312.F S118.pre S118.F S97.pre S97.F S313.pre S313.F S176.pre S176.F S345.pre S345.F S334.pre S334.F S335.pre S335.F f m a = _
  unfold t346 recipF
  rw [show ((a:Int) :: []) = Wd [a] from rfl]
  by_cases hf:Fm f
  case neg =>
    have p0:=T311_bad (m:=m) hf [a]
    have e0:chkL f m [a] = 2:=by unfold chkL; rw [if_pos hf]
    rw [e0]
    simp only [pre311 p0,fun311 p0,cond_true]
    rfl
  have p0:=T311_ok (m:=m) hf [a] (fun b hb=>by rw [List.mem_singleton] at hb; omega) (show (1:Nat) < 1000 by decide)
  by_cases hk:chkL f m [a] ≠ 0
  · rw [if_pos hk]
    have:(chkL f m [a] != 0) = true:=bne_iff_ne.2 hk
    simp only [pre311 p0,fun311 p0,cond_true,this]
  have hk:chkL f m [a] = 0:=Classical.not_not.1 hk
  obtain ⟨_,hm,hc⟩:=chkL_zero hk
  have h:=hc a (List.mem_singleton.2 rfl)
  rw [if_neg (show ¬ chkL f m [a] ≠ 0 from fun h=>h hk)]
  rw [hk] at p0
  have p1:=T65_ok ha h
  have p2:=T312_eq hf (cls f a)
  have hcn:=cls_nan f a
  have hcs:=cls_snan f a
  have hcb:=cls_below hf a
  have hcz:=cls_neg0 hf a
  have hcp:=cls_pos0 hf a
  have hcu:=cls_up hf a
  dsimp only
  simp only [pre311 p0,fun311 p0,cond_true,bne_self_eq_false,cond_false,pre65 p1,fun65 p1,pre312 p2,fun312 p2,hcu,hcz,hcp,pre97 (T97_ok hf _),fun97 (T97_ok hf _),pre118 (T118_ok hf _),fun118 (T118_ok hf _)]
  cases hn:nan f a
  case true =>
    cases hs:snan f a
    · rw [hs] at hcs
      rw [hn,hcs,Bool.or_false] at hcn
      rw [hcn]; rfl
    · rw [hs] at hcs
      have h1:(cls f a == 1) = false:=by
        rw [beq_iff_eq] at hcs
        rw [hcs]; rfl
      rw [h1,hcs]; rfl
  rw [hn,Bool.or_eq_false_iff] at hcn
  rw [hn,Bool.not_false,Bool.and_true] at hcb
  rw [hcn.1,hcn.2,Bool.false_or]
  simp only [cond_false]
  rw [hcb]
  cases hb:sF f a && !zro f a
  case true=>rfl
  simp only [cond_false]
  cases hz:zro f a
  case true =>
    have hi:isInf f a = false:=by
      have hfull:=full_pos hf
      unfold zro at hz
      rw [Bool.and_eq_true,beq_iff_eq] at hz
      unfold isInf
      rw [hz.1]
      have:(0 == fullF f) = false:=by
        rw [beq_eq_false_iff_ne]; omega
      rw [this]; rfl
    rw [hi]
    cases sF f a <;> rfl
  rw [hz,Bool.not_false,Bool.and_true] at hb
  rw [hb]
  cases hi:isInf f a
  case true=>rfl
  simp only [Bool.false_and,cond_false]
  have h0:=zro_mant hz
  have hml:=mant_lt hf a
  have hx:=xpn_bound hf a
  have p3:=T313_eq h
  have hw2:IntKind.wrap .u64 (2 * (mant f a:Int)) = ((2 * mant f a:Nat):Int):=by rw [wrapU (by omega)]; omega
  have p4:T176 (((1:Int) :: []),(240:Int),()) = some (Dw (2 ^ 240),0,()):=by
    have h1:Ws [1]:=⟨by simp,by simp⟩
    have:=T176_eq [1] h1 240 (by decide) (by rw [show nv (2 ^ 64) [1] = 1 by simp [nv],pow64_2,Nat.one_mul]; exact Nat.pow_lt_pow_right (by decide) (by decide))
    rw [show nv (2 ^ 64) [1] = 1 by simp [nv],Nat.one_mul] at this
    exact this
  have go:∀ (n:Nat) (e:Int),0 < n → n < 2 ^ 54 → -5000 ≤ e ∧ e ≤ 5000 →
      T345 (Dw (2 ^ 240),((n:Int) :: []),()) = some (Dw (2 ^ 240 / n),Dw (2 ^ 240 % n),0,()) ∧
      T334 (Dw (2 ^ 240 / n),()) = some (Dw (isq (2 ^ 240 / n)),decide (isq (2 ^ 240 / n) * isq (2 ^ 240 / n) = 2 ^ 240 / n),0,()) ∧
      T335 (f,m,Dw (isq (2 ^ 240 / n)),-e - 120,(!decide (isq (2 ^ 240 / n) * isq (2 ^ 240 / n) = 2 ^ 240 / n) || decide (((Dw (2 ^ 240 % n)).length:Int) > 0)),()) = some (((recB f m n e).1:Int),((recB f m n e).2:Int),0,()):=fun n e hn hn2 he=>by
    have hPl:=fP_le hf
    have hd1:((n:Int) :: []) = Dw n:=(Dw_small (by omega) (by omega)).symm
    have hq0:2 ^ 240 / n ≤ 2 ^ 240:=Nat.div_le_self _ _
    have h240:2 ^ 240 < (2 ^ 64) ^ 1024:=by rw [pow64_2]; exact Nat.pow_lt_pow_right (by decide) (by decide)
    have hb:=blen_recip hn hn2
    have hr:=isq_self (2 ^ 240 / n)
    have hr0:isq (2 ^ 240 / n) ≠ 0:=fun h=>by
      rw [h] at hb
      have:blen 0 = 0:=rfl
      omega
    have q1:=T345_eq h240 (b:=n) (by rw [pow64_2]; exact Nat.lt_of_lt_of_le hn2 (Nat.pow_le_pow_right (by decide) (by decide))) (by omega)
    rw [← hd1] at q1
    have q2:=T334_eq (A:=2 ^ 240 / n) (Nat.lt_of_le_of_lt hq0 h240)
    have q3:=T335_eq hf hm hr0 (Nat.lt_of_le_of_lt (Nat.le_trans hr hq0) (Nat.pow_lt_pow_right (by decide) (by decide))) (-e - 120) (by omega) (!decide (isq (2 ^ 240 / n) * isq (2 ^ 240 / n) * n = 2 ^ 240)) (fun _=>by omega)
    rw [rec_prog hf hn hn2] at q3
    have eB:(!decide (isq (2 ^ 240 / n) * isq (2 ^ 240 / n) = 2 ^ 240 / n) || decide (((Dw (2 ^ 240 % n)).length:Int) > 0)) = !decide (isq (2 ^ 240 / n) * isq (2 ^ 240 / n) * n = 2 ^ 240):=by
      have hl0:decide (((Dw (2 ^ 240 % n)).length:Int) > 0) = decide (2 ^ 240 % n ≠ 0):=by
        have:=Dw_len0 (2 ^ 240 % n)
        rw [Bool.eq_iff_iff,beq_iff_eq,decide_eq_true_eq] at this
        rw [decide_eq_decide]
        omega
      rw [hl0]
      have hdm:=Nat.div_add_mod (2 ^ 240) n
      have hml:=Nat.mod_lt (2 ^ 240) hn
      rw [Bool.eq_iff_iff,Bool.or_eq_true,Bool.not_eq_true',Bool.not_eq_true',decide_eq_false_iff_not,decide_eq_true_eq,decide_eq_false_iff_not]
      constructor
      · intro h3 h4
        have h5:2 ^ 240 / n = isq (2 ^ 240 / n) * isq (2 ^ 240 / n):=by
          generalize isq (2 ^ 240 / n) * isq (2 ^ 240 / n) = z at *
          rw [← h4,Nat.mul_div_cancel _ hn]
        rcases h3 with h3 | h3
        · exact h3 h5.symm
        · rw [h5,Nat.mul_comm n,h4] at hdm
          omega
      · intro h3
        by_cases h4:isq (2 ^ 240 / n) * isq (2 ^ 240 / n) = 2 ^ 240 / n
        · right
          intro h5
          rw [h5,Nat.add_zero,Nat.mul_comm] at hdm
          rw [h4] at h3
          exact h3 hdm
        · exact .inl h4
    rw [eB]
    exact ⟨q1,q2,q3⟩
  simp only [pre313 p3,fun313 p3,cond_true,tmodP,pre176 p4,fun176 p4,hw2]
  unfold recX
  by_cases ho:xpn f a % 2 = 1
  · obtain ⟨q1,q2,q3⟩:=go (2 * mant f a) ((xpn f a - 1) / 2) (by omega) (by omega) (by omega)
    have e1:IntKind.wrap .i64 (xpn f a - 1) = xpn f a - 1:=wrapI (by omega)
    have e2:quoI .i64 (xpn f a - 1) 2 = (xpn f a - 1) / 2:=by
      have:=quo2 ((xpn f a - 1) / 2) (by omega)
      rw [show 2 * ((xpn f a - 1) / 2) = xpn f a - 1 by omega] at this
      exact this
    have e3:IntKind.wrap .i64 (-120 - (xpn f a - 1) / 2) = -((xpn f a - 1) / 2) - 120:=by rw [wrapI (by omega)]; omega
    rw [decide_eq_true ho,if_pos ho]
    simp only [cond_true,e1,e2,e3,pre345 q1,fun345 q1,pre334 q2,fun334 q2,pre335 q3,fun335 q3]
  · obtain ⟨q1,q2,q3⟩:=go (mant f a) (xpn f a / 2) (by omega) (by omega) (by omega)
    have e2:quoI .i64 (xpn f a) 2 = xpn f a / 2:=by
      have:=quo2 (xpn f a / 2) (by omega)
      rw [show 2 * (xpn f a / 2) = xpn f a by omega] at this
      exact this
    have e3:IntKind.wrap .i64 (-120 - xpn f a / 2) = -(xpn f a / 2) - 120:=by rw [wrapI (by omega)]; omega
    rw [decide_eq_false ho,if_neg ho]
    simp only [cond_true,cond_false,e2,e3,pre345 q1,fun345 q1,pre334 q2,fun334 q2,pre335 q3,fun335 q3]
end VL
namespace VL
open Go Vx
def muE (f m:Int) (neg:Bool) (d n:Nat):Nat:=(blen n - fP f - d) * 2 ^ (fP f - 1) + cutJ m neg n (blen n - fP f - d + d)
theorem quo_top {f:Int} (hf:Fm f) (d n:Nat):n / 2 ^ (blen n - fP f - d + d) < 2 ^ fP f:=by
  rw [Nat.div_lt_iff_lt_mul (Nat.two_pow_pos _),← Nat.pow_add]
  exact Nat.lt_of_lt_of_le (blen_lt n) (Nat.pow_le_pow_right (by decide) (by omega))
theorem quo_low {f:Int} (hf:Fm f) {d n:Nat} (h0:n ≠ 0) (hJ:fP f + d ≤ blen n):2 ^ (fP f - 1) ≤ n / 2 ^ (blen n - fP f - d + d):=by
  have hP:=fP_ge hf
  rw [Nat.le_div_iff_mul_le (Nat.two_pow_pos _),← Nat.pow_add]
  exact Nat.le_trans (Nat.pow_le_pow_right (by decide) (by omega)) (blen_le h0)
theorem rndM_muE {f:Int} (hf:Fm f) (m:Int) (neg:Bool) {n:Nat} (h0:n ≠ 0) (d:Nat) :
    rndM f m neg n (qm f - d) = if infF f ≤ muE f m neg d n then (limM f m neg,20) else (muE f m neg d n,if clsR (n % 2 ^ (blen n - fP f - d + d)) (blen n - fP f - d + d) = 0 then 0 else if isTiny f m neg n (qm f - d) false then 24 else 16):=by
  have hP:=fP_ge hf
  have hX:=fX_ge hf
  have h2p:=two_P hf
  have hpp:=Nat.two_pow_pos (fP f - 1)
  have hinf:=inf_ge hf
  have hb1:=blen_pos h0
  have htop:topE n (qm f - d) = qm f - d + (blen n:Int) - 1:=rfl
  have hqm:qm f = 1 - (fX f:Int) - (fP f:Int) + 1:=rfl
  have hqt:=quo_top hf d n
  have hql:=quo_low hf (d:=d) h0
  have hlow:lowE f (topE n (qm f - d)) = qm f + ((blen n - fP f - d:Nat):Int):=by unfold lowE; split <;> omega
  obtain ⟨hc1,hc2⟩:=cutJ_bound m neg n (blen n - fP f - d + d)
  have hcr:cutR n (qm f - d) (qm f + ((blen n - fP f - d:Nat):Int)) false = clsR (n % 2 ^ (blen n - fP f - d + d)) (blen n - fP f - d + d):=by
    rw [cutR_f]
    rcases Nat.eq_zero_or_pos (blen n - fP f - d + d) with hz | hz
    · rw [rstE_lo (by omega),hz,Nat.pow_zero,Nat.mod_one]; rfl
    · rw [rstE_hi (by omega),show (qm f + ((blen n - fP f - d:Nat):Int) - (qm f - d)).toNat = blen n - fP f - d + d by omega]
  have hcn:cutN m neg n (qm f - d) (qm f + ((blen n - fP f - d:Nat):Int)) false = cutJ m neg n (blen n - fP f - d + d):=by
    have hqe:quoE n (qm f - d) (qm f + ((blen n - fP f - d:Nat):Int)) = n / 2 ^ (blen n - fP f - d + d):=by
      rcases Nat.eq_zero_or_pos (blen n - fP f - d + d) with hz | hz
      · rw [quoE_lo (by omega),hz,show (qm f - (d:Int) - (qm f + ((blen n - fP f - d:Nat):Int))).toNat = 0 by omega,Nat.pow_zero,Nat.mul_one,Nat.div_one]
      · rw [quoE_hi (by omega),show (qm f + ((blen n - fP f - d:Nat):Int) - (qm f - d)).toNat = blen n - fP f - d + d by omega]
    unfold cutN cutJ
    rw [hcr,hqe]
  unfold rndM
  rw [hlow]
  dsimp only
  rw [hcn,hcr,show (qm f + ((blen n - fP f - d:Nat):Int) - (1 - (fX f:Int) - (fP f:Int) + 1)).toNat = blen n - fP f - d by omega]
  have hmu:muE f m neg d n = (blen n - fP f - d) * 2 ^ (fP f - 1) + cutJ m neg n (blen n - fP f - d + d):=rfl
  rw [hmu]
  have hJd:fP f + d ≤ blen n ∨ blen n - fP f - d = 0:=by omega
  have hJb:(blen n:Int) - fP f - d ≤ ((blen n - fP f - d:Nat):Int):=by omega
  have hJe:fP f + d ≤ blen n → (blen n:Int) = fP f + d + ((blen n - fP f - d:Nat):Int):=by omega
  generalize cutJ m neg n (blen n - fP f - d + d) = u at *
  generalize n / 2 ^ (blen n - fP f - d + d) = Q at *
  generalize clsR (n % 2 ^ (blen n - fP f - d + d)) (blen n - fP f - d + d) = c at *
  generalize blen n - fP f - d = j at *
  by_cases ht:topE n (qm f - d) > fX f
  · have hj2:2 * fX f + 1 ≤ j + 1:=by omega
    have:=Nat.mul_le_mul_right (2 ^ (fP f - 1)) hj2
    rw [Nat.add_mul j,Nat.one_mul] at this
    have hql:=hql (by omega)
    rw [if_pos ht,if_pos (show infF f ≤ j * 2 ^ (fP f - 1) + u by omega)]
    rfl
  · rw [if_neg ht]
    have hj0:j + 1 ≤ 2 * fX f:=by
      rcases hJd with h | h
      · have:=hJe h; omega
      · omega
    rcases Nat.lt_or_ge u (2 ^ fP f) with hu | hu
    · have hbu:=blen_bound hu
      have hj2:j + 2 ≤ 2 * fX f + 1:=by omega
      have:=Nat.mul_le_mul_right (2 ^ (fP f - 1)) hj2
      rw [Nat.add_mul] at this
      rw [if_neg (show ¬ qm f + (j:Int) + (blen u:Int) - 1 > fX f by omega),if_neg (show ¬ infF f ≤ j * 2 ^ (fP f - 1) + u by omega)]
    · have hbu:=blen_ge hu
      have hbu2:=blen_bound (n:=u) (k:=fP f + 1) (by rw [Nat.pow_succ]; omega)
      by_cases hj2:j + 3 ≤ 2 * fX f + 1
      · have:=Nat.mul_le_mul_right (2 ^ (fP f - 1)) hj2
        rw [Nat.add_mul] at this
        rw [if_neg (show ¬ qm f + (j:Int) + (blen u:Int) - 1 > fX f by omega),if_neg (show ¬ infF f ≤ j * 2 ^ (fP f - 1) + u by omega)]
      · have hj3:2 * fX f + 1 ≤ j + 2:=by omega
        have:=Nat.mul_le_mul_right (2 ^ (fP f - 1)) hj3
        rw [Nat.add_mul j] at this
        rw [if_pos (show qm f + (j:Int) + (blen u:Int) - 1 > fX f by omega),if_pos (show infF f ≤ j * 2 ^ (fP f - 1) + u by omega)]
        rfl
theorem muE_mono {f m:Int} (hf:Fm f) (hm:0 ≤ m ∧ m ≤ 5) (neg:Bool) (d:Nat) {n k:Nat} (h:n ≤ k):muE f m neg d n ≤ muE f m neg d k:=by
  have h2p:=two_P hf
  have hb:=blen_mono h
  unfold muE
  rcases Nat.lt_or_ge (blen n - fP f - d) (blen k - fP f - d) with hlt | hge
  · have hc:=cutJ_bound m neg n (blen n - fP f - d + d)
    have hc':=cutJ_bound m neg k (blen k - fP f - d + d)
    have hq:=quo_top hf d n
    have hk0:k ≠ 0:=fun hk=>by
      rw [hk] at hlt
      have:blen 0 = 0:=rfl
      omega
    have hq':=quo_low hf (d:=d) hk0 (by omega)
    have:=Nat.mul_le_mul_right (2 ^ (fP f - 1)) hlt
    rw [Nat.succ_eq_add_one,Nat.add_mul] at this
    omega
  · have he:blen n - fP f - d = blen k - fP f - d:=by omega
    rw [he]
    have:=cutJ_mono hm neg (j:=blen k - fP f - d + d) h
    omega
theorem rndM_mono {f m:Int} (hf:Fm f) (hm:0 ≤ m ∧ m ≤ 5) (neg:Bool) (d:Nat) {n k:Nat} (h0:n ≠ 0) (h:n ≤ k):(rndM f m neg n (qm f - d)).1 ≤ (rndM f m neg k (qm f - d)).1:=by
  rw [rndM_muE hf m neg h0,rndM_muE hf m neg (by omega)]
  have hmm:=muE_mono hf hm neg d h
  have hp:=infF_pos hf
  unfold limM
  by_cases h1:infF f ≤ muE f m neg d n
  · rw [if_pos h1,if_pos (show infF f ≤ muE f m neg d k by omega)]
    exact Nat.le_refl _
  · rw [if_neg h1]
    by_cases h2:infF f ≤ muE f m neg d k
    · rw [if_pos h2]
      dsimp only
      split <;> omega
    · rw [if_neg h2]
      exact hmm
def pv (f:Int) (x:Nat):Nat:=mant f x * 2 ^ (xpn f x - qm f).toNat
end VL
namespace VL
open Go Vx
theorem rndM2_N {f:Int} (hf:Fm f) {R:Nat} (h0:R ≠ 0) (m:Int) (d:Nat) (more:Bool) :
    rndM2 f m R (qm f - d) more = rndM f m false (2 * R + (bif more then 1 else 0)) (qm f - ((d + 1:Nat):Int)):=by
  have e1:qm f - ((d + 1:Nat):Int) = qm f - d - 1:=by omega
  have hmk:∀ x:Nat × Nat,(mkF f false x.1,x.2) = x:=fun x=>by unfold mkF; rfl
  unfold rndM2
  cases more
  · have:=rnd_scale (f:=f) (m:=m) (neg:=false) hf h0 1 (qm f - d - 1)
    rw [show qm f - (d:Int) - 1 + ((1:Nat):Int) = qm f - d by omega,Nat.pow_one,Nat.mul_comm] at this
    rw [if_neg (by decide),← this,rnd_M hf,hmk,e1]
    rfl
  · rw [if_pos rfl,rnd_M hf,hmk,e1]
    rfl
theorem sticky_mono {f m:Int} (hf:Fm f) (hm:0 ≤ m ∧ m ≤ 5) {R R':Nat} (h0:R ≠ 0) (d:Nat) {more more':Bool} (h:R < R' ∨ (R = R' ∧ (more = true → more' = true))) :
    (rndM2 f m R (qm f - d) more).1 ≤ (rndM2 f m R' (qm f - d) more').1:=by
  have h0':R' ≠ 0:=by omega
  rw [rndM2_N hf h0,rndM2_N hf h0']
  apply rndM_mono hf hm false _ (by omega)
  rcases h with h | ⟨h,h2⟩
  · cases more <;> cases more' <;> simp only [cond_true,cond_false] <;> omega
  · cases more <;> cases more' <;> simp only [cond_true,cond_false] <;> first | omega | (exact absurd (h2 rfl) (by decide))
theorem rndM2_le {f:Int} (hf:Fm f) {R:Nat} (h0:R ≠ 0) (m:Int) (d:Nat) (more:Bool):(rndM2 f m R (qm f - d) more).1 ≤ infF f:=by
  rw [rndM2_N hf h0]
  exact rndM_le hf _ _ _ _
theorem plain_lt {f:Int} (hf:Fm f) {x:Nat} (h:x < infF f):x < 2 ^ (fW f - 1) ∧ x < 2 ^ fW f ∧ x < 2 ^ 64:=by
  have h1:=infF_lt hf
  have h2:=two_half hf
  have h3:=fW_le hf
  have:2 ^ fW f ≤ 2 ^ 64:=Nat.pow_le_pow_right (by decide) h3
  omega
theorem plain_abs {f:Int} (hf:Fm f) {x:Nat} (h:x < infF f):absF f x = x:=Nat.mod_eq_of_lt (plain_lt hf h).1
theorem plain_facts {f:Int} (hf:Fm f) {x:Nat} (h:x < infF f):chk f x = 0 ∧ sF f x = false ∧ nan f x = false ∧ isInf f x = false ∧ eF f x ≠ fullF f ∧ snan f x = false:=by
  obtain ⟨h1,h2,h3⟩:=plain_lt hf h
  have ha:=plain_abs hf h
  have hn:nan f x = false:=nan_of_le hf (by omega)
  have hE:eF f x ≠ fullF f:=by
    rw [eF_abs hf,ha]
    intro he
    have:=Nat.div_add_mod x (2 ^ (fP f - 1))
    rw [he] at this
    unfold infF at h
    omega
  refine ⟨chk_ok hf h2,?_,hn,?_,hE,snan_nan hn⟩
  · unfold sF
    rw [Nat.div_eq_of_lt h1]; rfl
  · unfold isInf
    rw [beq_eq_false_iff_ne.2 hE]; rfl
theorem plain_zro {f:Int} (hf:Fm f) {x:Nat} (h:x < infF f):zro f x = decide (x = 0):=by
  have ha:=plain_abs hf h
  unfold zro
  rw [eF_abs hf,mF_abs hf,ha,Bool.eq_iff_iff,Bool.and_eq_true,beq_iff_eq,beq_iff_eq,decide_eq_true_eq]
  have:=Nat.div_add_mod x (2 ^ (fP f - 1))
  constructor
  · rintro ⟨h1,h2⟩
    rw [h1,h2] at this
    omega
  · rintro rfl
    exact ⟨Nat.zero_div _,Nat.zero_mod _⟩
theorem plain_mant {f:Int} (hf:Fm f) {x:Nat} (h:x < infF f) (h0:x ≠ 0):mant f x ≠ 0:=by
  apply zro_mant
  rw [plain_zro hf h,decide_eq_false h0]
theorem pv_mono {f:Int} (hf:Fm f) {x y:Nat} (hx:x < infF f) (hy:y < infF f) (h:x ≤ y):pv f x ≤ pv f y:=by
  obtain ⟨a1,a2,_,_,a5,_⟩:=plain_facts hf hx
  obtain ⟨b1,b2,_,_,b5,_⟩:=plain_facts hf hy
  have hp:∀ z,z < infF f → sF f z = false → place f z = (z:Int):=fun z hz hs=>by
    have:=mk_place (f:=f) false (plain_lt hf hz).1
    rw [show mkF f false z = z from rfl] at this
    exact this
  have:=val_mono hf a1 b1 a5 b5 (by rw [hp x hx a2,hp y hy b2]; omega)
  unfold vA vI at this
  rw [a2,b2] at this
  have h2:((pv f x:Nat):Int) ≤ ((pv f y:Nat):Int):=this
  omega
def VV (f:Int) (x:Nat):Nat:=mant f x * 2 ^ (xpn f x + 2600).toNat
theorem VV_pv {f:Int} (hf:Fm f) (x:Nat):VV f x = pv f x * 2 ^ (qm f + 2600).toNat:=by
  have h1:=xpn_ge f x
  have h2:=qm_ge hf
  unfold VV pv
  rw [Nat.mul_assoc,← Nat.pow_add]
  congr 2
  omega
theorem VV_mono {f:Int} (hf:Fm f) {x y:Nat} (hx:x < infF f) (hy:y < infF f) (h:x ≤ y):VV f x ≤ VV f y:=by
  rw [VV_pv hf,VV_pv hf]
  exact Nat.mul_le_mul_right _ (pv_mono hf hx hy h)
theorem VV_ne {f:Int} {x:Nat} (h:mant f x ≠ 0):VV f x ≠ 0:=Nat.mul_ne_zero h (Nat.ne_of_gt (Nat.two_pow_pos _))
theorem VV_lt {f:Int} (hf:Fm f) (x:Nat):VV f x < 2 ^ 3760:=by
  have h1:=mant_lt hf x
  have h2:=xpn_tight hf x
  have h3:VV f x < 2 ^ 53 * 2 ^ (xpn f x + 2600).toNat:=Nat.mul_lt_mul_of_pos_right h1 (Nat.two_pow_pos _)
  rw [← Nat.pow_add] at h3
  exact Nat.lt_of_lt_of_le h3 (Nat.pow_le_pow_right (by decide) (by omega))
theorem rootX_V {f m:Int} (hf:Fm f) {x:Nat} (h0:mant f x ≠ 0):rootX f m (mant f x) (xpn f x) = rootB f m (VV f x) (-1300):=by
  have hPl:=fP_le hf
  have hx:=xpn_tight hf x
  have go:∀ (n:Nat) (e:Int),n ≠ 0 → -1200 ≤ e ∧ e ≤ 1200 → rootB f m (n * 2 ^ 200) (e - 100) = rootB f m (n * 2 ^ (2 * e + 2600).toNat) (-1300):=fun n e hn he=>by
    obtain ⟨k,hk⟩:=Int.eq_ofNat_of_zero_le (show 0 ≤ e + 1200 by omega)
    have hX:2 ^ (2 * 100) ≤ n * 2 ^ 200:=by
      have:=Nat.mul_le_mul_right (2 ^ 200) (show 1 ≤ n by omega)
      rw [Nat.one_mul] at this
      exact this
    have hb:=isq_blen hX
    have hX0:n * 2 ^ 200 ≠ 0:=Nat.mul_ne_zero hn (by decide)
    have:=rootB_fine (f:=f) (m:=m) (k:=k) (E:=e - 100) hf hX0 (by omega)
    rw [← this,show e - 100 - (k:Int) = -1300 by omega]
    congr 1
    rw [Nat.mul_assoc,← Nat.pow_add,← Nat.pow_add]
    congr 2
    omega
  unfold rootX VV
  by_cases ho:xpn f x % 2 = 1
  · rw [if_pos ho,go _ _ (by omega) (by omega),Nat.mul_assoc,← Nat.pow_succ']
    congr 3
    omega
  · rw [if_neg ho,go _ _ h0 (by omega)]
    congr 3
    omega
theorem rec_exact2 {n:Nat} (A s:Nat) (hn:0 < n):(isq (A / n) * isq (A / n) * n = A) ↔ (isq (A * (2 ^ s * 2 ^ s) / n) * isq (A * (2 ^ s * 2 ^ s) / n) * n = A * (2 ^ s * 2 ^ s) ∧ isq (A * (2 ^ s * 2 ^ s) / n) % 2 ^ s = 0):=by
  have hq:=isq_quot A n (2 ^ s) hn (Nat.two_pow_pos _)
  have hdm:=Nat.div_add_mod (isq (A * (2 ^ s * 2 ^ s) / n)) (2 ^ s)
  have hpp:0 < 2 ^ s * 2 ^ s:=Nat.mul_pos (Nat.two_pow_pos _) (Nat.two_pow_pos _)
  constructor
  · intro h
    have h2:isq (A * (2 ^ s * 2 ^ s) / n) = isq (A / n) * 2 ^ s:=by
      have e:A * (2 ^ s * 2 ^ s) = (isq (A / n) * 2 ^ s) * (isq (A / n) * 2 ^ s) * n:=by
        rw [mul_sq,Nat.mul_right_comm,h]
      rw [e,Nat.mul_div_cancel _ hn,isq_sq]
    rw [h2]
    refine ⟨?_,Nat.mul_mod_left _ _⟩
    rw [mul_sq,Nat.mul_right_comm,h]
  · rintro ⟨h1,h2⟩
    rw [h2,Nat.add_zero,hq] at hdm
    rw [← hdm,Nat.mul_comm (2 ^ s) (isq (A / n)),mul_sq,Nat.mul_right_comm] at h1
    exact Nat.eq_of_mul_eq_mul_right hpp h1
theorem rec_fine {f m:Int} (hf:Fm f) {n:Nat} (A s:Nat) (hn:0 < n) (hb:fP f + 2 ≤ blen (isq (A / n))) (E:Int) :
    rndM2 f m (isq (A / n)) E (!decide (isq (A / n) * isq (A / n) * n = A)) = rndM2 f m (isq (A * (2 ^ s * 2 ^ s) / n)) (E - s) (!decide (isq (A * (2 ^ s * 2 ^ s) / n) * isq (A * (2 ^ s * 2 ^ s) / n) * n = A * (2 ^ s * 2 ^ s))):=by
  have hq:=isq_quot A n (2 ^ s) hn (Nat.two_pow_pos _)
  have hx:=rec_exact2 A s hn
  have hc:=rndM2_cut (f:=f) (m:=m) (R:=isq (A * (2 ^ s * 2 ^ s) / n)) (k:=s) (E:=E - s) (more:=!decide (isq (A * (2 ^ s * 2 ^ s) / n) * isq (A * (2 ^ s * 2 ^ s) / n) * n = A * (2 ^ s * 2 ^ s))) hf (by rw [hq]; exact hb)
  rw [← hc,hq,← rndM2_mark hf (fun _=>hb),decide_eq_decide.2 hx,not_both,show E - (s:Int) + (s:Int) = E by omega]
noncomputable def recV (f m:Int) (V:Nat):Nat × Nat:=rndM2 f m (isq (2 ^ 12000 / V)) (-4700) (!decide (isq (2 ^ 12000 / V) * isq (2 ^ 12000 / V) * V = 2 ^ 12000))
theorem blen_rec400 {n:Nat} (hn:0 < n) (h:n < 2 ^ 54):174 ≤ blen (isq (2 ^ 400 / n)):=by
  apply isq_blen
  rw [Nat.le_div_iff_mul_le hn]
  have:2 ^ (2 * 173) * n ≤ 2 ^ (2 * 173) * 2 ^ 54:=Nat.mul_le_mul_left _ (by omega)
  rw [← Nat.pow_add] at this
  exact this
theorem recX_V {f m:Int} (hf:Fm f) {x:Nat} (h0:mant f x ≠ 0):recX f m (mant f x) (xpn f x) = recV f m (VV f x):=by
  have hPl:=fP_le hf
  have hx:=xpn_tight hf x
  have hml:=mant_lt hf x
  have go:∀ (n:Nat) (e:Int),n ≠ 0 → n < 2 ^ 54 → -1200 ≤ e ∧ e ≤ 1200 → recB f m n e = recV f m (n * 2 ^ (2 * e + 2600).toNat):=fun n e hn hn2 he=>by
    obtain ⟨t,ht⟩:=Int.eq_ofNat_of_zero_le (show 0 ≤ e + 1300 by omega)
    obtain ⟨s,hs⟩:∃ s,s + t = 5800:=⟨5800 - t,by omega⟩
    have hb:=blen_rec400 (n:=n) (by omega) hn2
    have:=rec_fine (f:=f) (m:=m) hf (n:=n) (2 ^ 400) s (by omega) (by omega) (-e - 200)
    unfold recB recV
    rw [this,show (2 * e + 2600).toNat = 2 * t by omega,show -e - 200 - (s:Int) = -4700 by omega]
    have e1:2 ^ 12000 = 2 ^ 400 * (2 ^ s * 2 ^ s) * 2 ^ (2 * t):=by
      rw [← Nat.pow_add,← Nat.pow_add,← Nat.pow_add]
      congr 1
      omega
    have e2:2 ^ 12000 / (n * 2 ^ (2 * t)) = 2 ^ 400 * (2 ^ s * 2 ^ s) / n:=by
      rw [Nat.mul_comm n,← Nat.div_div_eq_div_mul,e1,Nat.mul_div_cancel _ (Nat.two_pow_pos _)]
    have e3:∀ X:Nat,decide (X * X * n = 2 ^ 400 * (2 ^ s * 2 ^ s)) = decide (X * X * (n * 2 ^ (2 * t)) = 2 ^ 12000):=fun X=>by
      rw [decide_eq_decide,e1,← Nat.mul_assoc (X * X) n]
      exact ⟨fun h=>by rw [h],fun h=>Nat.eq_of_mul_eq_mul_right (Nat.two_pow_pos _) h⟩
    rw [e2,e3]
  unfold recX VV
  by_cases ho:xpn f x % 2 = 1
  · rw [if_pos ho,go _ _ (by omega) (by omega) (by omega),Nat.mul_comm 2,Nat.mul_assoc,← Nat.pow_succ']
    congr 3
    omega
  · rw [if_neg ho,go _ _ h0 (by omega) (by omega)]
    congr 3
    omega
end VL
namespace VL
open Go Vx
theorem T112_all {f:Int} {a:Nat} (ha:a < 2 ^ 64):∃ v:Int,T112 (f,(a:Int),()) = some (v,chk f a,()) ∧ (chk f a = 0 → v = (absF f a:Int)):=by
  by_cases h:chk f a = 0
  · exact ⟨_,by rw [T112_ok ha h,h],fun _=>rfl⟩
  · refine ⟨0,?_,fun h2=>absurd h2 h⟩
    show t112 S66.pre S66.F S115.pre S115.F f (a:Int) = _
    unfold t112
    have p0:=T66_eq f a ha
    simp only [pre66 p0,fun66 p0,cond_true,bne_iff_ne.2 h]
theorem T40_all {f:Int} {a:Nat} (ha:a < 2 ^ 64):∃ (v:DenS O40) ,T40 (f,(a:Int),()) = some v ∧ (v.2.1 = 0 ↔ chk f a = 0 ∧ eF f a ≠ fullF f):=by
  by_cases h:chk f a = 0
  · by_cases h2:eF f a = fullF f
    · exact ⟨_,T40_full h h2,⟨fun h3=>absurd (show (40:Int) = 0 from h3) (by decide),fun h3=>absurd h2 h3.2⟩⟩
    · exact ⟨_,T40_fin h h2,⟨fun _=>⟨h,h2⟩,fun _=>rfl⟩⟩
  · exact ⟨_,T40_bad ha h,⟨fun h3=>absurd h3 h,fun h3=>absurd h3.1 h⟩⟩
theorem fin_abs {f:Int} (hf:Fm f) {a:Nat} (h:eF f a ≠ fullF f):absF f a < infF f:=by
  rw [eF_abs hf] at h
  have hlt:=abs_lt' (f:=f) a
  have h2:absF f a / 2 ^ (fP f - 1) < 2 ^ (fW f - fP f):=by
    rw [Nat.div_lt_iff_lt_mul (Nat.two_pow_pos _),← Nat.pow_add]
    have:=fP_lt hf
    have:=fP_ge hf
    rw [show fW f - fP f + (fP f - 1) = fW f - 1 by omega]
    exact hlt
  have h3:absF f a / 2 ^ (fP f - 1) < fullF f:=by unfold fullF at *; omega
  rw [Nat.div_lt_iff_lt_mul (Nat.two_pow_pos _),Nat.mul_comm] at h3
  exact h3
theorem chkL_plain {f:Int} (hf:Fm f) {x:Nat} (h:x < infF f) (m:Int):chkL f m [x] = if m < 0 ∨ m > 5 then 3 else 0:=by
  unfold chkL okL
  rw [if_neg (show ¬ ¬ Fm f from fun h=>h hf),List.all_cons,List.all_nil,(plain_facts hf h).1]
  rfl
theorem sqrt_plain {f m:Int} (hf:Fm f) (hm:0 ≤ m ∧ m ≤ 5) {x:Nat} (h:x < infF f) :
    sqrtF f m x = if x = 0 then (0,0,0,()) else (((rootB f m (VV f x) (-1300)).1:Int),((rootB f m (VV f x) (-1300)).2:Int),0,()):=by
  obtain ⟨a1,a2,a3,a4,a5,a6⟩:=plain_facts hf h
  have hz:=plain_zro hf h
  have hc:=chkL_plain hf h m
  rw [if_neg (by omega)] at hc
  unfold sqrtF
  rw [hc,if_neg (by decide),a3,a2,a4,hz]
  by_cases h0:x = 0
  · rw [decide_eq_true h0,if_pos h0,h0]; rfl
  · rw [decide_eq_false h0,if_neg h0,rootX_V hf (plain_mant hf h h0)]; rfl
theorem recip_plain {f m:Int} (hf:Fm f) (hm:0 ≤ m ∧ m ≤ 5) {x:Nat} (h:x < infF f) :
    recipF f m x = if x = 0 then ((infF f:Int),2,0,()) else (((recV f m (VV f x)).1:Int),((recV f m (VV f x)).2:Int),0,()):=by
  obtain ⟨a1,a2,a3,a4,a5,a6⟩:=plain_facts hf h
  have hz:=plain_zro hf h
  have hc:=chkL_plain hf h m
  rw [if_neg (by omega)] at hc
  unfold recipF
  rw [hc,if_neg (by decide),a3,a2,a4,hz]
  by_cases h0:x = 0
  · rw [decide_eq_true h0,if_pos h0,infB_eq]; rfl
  · rw [decide_eq_false h0,if_neg h0,recX_V hf (plain_mant hf h h0)]; rfl
theorem isq_mono {a b:Nat} (h:a ≤ b):isq a ≤ isq b:=isq_ge (Nat.le_trans (isq_le a) h)
theorem root_up {f m:Int} (hf:Fm f) (hm:0 ≤ m ∧ m ≤ 5) {X Y:Nat} (h0:X ≠ 0) (h:X ≤ Y) (d:Nat):(rootB f m X (qm f - d)).1 ≤ (rootB f m Y (qm f - d)).1:=by
  rw [← rootB_M2,← rootB_M2]
  have hi:=isq_mono h
  have hp:=isq_pos h0
  apply sticky_mono hf hm (by omega)
  rcases Nat.lt_or_ge (isq X) (isq Y) with h1 | h1
  · exact .inl h1
  · have he:isq X = isq Y:=by omega
    refine .inr ⟨he,fun h2=>?_⟩
    rw [Bool.not_eq_true',decide_eq_false_iff_not] at h2 ⊢
    intro h3
    rw [← he] at h3
    have:=isq_le X
    omega
theorem rec_down {f m:Int} (hf:Fm f) (hm:0 ≤ m ∧ m ≤ 5) {V W:Nat} (h0:V ≠ 0) (hW:W ≤ 2 ^ 12000) (h:V ≤ W):(recV f m W).1 ≤ (recV f m V).1:=by
  have hq:=qm_ge hf
  have hq2:=qm_neg hf
  obtain ⟨d,hd⟩:=Int.eq_ofNat_of_zero_le (show 0 ≤ qm f + 4700 by omega)
  have hdiv:2 ^ 12000 / W ≤ 2 ^ 12000 / V:=Nat.div_le_div_left h (by omega)
  have hd1:1 ≤ 2 ^ 12000 / W:=by
    rw [Nat.le_div_iff_mul_le (by omega),Nat.one_mul]
    exact hW
  have hi:=isq_mono hdiv
  have hp:=isq_pos (n:=2 ^ 12000 / W) (by omega)
  unfold recV
  rw [show (-4700:Int) = qm f - d by omega]
  apply sticky_mono hf hm (by omega)
  rcases Nat.lt_or_ge (isq (2 ^ 12000 / W)) (isq (2 ^ 12000 / V)) with h1 | h1
  · exact .inl h1
  · have he:isq (2 ^ 12000 / W) = isq (2 ^ 12000 / V):=by omega
    refine .inr ⟨he,fun h2=>?_⟩
    rw [Bool.not_eq_true',decide_eq_false_iff_not] at h2 ⊢
    intro h3
    apply h2
    have hle:isq (2 ^ 12000 / W) * isq (2 ^ 12000 / W) * W ≤ 2 ^ 12000:=Nat.le_trans (Nat.mul_le_mul_right W (isq_le _)) (Nat.div_mul_le_self _ _)
    rw [he] at hle ⊢
    generalize isq (2 ^ 12000 / V) * isq (2 ^ 12000 / V) = z at *
    have:=Nat.mul_le_mul_left z h
    omega
theorem rec_le {f m:Int} (hf:Fm f) {V:Nat} (h0:V ≠ 0) (hV:V ≤ 2 ^ 12000):(recV f m V).1 ≤ infF f:=by
  have hq:=qm_ge hf
  obtain ⟨d,hd⟩:=Int.eq_ofNat_of_zero_le (show 0 ≤ qm f + 4700 by omega)
  have hd1:1 ≤ 2 ^ 12000 / V:=by
    rw [Nat.le_div_iff_mul_le (by omega),Nat.one_mul]
    exact hV
  have hp:=isq_pos (n:=2 ^ 12000 / V) (by omega)
  unfold recV
  rw [show (-4700:Int) = qm f - d by omega]
  exact rndM2_le hf (by omega) m d _
theorem V_small {f:Int} (hf:Fm f) (x:Nat):VV f x ≤ 2 ^ 12000:=Nat.le_of_lt (Nat.lt_of_lt_of_le (VV_lt hf x) (Nat.pow_le_pow_right (by decide) (by decide)))
theorem rises {f m:Int} (hf:Fm f) {x y:Nat} (hy:y < infF f) (h:x ≤ y) :
    ∃ p q r s:Int,∃ g1 g2 g3 g4:Int,∃ e:Int,sqrtF f m x = (p,g1,e,()) ∧ sqrtF f m y = (q,g2,e,()) ∧ recipF f m x = (r,g3,e,()) ∧ recipF f m y = (s,g4,e,()) ∧ (e = 0 → p ≤ q ∧ s ≤ r):=by
  have hx:x < infF f:=by omega
  by_cases hm:m < 0 ∨ m > 5
  · have c1:=chkL_plain hf hx m
    have c2:=chkL_plain hf hy m
    rw [if_pos hm] at c1 c2
    refine ⟨0,0,0,0,0,0,0,0,3,?_,?_,?_,?_,fun h=>absurd h (by decide)⟩
    · unfold sqrtF; rw [c1,if_pos (by decide)]
    · unfold sqrtF; rw [c2,if_pos (by decide)]
    · unfold recipF; rw [c1,if_pos (by decide)]
    · unfold recipF; rw [c2,if_pos (by decide)]
  · have hm:0 ≤ m ∧ m ≤ 5:=by omega
    have hq:=qm_ge hf
    obtain ⟨d,hd⟩:=Int.eq_ofNat_of_zero_le (show 0 ≤ qm f + 1300 by omega)
    have hV:=VV_mono hf hx hy h
    rw [sqrt_plain hf hm hx,sqrt_plain hf hm hy,recip_plain hf hm hx,recip_plain hf hm hy]
    by_cases h0:x = 0
    · rw [if_pos h0,if_pos h0]
      by_cases h1:y = 0
      · rw [if_pos h1,if_pos h1]
        exact ⟨_,_,_,_,_,_,_,_,_,rfl,rfl,rfl,rfl,fun _=>⟨Int.le_refl _,Int.le_refl _⟩⟩
      · rw [if_neg h1,if_neg h1]
        have:=rec_le (m:=m) hf (VV_ne (plain_mant hf hy h1)) (V_small hf y)
        exact ⟨_,_,_,_,_,_,_,_,_,rfl,rfl,rfl,rfl,fun _=>⟨by omega,by omega⟩⟩
    · have h1:y ≠ 0:=by omega
      have u1:=root_up hf hm (VV_ne (plain_mant hf hx h0)) hV d
      have u2:=rec_down hf hm (VV_ne (plain_mant hf hx h0)) (V_small hf y) hV
      rw [show qm f - (d:Int) = -1300 by omega] at u1
      rw [if_neg h0,if_neg h0,if_neg h1,if_neg h1]
      exact ⟨_,_,_,_,_,_,_,_,_,rfl,rfl,rfl,rfl,fun _=>⟨by omega,by omega⟩⟩
theorem T356_true (f m:Int) {a b:Nat} (ha:a < 2 ^ 64) (hb:b < 2 ^ 64):T356 ((f,m,(a:Int),(b:Int),()),()) = some (true,()):=by
  show t356 S337.pre S337.F S112.pre S112.F S40.pre S40.F S318.pre S318.F S346.pre S346.F (f,m,(a:Int),(b:Int),()) = _
  unfold t356
  have p0:=T337_true
  obtain ⟨v1,p1,w1⟩:=T112_all (f:=f) ha
  obtain ⟨v2,p2,w2⟩:=T112_all (f:=f) hb
  obtain ⟨v3,p3,w3⟩:=T40_all (f:=f) ha
  obtain ⟨v4,p4,w4⟩:=T40_all (f:=f) hb
  dsimp only
  simp only [pre337 p0,fun337 p0,cond_true,Bool.not_true,cond_false,pre112 p1,fun112 p1,pre112 p2,fun112 p2,pre40 p3,fun40 p3,pre40 p4,fun40 p4]
  cases hbad:((((chk f a != 0) || (chk f b != 0)) || (v3.2.1 != 0)) || (v4.2.1 != 0))
  case true=>rfl
  rw [Bool.or_eq_false_iff,Bool.or_eq_false_iff,Bool.or_eq_false_iff,bne_eq_false_iff_eq,bne_eq_false_iff_eq,bne_eq_false_iff_eq,bne_eq_false_iff_eq] at hbad
  obtain ⟨⟨⟨b1,b2⟩,b3⟩,b4⟩:=hbad
  obtain ⟨hf,_⟩:=chk_zero b1
  have f1:=fin_abs hf (w3.1 b3).2
  have f2:=fin_abs hf (w4.1 b4).2
  rw [w1 b1,w2 b2]
  simp only [cond_false]
  have s1:=T318_eq f m (a:=absF f a) (by have:=abs_lt f hf a; omega)
  have s2:=T318_eq f m (a:=absF f b) (by have:=abs_lt f hf b; omega)
  have r1:=T346_eq f m (a:=absF f a) (by have:=abs_lt f hf a; omega)
  have r2:=T346_eq f m (a:=absF f b) (by have:=abs_lt f hf b; omega)
  rcases Nat.lt_or_ge (absF f b) (absF f a) with hlt | hge
  · have e0:decide ((absF f a:Int) > (absF f b:Int)) = true:=decide_eq_true (by omega)
    obtain ⟨p,q,r,s,g1,g2,g3,g4,e,k1,k2,k3,k4,k5⟩:=rises (m:=m) hf f1 (Nat.le_of_lt hlt)
    rw [k1] at s2
    rw [k2] at s1
    rw [k3] at r2
    rw [k4] at r1
    rw [e0]
    simp only [pre318 s1,fun318 s1,pre318 s2,fun318 s2,pre346 r1,fun346 r1,pre346 r2,fun346 r2,cond_true]
    by_cases he:e = 0
    · obtain ⟨k6,k7⟩:=k5 he
      rw [he,decide_eq_true k6,decide_eq_true (show r ≥ s from k7)]; rfl
    · rw [bne_iff_ne.2 he,beq_self_eq_true]; rfl
  · have e0:decide ((absF f a:Int) > (absF f b:Int)) = false:=decide_eq_false (by omega)
    obtain ⟨p,q,r,s,g1,g2,g3,g4,e,k1,k2,k3,k4,k5⟩:=rises (m:=m) hf f2 hge
    rw [k1] at s1
    rw [k2] at s2
    rw [k3] at r1
    rw [k4] at r2
    rw [e0]
    simp only [pre318 s1,fun318 s1,pre318 s2,fun318 s2,pre346 r1,fun346 r1,pre346 r2,fun346 r2,cond_true,cond_false]
    by_cases he:e = 0
    · obtain ⟨k6,k7⟩:=k5 he
      rw [he,decide_eq_true k6,decide_eq_true (show r ≥ s from k7)]; rfl
    · rw [bne_iff_ne.2 he,beq_self_eq_true]; rfl
end VL
namespace Vx
open Go Go.RowKit Go.ChangeShapes Go.WideShapes
def wfD:(τ:Shape) → Den τ → Prop
  | .int k,n=>k.min ≤ n ∧ n ≤ k.max
  | .flt _,_=>True
  | .slice e,xs=>xs.length < lim ∧ ∀ x ∈ xs,wfD e x
  | .pair a b,x=>wfD a x.1 ∧ wfD b x.2
  | .bool,_=>True
  | .str,_=>True
  | .fn,_=>True
  | .unit,_=>True
theorem DRep.wfD {w:World} {S:Nat → Prop}:∀ {τ:Shape} {x:Den τ} {cs:List Value},DRep w S τ x cs → wfD τ x
  | .int _,_,_,h=>h.2
  | .flt _,_,_,_=>trivial
  | .bool,_,_,_=>trivial
  | .str,_,_,_=>trivial
  | .fn,_,_,_=>trivial
  | .unit,_,_,_=>trivial
  | .slice _,xs,_,⟨A,c,_,h1,h2,h3⟩=>by
    refine ⟨Nat.lt_of_le_of_lt h1 h2,fun x hx=>?_⟩
    obtain ⟨r,o,vs,T,fz,_,_,_,h⟩:=h3 (List.ne_nil_of_mem hx)
    obtain ⟨i,hi⟩:=List.getElem?_of_mem hx
    obtain ⟨ds,hd,_⟩:=h i x hi
    exact hd.wfD
  | .pair _ _,_,_,⟨c1,c2,_,h1,h2⟩=>⟨h1.wfD,h2.wfD⟩
def wfS:(sg:Sig) → DenS sg → Prop
  | [],_=>True
  | (_,τ) :: r,x=>wfD τ x.1 ∧ wfS r x.2
def undat {H:Type}:(τ:Shape) → (DataW H → Option (Den τ)) × (List (DataW H) → Option (Den τ))
  | .int k=>(fun d=>match d with | .lit (.int k' n)=>if k' = k then some n else none | _=>none,fun _=>none)
  | .bool=>(fun d=>match d with | .lit (.bool b)=>some b | _=>none,fun _=>none)
  | .unit=>(fun d=>match d with | .agg []=>some () | _=>none,fun l=>match l with | []=>some () | _=>none)
  | .pair a b =>
    let f:=fun l=>match l with
      | d :: r=>(match (undat a).1 d,(undat b).2 r with | some x,some y=>some (x,y) | _,_=>none)
      | []=>none
    (fun d=>match d with | .agg l=>f l | _=>none,f)
  | .flt _=>(fun _=>none,fun _=>none)
  | .str=>(fun _=>none,fun _=>none)
  | .fn=>(fun _=>none,fun _=>none)
  | .slice _=>(fun _=>none,fun _=>none)
def fitF (P:Program) (g:TypeId → Shape → Bool):List Field → Nat → Shape → Bool
  | [],_,.unit=>true
  | f :: fs,o,.pair a b=>(f.offset == o) && (P.cellsOf f.type == a.width) && g f.type a && fitF P g fs (o + a.width) b
  | _,_,_=>false
def fitB (P:Program):Nat → TypeId → Shape → Bool
  | 0,_,_=>false
  | n + 1,t,τ=>match P.underlying t with
    | some (.int k)=>(match τ with | .int k'=>decide (k = k') | _=>false)
    | some .bool=>(match τ with | .bool=>true | _=>false)
    | some (.slice e)=>(match τ with | .slice σ=>(P.cellsOf e == σ.width) && decide (0 < σ.width) && fitB P n e σ | _=>false)
    | some (.struct fs)=>(P.cellsOf t == τ.width) && fitF P (fitB P n) fs.toList 0 τ
    | _=>false
theorem choose_list {A:Type} {Q:Nat → A → Prop}:∀ (n:Nat),(∀ i,i < n → ∃ x,Q i x) → ∃ xs:List A,xs.length = n ∧ ∀ i x,xs[i]? = some x → Q i x
  | 0,_=>⟨[],rfl,fun i x h=>by simp at h⟩
  | n + 1,h=>by
    obtain ⟨xs,h1,h2⟩:=choose_list n fun i hi=>h i (by omega)
    obtain ⟨x,hx⟩:=h n (by omega)
    refine ⟨xs ++ [x],by simp [h1],fun i y hy=>?_⟩
    rcases Nat.lt_or_ge i n with hi | hi
    · rw [List.getElem?_append_left (by omega)] at hy
      exact h2 i y hy
    · rw [List.getElem?_append_right (by omega)] at hy
      have:i = n:=by
        have:=(List.getElem?_eq_some_iff.1 hy).1
        simp at this; omega
      subst this
      simp [h1] at hy
      exact hy ▸ hx
theorem wf_int {k:IntKind} {n:Int} (h:(Lit.int k n).wf = true):k.min ≤ n ∧ n ≤ k.max:=by
  simpa [Lit.wf] using h
section
variable {H:Type} {enc:TypeId × Value → H} {P:Program} {W:World} {spare:Nat → Bool} {held:Bool}
theorem fitF_ok {n:Nat} {m:Nat} {cs:List Value} (ih:∀ (t:TypeId) (τ:Shape) (cs:List Value) (d:DataW H) (p:List MemPlace),fitB P n t τ = true → DataW.trod enc P W 0 spare held m t cs = some (d,p) → ∃ x:Den τ,DRep W (fun q=>q < W.heap.size) τ x cs ∧ ∀ y,(undat τ).1 d = some y → x = y) :
    ∀ (l:List Field) (o:Nat) (τ:Shape) (xs:List (DataW H × List MemPlace)),fitF P (fitB P n) l o τ = true → xs.length = l.length → cs.length = o + τ.width →
      (∀ (i:Nat) (f:Field),l[i]? = some f → DataW.trod enc P W 0 spare held m f.type ((cs.drop f.offset).take (P.cellsOf f.type)) = xs[i]?) →
      ∃ x:Den τ,DRep W (fun q=>q < W.heap.size) τ x (cs.drop o) ∧ ∀ y,(undat τ).2 (xs.map (·.1)) = some y → x = y
  | [],o,τ,xs,hf,hx,hl,_=>by
    cases τ <;> simp [fitF] at hf
    refine ⟨(),?_,fun _ _=>rfl⟩
    show cs.drop o = []
    apply List.drop_eq_nil_of_le
    simp [Shape.width] at hl
    omega
  | f :: fs,o,τ,xs,hf,hx,hl,h=>by
    cases τ with
    | pair a b =>
      simp only [fitF,Bool.and_eq_true,beq_iff_eq] at hf
      obtain ⟨⟨⟨ho,hc⟩,hg⟩,hr⟩:=hf
      cases xs with
      | nil=>simp at hx
      | cons x0 xs =>
        have h0:=h 0 f rfl
        rw [ho,hc] at h0
        simp only [List.getElem?_cons_zero] at h0
        obtain ⟨xa,ha,hua⟩:=ih f.type a _ x0.1 x0.2 hg h0
        simp only [Shape.width] at hl
        obtain ⟨xb,hb,hub⟩:=fitF_ok ih fs (o + a.width) b xs hr (by simpa using hx) (by rw [hl]; omega) fun i g hi=>by
          have:=h (i + 1) g (by simpa using hi)
          simpa using this
        refine ⟨(xa,xb),⟨(cs.drop o).take a.width,cs.drop (o + a.width),?_,ha,hb⟩,fun y hy=>?_⟩
        · rw [← List.drop_drop,List.take_append_drop]
        · simp only [undat,List.map_cons] at hy
          split at hy
          · rename_i e1 e2
            have:=hua _ e1; have:=hub _ e2
            subst_vars
            exact Option.some.inj hy
          · cases hy
    | _=>simp [fitF] at hf
theorem fit_ok:∀ (n:Nat) (m:Nat) (t:TypeId) (τ:Shape) (cs:List Value) (d:DataW H) (p:List MemPlace),fitB P n t τ = true → DataW.trod enc P W 0 spare held m t cs = some (d,p) →
    ∃ x:Den τ,DRep W (fun q=>q < W.heap.size) τ x cs ∧ ∀ y,(undat τ).1 d = some y → x = y
  | 0,_,_,_,_,_,_,h,_=>by simp [fitB] at h
  | n + 1,m,t,τ,cs,d,p,h,ht=>by
    unfold fitB at h
    split at h
    · rename_i k hk
      cases τ with
      | int k' =>
        simp only [decide_eq_true_eq] at h
        subst h
        obtain ⟨v,hv,hx,hw⟩:=DataW.trod_int hk ht
        simp only [Prod.mk.injEq] at hx
        refine ⟨v,⟨hv,wf_int hw⟩,fun y hy=>?_⟩
        rw [hx.1] at hy
        simp only [undat,if_true] at hy
        exact Option.some.inj hy
      | _=>cases h
    · rename_i hk
      cases τ with
      | bool =>
        obtain ⟨v,hv,hx⟩:=DataW.trod_bool hk ht
        simp only [Prod.mk.injEq] at hx
        refine ⟨v,hv,fun y hy=>?_⟩
        rw [hx.1] at hy
        simp only [undat] at hy
        exact Option.some.inj hy
      | _=>cases h
    · rename_i e hk
      cases τ with
      | slice σ =>
        simp only [Bool.and_eq_true,beq_iff_eq,decide_eq_true_eq] at h
        obtain ⟨⟨hc,hpos⟩,hf⟩:=h
        rcases DataW.trod_slice hk ht with ⟨hcs,hx⟩ | ⟨a,len,cap,elems,rest,m',rfl,hcs,hx,hb,hlc,hcap,hlen,hel,_⟩
        · exact ⟨[],⟨none,0,hcs,Nat.le_refl _,by decide,fun h=>absurd rfl h⟩,fun y hy=>by simp [undat] at hy⟩
        · have each:∀ i,i < len → ∃ x:Den σ,∃ ds,W.cells? 0 (a.add (i * P.cellsOf e)) (P.cellsOf e) = some ds ∧ DRep W (fun q=>q < W.heap.size) σ x ds:=fun i hi=>by
            have:=hel i hi
            rw [List.getElem?_eq_getElem (by omega),Option.bind_eq_some_iff] at this
            obtain ⟨ds,h1,h2⟩:=this
            obtain ⟨x,hx,_⟩:=fit_ok n m' e σ ds (elems[i]'(by omega)).1 (elems[i]'(by omega)).2 hf h2
            exact ⟨x,ds,h1,hx⟩
          obtain ⟨xs,hxl,hxs⟩:=choose_list len each
          refine ⟨xs,⟨some a,cap,by rw [hxl]; exact hcs,by omega,by unfold lim; unfold maxLen at hcap; omega,fun hne=>?_⟩,fun y hy=>by simp [undat] at hy⟩
          have h0:0 < xs.length:=List.length_pos_iff.2 hne
          obtain ⟨ds0,hd0,_⟩:=hxs 0 xs[0] (List.getElem?_eq_getElem h0)
          obtain ⟨_,hl0,hc0⟩:=World.cells?_some hd0
          have hz:a.add (0 * P.cellsOf e) = a:=by simp [Addr.add]
          have hz':a.add 0 = a:=by simp [Addr.add]
          rw [hz] at hc0
          have hc00:=hc0 0 (by omega)
          rw [hz',List.getElem?_eq_getElem (by omega)] at hc00
          unfold World.cell? at hc00
          split at hc00
          · rename_i c T fz hheap
            split at hc00
            · cases hc00
            · rename_i hspot
              have hs:a.spot = none:=by simpa using hspot
              have hadd:∀ q,a.add q = ⟨a.block,a.off + q,none⟩:=fun q=>by
                unfold Addr.add
                split
                · subst_vars; cases a; simp at hs; simp [hs]
                · rfl
              have ha:a = ⟨a.block,a.off,none⟩:=by cases a; simp at hs; simp [hs]
              refine ⟨a.block,a.off,c,T,fz,by rw [← ha],?_,hheap,fun i x hi=>?_⟩
              · exact (Array.getElem?_eq_some_iff.1 hheap).1
              · obtain ⟨ds,hd,hr⟩:=hxs i x hi
                refine ⟨ds,hr,fun j v hj=>?_⟩
                obtain ⟨_,hl,hcj⟩:=World.cells?_some hd
                have hjl:j < P.cellsOf e:=by rw [← hl]; exact (List.getElem?_eq_some_iff.1 hj).1
                have:=hcj j hjl
                rw [hadd,hj] at this
                have hadd2:(⟨a.block,a.off + i * P.cellsOf e,none⟩:Addr).add j = ⟨a.block,a.off + i * P.cellsOf e + j,none⟩:=by
                  unfold Addr.add
                  split
                  · subst_vars; rfl
                  · rfl
                rw [hadd2] at this
                unfold World.cell? at this
                simp only [hheap] at this
                rw [hc] at this
                exact this
          · cases hc00
      | _=>cases h
    · rename_i fs hk
      simp only [Bool.and_eq_true,beq_iff_eq] at h
      obtain ⟨hc,hf⟩:=h
      obtain ⟨xs,m',rfl,hx,hl,hxl,hel⟩:=DataW.trod_struct hk ht
      simp only [Prod.mk.injEq] at hx
      obtain ⟨x,h1,h2⟩:=fitF_ok (fun t τ cs d p=>fit_ok n m' t τ cs d p) fs.toList 0 τ xs hf (by simpa using hxl) (by rw [hl,hc]; omega) fun i f hi=>hel i f (by simpa using hi)
      refine ⟨x,by simpa using h1,fun y hy=>h2 y ?_⟩
      rw [hx.1] at hy
      cases τ with
      | pair a b=>exact hy
      | unit =>
        simp only [undat] at hy ⊢
        split at hy
        · rename_i e; simp only [DataW.agg.injEq] at e; rw [e]
        · cases hy
      | _=>simp [undat] at hy
    · cases h
end
end Vx
namespace Vx
open Go Go.RowKit Go.ChangeShapes Go.WideShapes
def isStruct (P:Program) (t:TypeId):Bool:=match P.underlying t with
  | some (.struct _)=>true
  | _=>false
def fitS (P:Program) (n:Nat):List TypeId → Sig → Bool
  | [],[]=>true
  | t :: ts,(a,τ) :: r=>fitB P n t τ && (a == isStruct P t) && fitS P n ts r
  | _,_=>false
section
variable {H:Type} {enc:TypeId × Value → H} {P:Program} {W:World}
theorem cells_one {n:Nat} {t:TypeId} {τ:Shape} {r:Reach} {b0:Nat} {v:Value} (hf:fitB P n t τ = true) (hs:isStruct P t = false) (hv:Value.okWide P W r b0 t v):v.cells.toList = [v]:=by
  cases n with
  | zero=>simp [fitB] at hf
  | succ n =>
    unfold fitB at hf
    split at hf
    · rename_i k hk; obtain ⟨_,rfl⟩:=okWide_int hk hv; rfl
    · rename_i hk; obtain ⟨_,rfl⟩:=okWide_bool hk hv; rfl
    · rename_i e hk; obtain ⟨_,_,_,rfl⟩:=okWide_slice hk hv; rfl
    · rename_i fs hk; simp [isStruct,hk] at hs
    · cases hf
theorem erep_plain {S:Nat → Prop} {a:Bool} {τ:Shape} {x:Den τ} {y:Value} (ho:ownE a τ = false) (h:PRep W S a τ x y):ERep W S a τ x y []:=by
  cases τ with
  | slice e =>
    cases a with
    | true=>cases ho
    | false=>exact ⟨rfl,h⟩
  | _=>exact ⟨rfl,h⟩
theorem args_ok {n:Nat} {sp:Nat → Bool} {held:Bool} {b0:Nat}:∀ (ts:List TypeId) (I:Sig) (vs:List Value) (ds:List (DataW H)) (ps:List MemPlace),fitS P n ts I = true →
    (∀ (j:Nat) (t:TypeId) (v:Value),ts[j]? = some t → vs[j]? = some v → Value.okWide P W .any b0 t v) → DataW.TrodAll enc P W 0 sp held ts vs ds ps → ∃ x:DenS I,SRep W (fun q=>q < W.heap.size) I x vs [] ∧ wfS I x ∧ ds.length = ts.length
  | [],[],vs,ds,ps,_,_,h=>by
    cases vs <;> cases ds <;> simp [DataW.TrodAll] at h
    exact ⟨(),⟨rfl,rfl⟩,trivial,rfl⟩
  | [],_ :: _,_,_,_,hf,_,_=>by simp [fitS] at hf
  | _ :: _,[],_,_,_,hf,_,_=>by simp [fitS] at hf
  | t :: ts,(a,τ) :: I,vs,ds,ps,hf,hv,h=>by
    cases vs with
    | nil=>simp [DataW.TrodAll] at h
    | cons v vs =>
      cases ds with
      | nil=>simp [DataW.TrodAll] at h
      | cons d ds =>
        obtain ⟨p,q,⟨m,hp⟩,hq,_⟩:=h
        simp only [fitS,Bool.and_eq_true,beq_iff_eq] at hf
        obtain ⟨⟨h1,h2⟩,h3⟩:=hf
        obtain ⟨x,hx,hw,hl⟩:=args_ok ts I vs ds q h3 (fun j t v ht hv'=>hv (j + 1) t v (by simpa using ht) (by simpa using hv')) hq
        obtain ⟨y,hy,_⟩:=fit_ok n m t τ _ d p h1 hp
        have hok:=hv 0 t v rfl rfl
        refine ⟨(y,x),⟨v,vs,[],[],rfl,rfl,erep_plain ?_ ?_,hx⟩,⟨hy.wfD,hw⟩,by simp [hl]⟩
        · cases τ with
          | slice σ =>
            show a = false
            rw [h2]
            cases n with
            | zero=>simp [fitB] at h1
            | succ n =>
              unfold fitB at h1
              unfold isStruct
              split at h1 <;> rename_i hk <;> first | (rw [hk]; done) | (simp only [hk]; done) | (simp [fitF] at h1; done) | skip
          | _=>rfl
        cases a with
        | true =>
          have hs:isStruct P t = true:=h2.symm
          unfold isStruct at hs
          split at hs
          · rename_i fs hk
            unfold Value.okWide at hok
            rw [hk] at hok
            obtain ⟨cs,rfl,_⟩:=hok
            exact ⟨cs.toList,by simp,hy⟩
          · cases hs
        | false =>
          have hs:isStruct P t = false:=h2.symm
          rw [cells_one h1 hs hok] at hy
          exact hy
theorem trodAll_below (hl:laidOutB P = true) {W':World} (hb:Below W.heap.size W W'):∀ (ts:List TypeId) (vs:List Value) (ds:List (DataW H)) (ps:List MemPlace),(ts.all fun t=>P.readableRec t && decide (t < P.types.size)) = true →
    DataW.TrodAll enc P W 0 (fun _=>true) true ts vs ds ps → (∀ x ∈ ps,x.block < W.heap.size) → DataW.TrodAll enc P W' 0 (fun b=>decide (b < W.heap.size)) true ts vs ds ps
  | [],vs,ds,ps,_,h,_=>by
    cases vs <;> cases ds <;> simp [DataW.TrodAll] at h ⊢
    exact h
  | t :: ts,vs,ds,ps,hr,h,hlt=>by
    cases vs with
    | nil=>simp [DataW.TrodAll] at h
    | cons v vs =>
      cases ds with
      | nil=>simp [DataW.TrodAll] at h
      | cons d ds =>
        obtain ⟨p,q,hp,hq,rfl⟩:=h
        simp only [List.all_cons,Bool.and_eq_true,decide_eq_true_eq] at hr
        exact ⟨p,q,Below.trod hl hr.1.1 hr.1.2 hp hb (fun x hx=>hlt x (List.mem_append.2 (.inl hx))),
          trodAll_below hl hb ts vs ds q hr.2 hq (fun x hx=>hlt x (List.mem_append.2 (.inr hx))),rfl⟩
theorem glob_of {n:String} {g:Nat} {t e:TypeId} {m k:Nat} {τ:Shape} {ds:List (DataW Unit)} {xs:List (Den τ)} {r:List (String × DataW Unit)} {ps:List MemPlace}
    (hL:DataW.LaidVars P W ((n,.agg ds) :: r) ps) (hg:P.globalNamed n = some g) (ht:(P.globals[g]?).map (·.type) = some t) (hu:P.underlying t = some (.array m e)) (hc:P.cellsOf e = τ.width) (hf:fitB P k e τ = true)
    (hx:ds.map (undat τ).1 = xs.map some) :
    (g < W.heap.size ∧ ∃ vs T fz,W.heap[g]? = some (.cells vs T fz) ∧ Rows W (fun q=>q < W.heap.size) τ vs 0 xs) ∧ ∃ ps',DataW.LaidVars P W r ps':=by
  obtain ⟨g',t',cs,fuel,p,q,h1,h2,h3,h4,h5,_⟩:=hL
  rw [hg] at h1; cases h1
  rw [ht] at h2; cases h2
  refine ⟨?_,q,h5⟩
  unfold World.var? at h3
  rw [hg] at h3
  simp only [Option.bind_some] at h3
  split at h3
  · rename_i c T fz hh
    cases h3
    refine ⟨(Array.getElem?_eq_some_iff.1 hh).1,cs,T,fz,hh,?_⟩
    obtain ⟨ys,m',rfl,hy,hl,hyl,hel⟩:=DataW.trod_array hu h4
    simp only [Prod.mk.injEq,DataW.agg.injEq] at hy
    intro i x hi
    have hxl:xs.length = m:=by
      have:=congrArg List.length hx
      simp [hy.1,hyl] at this
      omega
    have him:i < m:=by rw [← hxl]; exact (List.getElem?_eq_some_iff.1 hi).1
    have he:=hel i him
    have hyi:ys[i]? = some (ys[i]'(by omega)):=List.getElem?_eq_getElem (by omega)
    rw [hyi,hc] at he
    obtain ⟨x',h6,h7⟩:=fit_ok k m' e τ _ _ _ hf he
    have hd:(undat τ).1 (ys[i]'(by omega)).1 = some x:=by
      have:=congrArg (·[i]?) hx
      simp only [List.getElem?_map,hy.1,hyi,hi,Option.map_some] at this
      exact Option.some.inj this
    have:=h7 x hd
    subst this
    refine ⟨_,h6,fun j v hj=>?_⟩
    rw [List.getElem?_take] at hj
    split at hj
    · rw [List.getElem?_drop] at hj
      simpa using hj
    · cases hj
  · cases h3
theorem returns_true {G : List (Nat × Sigma fun τ => List (Den τ))} {f : FuncId} {I : Sig} {T : DenS I → Option (DenS [(false, .bool)])} {d : DenS [(false, .bool)]} (hS : Sound P G f (sumOf I [(false, .bool)] T d)) {x : DenS I} (hT : T x = some (true, ())) (hcal : ∃ fn, P.funcs[f]? = some fn ∧ fn.body.isNone = false ∧ (fn.name == "runtime.NumGoroutine") = false) {W : World} {args : Array Value}
    (hG:GlobsOk G W fun q=>q < W.heap.size) (ha:SRep W (fun q=>q < W.heap.size) I x args.toList []):Calls P f args W fun e W'=>e = .returned (.bool true) ∧ Below W.heap.size W W':=by
  have:=hS.calls x (by show (T x).isSome = true; rw [hT]; rfl) W (fun q=>q < W.heap.size) args.toList [] (fun q h=>h) hG ha List.nodup_nil (fun r h=>by simp at h)
  rw [Array.toArray_toList] at this
  have this:=this.resolve_right (fun ⟨v,hv,_⟩=>by rw [run_callFunc hcal] at hv; cases hv)
  refine this.2.mono fun e W' ⟨zs,rs',he,hb,_,_,hz⟩=>⟨?_,⟨hb.os,hb.tape,hb.output,hb.size,fun k hk=>hb.block k hk (fun h=>by simp at h)⟩⟩
  obtain ⟨y,ys,r1,r2,rfl,_,⟨_,h1⟩,rfl,_⟩:=hz
  have h2:[y] = [Value.bool ((T x).getD d).1]:=h1
  rw [hT] at h2
  cases h2
  exact he
theorem law_post {G:List (Nat × Sigma fun τ=>List (Den τ))} {f:FuncId} {fn:Func} {I:Sig} {T:DenS I → Option (DenS [(false,.bool)])} {d:DenS [(false,.bool)]} {s:ChangeSpec} {n:Nat} {tb:TypeId}
    (hS : Sound P G f (sumOf I [(false, .bool)] T d)) (hT : ∀ x, wfS I x → T x = some (true, ())) (hcal : ∃ fn, P.funcs[f]? = some fn ∧ fn.body.isNone = false ∧ (fn.name == "runtime.NumGoroutine") = false) (hlay : laidOutB P = true) (hfit : fitS P n fn.params.toList I = true)
    (hread:(fn.params.toList.all fun t=>P.readableRec t && decide (t < P.types.size)) = true) (hres:fn.resultTypes = #[tb]) (hbool:P.underlying tb = some .bool) (hvars:s.vars = [])
    (hspec:∀ ds:List (DataW H),ds.length = fn.params.toList.length → s.fn H ds = { results:=[.lit (.bool true)],args:=ds })
    {W:World} {base:Nat} {args:Array Value} {ds gs:List (DataW H)} {before:List MemPlace}
    (hval:∀ (j:Nat) (t:TypeId) (v:Value),fn.params[j]? = some t → args[j]? = some v → Value.okWide P W .any base t v)
    (hW:DataW.Whole enc P fn.params.toList s.vars false W args.toList ds gs before) (hG:GlobsOk G W fun q=>q < W.heap.size) :
    Calls P f args W fun e W'=>∃ v,e = .returned v ∧ ChangeSpec.post enc P fn s false true false false W args v W':=by
  have hW':=hW
  obtain ⟨p,q,hA,hV,rfl,_,_⟩:=hW
  rw [hvars] at hV
  obtain ⟨rfl,rfl⟩:=trodVars_none hV
  obtain ⟨x,hx,hw,hlen⟩:=args_ok (b0:=base) fn.params.toList I args.toList ds p hfit (fun j t v ht hv=>hval j t v (by simpa using ht) (by simpa using hv)) hA
  refine (returns_true hS (hT x hw) hcal hG hx).mono fun e W' ⟨he,hb⟩=>⟨.bool true,he,ds,[],p ++ [],[],p,[],hW',?_,?_,?_,hb.frame _,fun h=>by cases h⟩
  · rw [List.append_nil,hspec ds hlen,hres]
    exact trodAll_mk1 (shut_bool hbool true)
  · rw [List.append_nil,hspec ds hlen]
    exact trodAll_below hlay hb _ _ _ _ hread hA fun y hy=>by simpa using hW'.lt y (by simpa using hy)
  · rw [List.append_nil,hspec ds hlen,hvars]
    rfl
end
theorem globs_nil {W:World} {S:Nat → Prop}:GlobsOk [] W S:=fun _ _ _ h=>by simp [findGlob] at h
theorem globs_cons {W:World} {S:Nat → Prop} {g:Nat} {τ:Shape} {xs:List (Den τ)} {G:List (Nat × Sigma fun τ=>List (Den τ))} (h:S g ∧ ∃ vs T fz,W.heap[g]? = some (.cells vs T fz) ∧ Rows W S τ vs 0 xs) (r:GlobsOk G W S) :
    GlobsOk ((g,⟨τ,xs⟩) :: G) W S:=fun g' τ' xs' hf=>by
  simp only [findGlob] at hf
  cases hb:Nat.beq g g' with
  | true =>
    have:=Nat.eq_of_beq_eq_true hb
    subst this
    rw [hb] at hf
    simp only [cond_true,Option.some.injEq] at hf
    cases hf
    exact h
  | false =>
    rw [hb] at hf
    exact r g' τ' xs' hf
end Vx
