/- Part 8 of the proof. What is proved: symbolic execution of the functions, proved sound; what each function of the program computes, and that every run ends with it; what these functions compute, in plain numbers. Conditions: each theorem bears its own. -/
import Derived.Test.YtblmecpfokfjpaaGreatDoorVxG7
import Derived.ProofKit
import Derived.LaidMore
import Derived.OpenShut
import Derived.Stop.Joined
import GoSem.ClaimJoined
set_option linter.all false
set_option exponentiation.threshold 1000000
namespace VL
open Go Vx
theorem ex_sqrt (n:Nat):∃ r,r * r ≤ n ∧ n < (r + 1) * (r + 1):=by
  induction n with
  | zero=>exact ⟨0,by decide,by decide⟩
  | succ n ih =>
    obtain ⟨r,h1,h2⟩:=ih
    by_cases h:n + 1 < (r + 1) * (r + 1)
    · exact ⟨r,by omega,h⟩
    · refine ⟨r + 1,by omega,?_⟩
      have:(r + 1 + 1) * (r + 1 + 1) = (r + 1) * (r + 1) + 2 * (r + 1) + 1:=by
        rw [Nat.mul_add (r + 1 + 1),Nat.add_mul (r + 1) 1 (r + 1)]; omega
      omega
noncomputable def isq (n:Nat):Nat:=Classical.choose (ex_sqrt n)
theorem isq_le (n:Nat):isq n * isq n ≤ n:=(Classical.choose_spec (ex_sqrt n)).1
theorem isq_lt (n:Nat):n < (isq n + 1) * (isq n + 1):=(Classical.choose_spec (ex_sqrt n)).2
theorem sq_mono {a b:Nat} (h:a ≤ b):a * a ≤ b * b:=Nat.mul_le_mul h h
theorem sq_lt {a b:Nat} (h:a * a < b * b):a < b:=by
  rcases Nat.lt_or_ge a b with h1 | h1
  · exact h1
  · exact absurd (sq_mono h1) (by omega)
theorem isq_of {n r:Nat} (h1:r * r ≤ n) (h2:n < (r + 1) * (r + 1)):isq n = r:=by
  have h3:=isq_le n
  have h4:=isq_lt n
  have:=sq_lt (show r * r < (isq n + 1) * (isq n + 1) by omega)
  have:=sq_lt (show isq n * isq n < (r + 1) * (r + 1) by omega)
  omega
theorem isq_ge {n r:Nat} (h:r * r ≤ n):r ≤ isq n:=by
  have:=sq_lt (show r * r < (isq n + 1) * (isq n + 1) from Nat.lt_of_le_of_lt h (isq_lt n))
  omega
theorem isq_sq (r:Nat):isq (r * r) = r:=isq_of (Nat.le_refl _) (by rw [Nat.mul_add,Nat.add_mul]; omega)
theorem isq_pos {n:Nat} (h:n ≠ 0):1 ≤ isq n:=isq_ge (by omega)
theorem mul_sq (a b:Nat):(a * b) * (a * b) = a * a * (b * b):=by
  rw [Nat.mul_assoc,Nat.mul_left_comm b a b,Nat.mul_assoc]
theorem isq_scale (n K:Nat) (hK:0 < K):isq (n * (K * K)) / K = isq n:=by
  symm
  have h1:=isq_le (n * (K * K))
  have h2:=isq_lt (n * (K * K))
  generalize isq (n * (K * K)) = R at *
  have hKK:=Nat.mul_pos hK hK
  apply isq_of
  · have h3:=sq_mono (Nat.div_mul_le_self R K)
    rw [mul_sq] at h3
    exact Nat.le_of_mul_le_mul_right (Nat.le_trans h3 h1) hKK
  · have h3:R + 1 ≤ (R / K + 1) * K:=by
      have:=Nat.lt_div_mul_add hK (a:=R)
      rw [Nat.add_mul,Nat.one_mul]; omega
    have h4:=sq_mono h3
    rw [mul_sq] at h4
    exact Nat.lt_of_mul_lt_mul_right (Nat.lt_of_lt_of_le h2 h4)
theorem sq_pow2:∀ (k R n:Nat),R * R = n * (2 ^ k * 2 ^ k) → ∃ q,R = q * 2 ^ k ∧ q * q = n
  | 0,R,n,h=>⟨R,by omega,by omega⟩
  | k + 1,R,n,h=>by
    have e:n * (2 ^ (k + 1) * 2 ^ (k + 1)) = 4 * (n * (2 ^ k * 2 ^ k)):=by
      rw [Nat.pow_succ,mul_sq,← Nat.mul_assoc n,Nat.mul_comm]
    rw [e] at h
    have hev:R % 2 = 0:=by
      rcases Nat.mod_two_eq_zero_or_one R with h1 | h1
      · exact h1
      · have h2:R = 2 * (R / 2) + 1:=by omega
        have h3:R * R % 2 = 1:=by rw [Nat.mul_mod,h1]
        omega
    obtain ⟨S,rfl⟩:∃ S,R = 2 * S:=⟨R / 2,by omega⟩
    rw [mul_sq] at h
    obtain ⟨q,h1,h2⟩:=sq_pow2 k S n (by omega)
    exact ⟨q,by rw [h1,Nat.pow_succ,Nat.mul_comm (2 ^ k) 2,Nat.mul_left_comm],h2⟩
theorem isq_exact (n k:Nat):isq (n * (2 ^ k * 2 ^ k)) * isq (n * (2 ^ k * 2 ^ k)) = n * (2 ^ k * 2 ^ k) ↔ isq n * isq n = n:=by
  constructor
  · intro h
    obtain ⟨q,h1,h2⟩:=sq_pow2 k _ n h
    rw [← h2,isq_sq]
  · intro h
    have e:n * (2 ^ k * 2 ^ k) = (isq n * 2 ^ k) * (isq n * 2 ^ k):=by rw [mul_sq,h]
    rw [e,isq_sq]
theorem isq_even {n k:Nat} (h:isq n * isq n = n):isq (n * (2 ^ k * 2 ^ k)) = isq n * 2 ^ k:=by
  have e:n * (2 ^ k * 2 ^ k) = (isq n * 2 ^ k) * (isq n * 2 ^ k):=by rw [mul_sq,h]
  rw [e,isq_sq]
theorem rnd_more {f m:Int} {neg:Bool} {N:Nat} {E:Int} (hf:Fm f) (hb:fP f + 2 ≤ blen N):rndN f m neg N E true = rndN f m neg (2 * N + 1) (E - 1) false:=by
  have hP:=fP_ge hf
  have e1:(2 * N + 1) / 2 ^ 1 = N:=by omega
  have e2:(2 * N + 1) % 2 ^ 1 ≠ 0:=by omega
  have h0:N ≠ 0:=fun h=>by
    rw [h] at hb
    have:blen 0 = 0:=rfl
    omega
  have:=rnd_trunc (f:=f) (m:=m) (neg:=neg) (N:=2 * N + 1) (k:=1) (E:=E - 1) hf (by rw [e1]; exact h0) (fun _=>by rw [e1]; exact hb)
  rw [e1,decide_eq_true e2,show E - 1 + ((1:Nat):Int) = E by omega] at this
  exact this
theorem rnd_fine {f m:Int} {neg:Bool} {N k:Nat} {E:Int} (hf:Fm f) (hb:fP f + 2 ≤ blen (N / 2 ^ k)):rndN f m neg (N / 2 ^ k) E true = rndN f m neg (2 * N + 1) (E - k - 1) false:=by
  have hP:=fP_ge hf
  have e1:(2 * N + 1) / 2 ^ (k + 1) = N / 2 ^ k:=by
    rw [Nat.pow_succ,Nat.mul_comm (2 ^ k),← Nat.div_div_eq_div_mul,show (2 * N + 1) / 2 = N by omega]
  have e2:(2 * N + 1) % 2 ^ (k + 1) ≠ 0:=by
    rw [Nat.pow_succ,Nat.mul_comm (2 ^ k),Nat.mod_mul]; omega
  have h0:N / 2 ^ k ≠ 0:=fun h=>by
    rw [h] at hb
    have:blen 0 = 0:=rfl
    omega
  have:=rnd_trunc (f:=f) (m:=m) (neg:=neg) (N:=2 * N + 1) (k:=k + 1) (E:=E - k - 1) hf (by rw [e1]; exact h0) (fun _=>by rw [e1]; exact hb)
  rw [e1,decide_eq_true e2,show E - k - 1 + ((k + 1:Nat):Int) = E by omega] at this
  exact this
noncomputable def rootB (f m:Int) (X:Nat) (E:Int):Nat × Nat :=
  if isq X * isq X = X then rndN f m false (isq X) E false else rndN f m false (2 * isq X + 1) (E - 1) false
theorem rootB_mark {f m:Int} (hf:Fm f) {X:Nat} {E:Int} (hb:fP f + 2 ≤ blen (isq X)):rootB f m X E = rndN f m false (isq X) E (!decide (isq X * isq X = X)):=by
  unfold rootB
  by_cases h:isq X * isq X = X
  · rw [if_pos h,decide_eq_true h]; rfl
  · rw [if_neg h,decide_eq_false h,Bool.not_false,rnd_more hf hb]
theorem rootB_fine {f m:Int} (hf:Fm f) {X k:Nat} {E:Int} (h0:X ≠ 0) (hb:fP f + 2 ≤ blen (isq X)):rootB f m (X * (2 ^ k * 2 ^ k)) (E - k) = rootB f m X E:=by
  have hpos:=isq_pos h0
  have hsc:=isq_scale X (2 ^ k) (Nat.two_pow_pos k)
  unfold rootB
  by_cases h:isq X * isq X = X
  · rw [if_pos h,if_pos ((isq_exact X k).2 h),isq_even h,rnd_scale hf (by omega),show E - (k:Int) + (k:Int) = E by omega]
  · rw [if_neg h,if_neg (fun h2=>h ((isq_exact X k).1 h2)),← rnd_more hf hb]
    have:=rnd_fine (f:=f) (m:=m) (neg:=false) (N:=isq (X * (2 ^ k * 2 ^ k))) (k:=k) (E:=E) hf (by rw [hsc]; exact hb)
    rw [hsc] at this
    exact this.symm
theorem isq_blen {X k:Nat} (h:2 ^ (2 * k) ≤ X):k + 1 ≤ blen (isq X):=by
  apply blen_ge
  apply isq_ge
  rw [← Nat.pow_add,show k + k = 2 * k by omega]
  exact h
theorem isq_bound {X k:Nat} (h:X < 2 ^ (2 * k)):isq X < 2 ^ k:=by
  apply sq_lt
  rw [← Nat.pow_add,show k + k = 2 * k by omega]
  exact Nat.lt_of_le_of_lt (isq_le X) h
end VL
namespace VL
open Go Vx
theorem tmodP (e:Int):(Int.tmod e 2 != 0) = decide (e % 2 = 1):=by
  have:Int.tmod e 2 = 0 ↔ e % 2 = 0:=by
    rw [← Int.dvd_iff_tmod_eq_zero,Int.dvd_iff_emod_eq_zero]
  rw [Bool.eq_iff_iff,bne_iff_ne,decide_eq_true_eq]
  omega
theorem quo2 (z:Int) (h:-1000000 ≤ z ∧ z ≤ 1000000):quoI .i64 (2 * z) 2 = z:=by
  unfold quoI
  rw [Int.mul_tdiv_cancel_left z (by decide)]
  exact wrapI (by omega)
theorem W317_eq (n:Nat) (hn:n < 2 ^ 128):W317_2 ((((0:Int),((0:Int),((),()))),(Wi n,())):Pat.D P317_2) = some (.inl (((isq n:Int),((),())),(Wi n,()))):=by
  have hb:isq n < 2 ^ 64:=isq_bound (k:=64) hn
  have key:=lfix_ind (m317_2 S123.pre S123.F S316.pre S316.F) (fun x=>64 - x.1.1.toNat)
    (fun x=>∃ i:Nat,i ≤ 64 ∧ x = (((i:Int),(((isq n / 2 ^ (64 - i) * 2 ^ (64 - i):Nat):Int),((),()))),(Wi n,())))
    (fun _=>.inl (((isq n:Int),((),())),(Wi n,()))) ?_ _ ⟨0,by omega,by rw [Nat.div_eq_of_lt hb]⟩
  · exact key
  intro L x hx hL
  obtain ⟨i,hi,rfl⟩:=hx
  unfold h317_2
  rcases Nat.lt_or_ge i 64 with hlt | hge
  · have e5:IntKind.wrap .i64 ((63:Int) - (i:Int)) = ((63 - i:Nat):Int):=by rw [wrapI (by omega)]; omega
    have e6:IntKind.wrap .i64 ((i:Int) + 1) = ((i + 1:Nat):Int):=by rw [wrapI (by omega)]; omega
    have e7:decide ((0:Int) ≤ ((63 - i:Nat):Int)) = true:=decide_eq_true (by omega)
    have e8:decide ((i:Int) < 64) = true:=decide_eq_true (by omega)
    have es:64 - i = (63 - i) + 1:=by omega
    rw [es]
    generalize hs:63 - i = s at *
    have hs63:s ≤ 63:=by omega
    have hsh:=shlI_one hs63
    have hp:=Nat.two_pow_pos s
    have hd:isq n / 2 ^ (s + 1) = isq n / 2 ^ s / 2:=by rw [Nat.pow_succ,Nat.div_div_eq_div_mul]
    have hdm:=Nat.div_add_mod (isq n) (2 ^ s)
    have hml:=Nat.mod_lt (isq n) hp
    have hps:2 ^ (s + 1) = 2 ^ s * 2:=Nat.pow_succ ..
    generalize hc:isq n / 2 ^ s = c at *
    have hcle:c * 2 ^ s ≤ isq n:=by rw [Nat.mul_comm]; omega
    have e1:c / 2 * 2 ^ (s + 1) = 2 ^ s * (2 * (c / 2)):=by rw [hps,Nat.mul_comm,Nat.mul_assoc]
    have hw:orI .u64 ((c / 2 * 2 ^ (s + 1):Nat):Int) ((2 ^ s:Nat):Int) = ((2 ^ s * (2 * (c / 2) + 1):Nat):Int):=by
      have hlt2:2 ^ s * (2 * (c / 2) + 1) < 2 ^ 64:=by
        have h1:isq n < 2 ^ s * (c + 1):=by rw [Nat.mul_add,Nat.mul_one]; omega
        have h2:2 ^ s * (c + 1) ≤ 2 ^ 64:=by
          have e:2 ^ 64 = 2 ^ s * 2 ^ (64 - s):=by rw [← Nat.pow_add]; congr 1; omega
          have h3:c < 2 ^ (64 - s):=by
            rw [e] at hb
            have:2 ^ s * c < 2 ^ s * 2 ^ (64 - s):=by omega
            exact Nat.lt_of_mul_lt_mul_left this
          rw [e]
          exact Nat.mul_le_mul_left _ h3
        have e2:2 ^ 64 = 2 ^ (s + 1) * 2 ^ (63 - s):=by rw [← Nat.pow_add]; congr 1; omega
        have h4:c / 2 < 2 ^ (63 - s):=by
          have h3:2 ^ s * c < 2 ^ 64:=by omega
          rw [e2,hps,Nat.mul_assoc] at h3
          have:=Nat.lt_of_mul_lt_mul_left h3
          omega
        have h5:2 ^ s * (2 * (c / 2) + 1) < 2 ^ s * (2 * (c / 2 + 1)):=Nat.mul_lt_mul_of_pos_left (by omega) hp
        have h6:2 ^ s * (2 * (c / 2 + 1)) ≤ 2 ^ 64:=by
          rw [e2,hps,Nat.mul_assoc]
          exact Nat.mul_le_mul_left _ (Nat.mul_le_mul_left _ h4)
        omega
      have ha:c / 2 * 2 ^ (s + 1) < 2 ^ 64:=by
        rw [e1]
        have:=Nat.mul_le_mul_left (2 ^ s) (show 2 * (c / 2) ≤ 2 * (c / 2) + 1 by omega)
        omega
      rw [orN2 ha (Nat.pow_lt_pow_right (by decide) (by omega))]
      congr 1
      have:=Nat.two_pow_add_eq_or_of_lt (i:=s + 1) (b:=2 ^ s) (by rw [hps]; omega) (c / 2)
      rw [Nat.mul_comm (c / 2),← this,hps,Nat.mul_add,Nat.mul_one,Nat.mul_assoc]
    have hW:2 ^ s * (2 * (c / 2) + 1) < 2 ^ 64:=by
      have h3:2 ^ s * c < 2 ^ 64:=by omega
      have e:2 ^ 64 = 2 ^ s * (2 * 2 ^ (63 - s)):=by rw [← Nat.mul_assoc,← Nat.pow_succ,← Nat.pow_add]; congr 1; omega
      rw [e] at h3 ⊢
      have h4:=Nat.lt_of_mul_lt_mul_left h3
      exact Nat.mul_lt_mul_of_pos_left (by omega) hp
    have p0:=T316_eq hW hW
    have p1:=T123_eq (2 ^ s * (2 * (c / 2) + 1) * (2 ^ s * (2 * (c / 2) + 1))) n
    have hle:decide ((if 2 ^ s * (2 * (c / 2) + 1) * (2 ^ s * (2 * (c / 2) + 1)) = n then (0:Int) else if 2 ^ s * (2 * (c / 2) + 1) * (2 ^ s * (2 * (c / 2) + 1)) < n then -1 else 1) ≤ 0) = decide (c % 2 = 1):=by
      have h1:2 ^ s * (2 * (c / 2) + 1) * (2 ^ s * (2 * (c / 2) + 1)) ≤ n ↔ c % 2 = 1:=by
        constructor
        · intro h
          have h2:=isq_ge h
          have h3:2 ^ s * (2 * (c / 2) + 1) < 2 ^ s * (c + 1):=by rw [Nat.mul_add (2 ^ s) c,Nat.mul_one]; omega
          have:=Nat.lt_of_mul_lt_mul_left h3
          omega
        · intro h
          have e:2 * (c / 2) + 1 = c:=by omega
          rw [e,Nat.mul_comm (2 ^ s) c]
          exact Nat.le_trans (sq_mono hcle) (isq_le n)
      rw [Bool.eq_iff_iff,decide_eq_true_eq,decide_eq_true_eq,← h1]
      split
      · omega
      · split <;> omega
    dsimp only
    simp only [e5,e6,e7,e8,hd,hsh,hw,cond_true,pre316 p0,fun316 p0,pre123 p1,fun123 p1,hle]
    by_cases hc1:c % 2 = 1
    · rw [decide_eq_true hc1,cond_true]
      have e:2 * (c / 2) + 1 = c:=by omega
      rw [e]
      exact hL _ ⟨i + 1,by omega,by rw [show 64 - (i + 1) = s by omega,hc,Nat.mul_comm]⟩ (by simp only [Int.toNat_natCast]; omega)
    · rw [decide_eq_false hc1,cond_false]
      have e:2 * (c / 2) = c:=by omega
      rw [e1,e]
      exact hL _ ⟨i + 1,by omega,by rw [show 64 - (i + 1) = s by omega,hc,Nat.mul_comm]⟩ (by simp only [Int.toNat_natCast]; omega)
  · have e:i = 64:=by omega
    subst e
    have e8:decide (((64:Nat):Int) < 64) = false:=rfl
    simp only [e8,cond_false,Nat.sub_self,Nat.pow_zero,Nat.div_one,Nat.mul_one]
theorem Wi_eq {a b:Nat}:(((Wi a).1 == (Wi b).1) && ((Wi a).2.1 == (Wi b).2.1)) = decide (a = b):=by
  show (((a / 2 ^ 64:Nat):Int) == ((b / 2 ^ 64:Nat):Int) && ((a % 2 ^ 64:Nat):Int) == ((b % 2 ^ 64:Nat):Int)) = _
  rw [nbeq,nbeq,Bool.eq_iff_iff,Bool.and_eq_true,beq_iff_eq,beq_iff_eq,decide_eq_true_eq]
  omega
theorem T317_eq (n:Nat) (hn:n < 2 ^ 128):T317 (Wi n,()) = some ((isq n:Int),decide (isq n * isq n = n),()):=by
  have hb:isq n < 2 ^ 64:=isq_bound (k:=64) hn
  show t317 S123.pre S123.F S316.pre S316.F W317_2 (Wi n) = _
  unfold t317
  have hw:=W317_eq n hn
  have p0:=T316_eq hb hb
  show Vx.obind (W317_2 (((0:Int),((0:Int),((),()))),(Wi n,()))) _ = _
  rw [hw]
  show (bif S316.pre ((isq n:Int),((isq n:Int),())) then some ((isq n:Int),((((S316.F ((isq n:Int),((isq n:Int),()))).1.1 == (Wi n).1) && ((S316.F ((isq n:Int),((isq n:Int),()))).1.2.1 == (Wi n).2.1)),())) else none) = _
  simp only [pre316 p0,fun316 p0,cond_true]
  exact congrArg (fun b:Bool=>some ((isq n:Int),(b,()))) Wi_eq
theorem T314_lo {n:Nat} (hn:n < 2 ^ 64):T314 (((0:Int),((n:Int),())),()) = some ((blen n:Int),()):=by
  show t314 S178.pre S178.F ((0:Int),((n:Int),())) = _
  unfold t314
  have p0:=T178_eq n hn
  simp only [bne_self_eq_false,cond_false,pre178 p0,fun178 p0,cond_true]
theorem T313_eq {f:Int} {a:Nat} (h:chk f a = 0):T313 (f,rowOf f,(a:Int),()) = some ((mant f a:Int),xpn f a,()):=by
  obtain ⟨hf,h0⟩:=chk_zero h
  show t313 S98.pre S98.F f (rowOf f) a = _
  unfold t313
  have h1:=fP_ge hf
  have h2:=fP_lt hf
  have h3:=fW_le hf
  have h4:=fX_le hf
  have h5:=fP_le hf
  have h6:=fX_ge hf
  have hE:=eF_lt hf a
  have hM:=mF_lt f a
  have hPp:2 ^ (fP f - 1) ≤ 2 ^ 52:=Nat.pow_le_pow_right (by decide) (by omega)
  have p98:=T98_ok h
  have r2:(rowOf f).2.1 = (fP f:Int):=rfl
  have r3:(rowOf f).2.2.1 = 1 - (fX f:Int):=rfl
  have e2:IntKind.wrap .i64 ((fP f:Int) - 1) = ((fP f - 1:Nat):Int):=wsub1 _ (by omega)
  have e3:shlI .u64 1 ((fP f - 1:Nat):Int) = ((2 ^ (fP f - 1):Nat):Int):=shlI_one (by omega)
  have e4:orI .u64 (mF f a:Int) ((2 ^ (fP f - 1):Nat):Int) = ((mF f a + 2 ^ (fP f - 1):Nat):Int):=by
    have:=orN (a:=mF f a) (b:=1) (k:=fP f - 1) hM (by omega)
    rwa [Nat.one_mul] at this
  have hE2:eF f a < 65536:=by
    have:=e_le (f:=f) a
    have e:fullF f = 2 * fX f + 1:=by unfold fullF; rw [← fX_eq hf]
    omega
  have e5:∀ k:Nat,k < 65536 → IntKind.wrap .i64 (IntKind.wrap .i64 (IntKind.wrap .i64 (IntKind.wrap .i64 (IntKind.wrap .i64 (k:Int) - 1) + (1 - (fX f:Int))) - (fP f:Int)) + 1) = (k:Int) - 1 + (1 - (fX f:Int)) - (fP f:Int) + 1:=fun k hk=>by
    rw [wrapI (n:=(k:Int)) (by omega),wrapI (n:=(k:Int) - 1) (by omega),wrapI (n:=(k:Int) - 1 + _) (by omega),wrapI (n:=(k:Int) - 1 + _ - _) (by omega),wrapI (by omega)]
  have e6:=e5 1 (by decide)
  rw [show ((1:Nat):Int) = 1 from rfl] at e6
  dsimp only
  simp only [r2,r3,e2,nnn,cond_true,pre98 p98,fun98 p98,e3,e4,e6,e5 _ hE2,nbeq0]
  unfold mant xpn
  by_cases hz:eF f a = 0
  · rw [hz,if_pos rfl,if_pos rfl]
    show some ((mF f a:Int),((1:Int) - 1 + (1 - (fX f:Int)) - (fP f:Int) + 1,())) = _
    rw [show (1:Int) - 1 + (1 - (fX f:Int)) - (fP f:Int) + 1 = 1 - (fX f:Int) - (fP f:Int) + 1 + 0 by omega]
  · have:(eF f a == 0) = false:=by simpa using hz
    rw [this,cond_false,if_neg hz,if_neg hz]
    rw [show (eF f a:Int) - 1 + (1 - (fX f:Int)) - (fP f:Int) + 1 = 1 - (fX f:Int) - (fP f:Int) + 1 + ((eF f a:Int) - 1) by omega]
def okL (f:Int) (l:List Nat):Bool:=l.all fun a=>chk f a == 0
theorem chk_cases {f:Int} (hf:Fm f) (a:Nat):chk f a = 0 ∨ chk f a = 4:=by
  unfold chk
  rw [if_pos hf]
  split <;> simp
theorem W311_eq {f:Int} (hf:Fm f) (l:List Nat) (hl:∀ a ∈ l,a < 2 ^ 64) (hlen:l.length < 1000) (z r:Den (.pair (.int .i64) (.pair (.int .i64) (.pair (.int .i64) (.pair (.int .i64) (.unit)))))) :
    W311_7 ((((l.length:Int),(Wd l,(f,((0:Int),((),((),())))))),(z,(r,()))):Pat.D P311_7) = some (bif okL f l then .inl (((),((),())),(z,(r,()))) else .inr (((),((4:Int),())),(r,()))):=by
  have key:=lfix_ind (m311_7 S69.pre S69.F S66.pre S66.F) (fun x=>l.length - x.1.2.2.2.1.toNat)
    (fun x=>∃ i:Nat,i ≤ l.length ∧ okL f (l.take i) = true ∧ x = (((l.length:Int),(Wd l,(f,((i:Int),((),((),())))))),(z,(r,()))))
    (fun _=>bif okL f l then .inl (((),((),())),(z,(r,()))) else .inr (((),((4:Int),())),(r,()))) ?_ _ ⟨0,Nat.zero_le _,rfl,rfl⟩
  · exact key
  intro L x hx hL
  obtain ⟨i,hi,hok,rfl⟩:=hx
  unfold h311_7
  rcases Nat.lt_or_ge i l.length with hlt | hge
  · have hg:l.getD i 0 = l[i]:=by simp [List.getD_eq_getElem?_getD,hlt]
    have hmem:l[i] ∈ l:=List.getElem_mem hlt
    have ha:=hl _ hmem
    have p0:=T66_eq f l[i] ha
    have e0:decide ((i:Int) < (l.length:Int)) = true:=decide_eq_true (by omega)
    have e1:(decide ((0:Int) ≤ (i:Int)) && decide ((i:Int) < ((Wd l).length:Int))) = true:=by rw [Wd_len,decide_eq_true (by omega),decide_eq_true (by omega)]; rfl
    have e2:(Wd l).getD (Int.toNat (i:Int)) 0 = ((l[i]:Nat):Int):=by rw [Int.toNat_natCast,Wd_getD,hg]
    have e3:IntKind.wrap .i64 ((i:Int) + 1) = ((i + 1:Nat):Int):=by rw [wrapI (by omega)]; omega
    have htk:l.take (i + 1) = l.take i ++ [l[i]]:=by rw [List.take_succ_eq_append_getElem hlt]
    dsimp only
    simp only [e0,e1,e2,e3,cond_true,pre66 p0,fun66 p0]
    by_cases hc:chk f l[i] = 0
    · rw [hc,bne_self_eq_false,cond_false]
      refine hL _ ⟨i + 1,by omega,?_,rfl⟩ (by simp only [Int.toNat_natCast]; omega)
      unfold okL at hok ⊢
      rw [htk,List.all_append,hok,List.all_cons,hc]; rfl
    · have h4:chk f l[i] = 4:=(chk_cases hf _).resolve_left hc
      have hno:okL f l = false:=by
        unfold okL
        rw [List.all_eq_false]
        exact ⟨l[i],hmem,by rw [h4]; decide⟩
      rw [h4,hno]; rfl
  · have e:i = l.length:=by omega
    subst e
    rw [List.take_length] at hok
    have e0:decide ((l.length:Int) < (l.length:Int)) = false:=decide_eq_false (by omega)
    simp only [e0,cond_false]
    rw [hok]; rfl
noncomputable def chkL (f m:Int) (l:List Nat):Int:=if ¬ Fm f then 2 else if m < 0 ∨ m > 5 then 3 else bif okL f l then 0 else 4
theorem T311_ok {f m:Int} (hf:Fm f) (l:List Nat) (hl:∀ a ∈ l,a < 2 ^ 64) (hlen:l.length < 1000):T311 (f,m,Wd l,()) = some (rowOf f,chkL f m l,()):=by
  show t311 S69.pre S69.F S66.pre S66.F W311_7 f m (Wd l) = _
  unfold t311 chkL
  have p0:=T69_ok hf
  rw [if_neg (show ¬ ¬ Fm f from fun h=>h hf)]
  simp only [pre69 p0,fun69 p0,cond_true,bne_self_eq_false,cond_false]
  by_cases hm:m < 0 ∨ m > 5
  · have:(decide (m < 0) || decide (m > 5)) = true:=by rw [Bool.or_eq_true,decide_eq_true_eq,decide_eq_true_eq]; exact hm
    rw [this,if_pos hm]; rfl
  · have:(decide (m < 0) || decide (m > 5)) = false:=by rw [Bool.or_eq_false_iff,decide_eq_false_iff_not,decide_eq_false_iff_not]; omega
    rw [this,if_neg hm,cond_false,Wd_len,W311_eq hf l hl hlen]
    cases okL f l <;> rfl
theorem T311_bad {f m:Int} (hf:¬ Fm f) (l:List Nat):T311 (f,m,Wd l,()) = some ((0,0,0,0,()),2,()):=by
  show t311 S69.pre S69.F S66.pre S66.F W311_7 f m (Wd l) = _
  unfold t311
  have p0:=T69_bad hf
  simp only [pre69 p0,fun69 p0,cond_true]
  rfl
theorem T312_eq {f:Int} (hf:Fm f) (c:Int):T312 (f,c,()) = some (bif c == 1 then ((nanF f:Int),0,true,()) else bif (c == 0 || c == 2 || c == 3 || c == 4) then ((nanF f:Int),1,true,()) else ((0:Int),0,false,())):=by
  show t312 S70.pre S70.F f c = _
  unfold t312
  have p0:=T70_ok hf
  simp only [pre70 p0,fun70 p0,cond_true]
  cases c == 1 <;> cases c == 0 <;> cases c == 2 <;> cases c == 3 <;> cases c == 4 <;> rfl
theorem cls_below {f:Int} (hf:Fm f) (a:Nat):(cls f a == 2 || cls f a == 3 || cls f a == 4) = (sF f a && !zro f a && !nan f a):=by
  have hfull:=full_pos hf
  unfold cls zro nan
  simp only [bne]
  cases h1:eF f a == fullF f <;> cases h2:mF f a == 0 <;> cases sF f a <;> cases h3:eF f a == 0 <;> cases mF f a / 2 ^ (fP f - 2) == 0 <;> first | rfl | (exfalso; rw [beq_iff_eq] at h1 h3; omega)
theorem cls_up {f:Int} (hf:Fm f) (a:Nat):(cls f a == 9) = (isInf f a && !sF f a):=by
  have hfull:=full_pos hf
  unfold cls isInf
  simp only [bne]
  cases h1:eF f a == fullF f <;> cases h2:mF f a == 0 <;> cases sF f a <;> cases h3:eF f a == 0 <;> cases mF f a / 2 ^ (fP f - 2) == 0 <;> first | rfl | (exfalso; rw [beq_iff_eq] at h1 h3; omega)
noncomputable def rootX (f m:Int) (n:Nat) (e:Int):Nat × Nat:=if e % 2 = 1 then rootB f m (n * 2 * 2 ^ 200) ((e - 1) / 2 - 100) else rootB f m (n * 2 ^ 200) (e / 2 - 100)
noncomputable def sqrtF (f m:Int) (a:Nat):Int × Int × Int × Unit :=
  if chkL f m [a] ≠ 0 then (0,0,chkL f m [a],())
  else bif nan f a then ((nanF f:Int),(bif snan f a then 1 else 0),0,())
  else bif sF f a && !zro f a then ((nanF f:Int),1,0,())
  else bif zro f a || isInf f a then ((a:Int),0,0,())
  else (((rootX f m (mant f a) (xpn f a)).1:Int),((rootX f m (mant f a) (xpn f a)).2:Int),0,())
theorem chkL_zero {f m:Int} {l:List Nat} (h:chkL f m l = 0):Fm f ∧ (0 ≤ m ∧ m ≤ 5) ∧ ∀ a ∈ l,chk f a = 0:=by
  unfold chkL at h
  by_cases hf:Fm f
  · rw [if_neg (show ¬ ¬ Fm f from fun h=>h hf)] at h
    by_cases hm:m < 0 ∨ m > 5
    · rw [if_pos hm] at h; cases h
    · rw [if_neg hm] at h
      refine ⟨hf,by omega,?_⟩
      cases hk:okL f l
      · rw [hk] at h; cases h
      · unfold okL at hk
        rw [List.all_eq_true] at hk
        exact fun a ha=>by simpa using hk a ha
  · rw [if_pos hf] at h; cases h
theorem rootX_prog {f m:Int} (hf:Fm f) {n:Nat} (h0:n ≠ 0) (hn:n < 2 ^ 64) (e:Int) (s:Nat) (hs:blen n + s = 126 ∨ blen n + s = 127) (hpar:(e - s) % 2 = 0) :
    rootX f m n e = rootB f m (n * 2 ^ s) ((e - s) / 2) ∧ 63 ≤ blen (isq (n * 2 ^ s)) ∧ n * 2 ^ s < 2 ^ 128:=by
  have hPl:=fP_le hf
  have hb:=blen_bound hn
  have hb1:=blen_pos h0
  have hle:=blen_le h0
  have hlt:=blen_lt n
  have hlow:2 ^ (2 * 62) ≤ n * 2 ^ s:=by
    have:2 ^ (blen n - 1) * 2 ^ s ≤ n * 2 ^ s:=Nat.mul_le_mul_right _ hle
    rw [← Nat.pow_add] at this
    exact Nat.le_trans (Nat.pow_le_pow_right (by decide) (by omega)) this
  have hbl:=isq_blen hlow
  have hX0:n * 2 ^ s ≠ 0:=fun h=>by rw [h] at hlow; exact absurd hlow (by decide)
  have hup:n * 2 ^ s < 2 ^ 128:=by
    have:n * 2 ^ s < 2 ^ blen n * 2 ^ s:=Nat.mul_lt_mul_of_pos_right hlt (Nat.two_pow_pos s)
    rw [← Nat.pow_add] at this
    exact Nat.lt_of_lt_of_le this (Nat.pow_le_pow_right (by decide) (by omega))
  refine ⟨?_,hbl,hup⟩
  unfold rootX
  by_cases ho:e % 2 = 1
  · rw [if_pos ho]
    obtain ⟨k,hk⟩:∃ k,s + 2 * k = 201:=⟨(201 - s) / 2,by omega⟩
    have:=rootB_fine (f:=f) (m:=m) (k:=k) (E:=(e - s) / 2) hf hX0 (by omega)
    rw [← this]
    have e1:n * 2 * 2 ^ 200 = n * 2 ^ s * (2 ^ k * 2 ^ k):=by
      rw [Nat.mul_assoc n 2,show 2 * 2 ^ 200 = 2 ^ 201 by decide,← hk,← Nat.pow_add,show k + k = 2 * k by omega,Nat.pow_add,Nat.mul_assoc]
    rw [e1,show (e - 1) / 2 - 100 = (e - (s:Int)) / 2 - (k:Int) by omega]
  · rw [if_neg ho]
    obtain ⟨k,hk⟩:∃ k,s + 2 * k = 200:=⟨(200 - s) / 2,by omega⟩
    have:=rootB_fine (f:=f) (m:=m) (k:=k) (E:=(e - s) / 2) hf hX0 (by omega)
    rw [← this]
    have e1:n * 2 ^ 200 = n * 2 ^ s * (2 ^ k * 2 ^ k):=by
      rw [← hk,← Nat.pow_add,show k + k = 2 * k by omega,Nat.pow_add,Nat.mul_assoc]
    rw [e1,show e / 2 - 100 = (e - (s:Int)) / 2 - (k:Int) by omega]
theorem T318_eq (f m:Int) {a:Nat} (ha:a < 2 ^ 64):T318 (f,m,(a:Int),()) = some (sqrtF f m a):=by
  show t318 S311.pre S311.F S65.pre S65.F S312.pre S312.F S313.pre S313.F S314.pre S314.F S119.pre S119.F S317.pre S317.F S122.pre S122.F f m a = _
  unfold t318 sqrtF
  rw [show ((a:Int) :: []) = Wd [a] from rfl]
  by_cases hf:Fm f
  case neg =>
    have p0:=T311_bad (m:=m) hf [a]
    have e0:chkL f m [a] = 2:=by unfold chkL; rw [if_pos hf]
    rw [e0]
    simp only [pre311 p0,fun311 p0,cond_true]
    rfl
  have p0:=T311_ok (m:=m) hf [a] (fun b hb=>by rw [List.mem_singleton] at hb; omega) (show (1:Nat) < 1000 by decide)
  by_cases hk:chkL f m [a] ≠ 0
  · rw [if_pos hk]
    have:(chkL f m [a] != 0) = true:=bne_iff_ne.2 hk
    simp only [pre311 p0,fun311 p0,cond_true,this]
  have hk:chkL f m [a] = 0:=Classical.not_not.1 hk
  obtain ⟨_,hm,hc⟩:=chkL_zero hk
  have h:=hc a (List.mem_singleton.2 rfl)
  rw [if_neg (show ¬ chkL f m [a] ≠ 0 from fun h=>h hk)]
  rw [hk] at p0
  have p1:=T65_ok ha h
  have p2:=T312_eq hf (cls f a)
  have hcn:=cls_nan f a
  have hcs:=cls_snan f a
  have hcb:=cls_below hf a
  have hcz:=cls_zro hf a
  have hcu:=cls_up hf a
  simp only [pre311 p0,fun311 p0,cond_true,bne_self_eq_false,cond_false,pre65 p1,fun65 p1,pre312 p2,fun312 p2]
  cases hn:nan f a
  case true =>
    cases hs:snan f a
    · rw [hs] at hcs
      rw [hn,hcs,Bool.or_false] at hcn
      rw [hcn]; rfl
    · rw [hs] at hcs
      have h1:(cls f a == 1) = false:=by
        rw [beq_iff_eq] at hcs
        rw [hcs]; rfl
      rw [h1,hcs]; rfl
  rw [hn,Bool.or_eq_false_iff] at hcn
  rw [hn,Bool.not_false,Bool.and_true] at hcb
  rw [hcn.1,hcn.2,Bool.false_or]
  simp only [cond_false]
  rw [hcb]
  cases hb:sF f a && !zro f a
  case true=>rfl
  simp only [cond_false]
  have e1:((cls f a == 9) || (cls f a == 6) || (cls f a == 5)) = (zro f a || isInf f a):=by
    rw [Bool.or_assoc,Bool.or_comm (cls f a == 6),hcz,hcu]
    cases hz:zro f a
    · rw [hz,Bool.not_false,Bool.and_true] at hb
      rw [hb]; cases isInf f a <;> rfl
    · rw [Bool.or_true,Bool.true_or]
  rw [e1]
  cases hzi:zro f a || isInf f a
  case true=>rfl
  simp only [cond_false]
  rw [Bool.or_eq_false_iff] at hzi
  have h0:=zro_mant hzi.1
  have hml:=mant_lt hf a
  have hx:=xpn_bound hf a
  have h64:mant f a < 2 ^ 64:=Nat.lt_of_lt_of_le hml (Nat.pow_le_pow_right (by decide) (by decide))
  have hbl:=blen_bound hml
  have hbl1:=blen_pos h0
  have p3:=T313_eq h
  have p4:=T314_lo h64
  have hWi:((0:Int),((mant f a:Int),())) = Wi (mant f a):=by
    unfold Wi
    rw [Nat.div_eq_of_lt h64,Nat.mod_eq_of_lt h64]; rfl
  rw [hWi] at p4
  generalize hs:126 - blen (mant f a) = s at *
  have e12:IntKind.wrap .i64 ((126:Int) - (blen (mant f a):Int)) = (s:Int):=by rw [wrapI (by omega)]; omega
  have e11:IntKind.wrap .i64 ((s:Int) + 1) = ((s + 1:Nat):Int):=by rw [wrapI (by omega)]; omega
  have e13:IntKind.wrap .i64 (xpn f a - (s:Int)) = xpn f a - (s:Int):=wrapI (by omega)
  have e14:IntKind.wrap .i64 (xpn f a - ((s + 1:Nat):Int)) = xpn f a - ((s + 1:Nat):Int):=wrapI (by omega)
  have go:∀ t:Nat,(blen (mant f a) + t = 126 ∨ blen (mant f a) + t = 127) → (xpn f a - t) % 2 = 0 →
      T119 (Wi (mant f a),(t:Int),()) = some (Wi (mant f a * 2 ^ t),()) ∧
      T317 (Wi (mant f a * 2 ^ t),()) = some ((isq (mant f a * 2 ^ t):Int),decide (isq (mant f a * 2 ^ t) * isq (mant f a * 2 ^ t) = mant f a * 2 ^ t),()) ∧
      quoI .i64 (xpn f a - (t:Int)) 2 = (xpn f a - (t:Int)) / 2 ∧
      T122 (f,m,false,((0:Int),((isq (mant f a * 2 ^ t):Int),())),(xpn f a - (t:Int)) / 2,!decide (isq (mant f a * 2 ^ t) * isq (mant f a * 2 ^ t) = mant f a * 2 ^ t),()) =
        some (((rootX f m (mant f a) (xpn f a)).1:Int),((rootX f m (mant f a) (xpn f a)).2:Int),0,()):=fun t ht hp=>by
    obtain ⟨r1,r2,r3⟩:=rootX_prog (m:=m) hf h0 h64 (xpn f a) t ht hp
    have q1:=T119_eq (mant f a) t (Nat.lt_of_lt_of_le h64 (Nat.pow_le_pow_right (by decide) (by decide)))
    rw [Nat.mod_eq_of_lt r3] at q1
    have hq:quoI .i64 (xpn f a - (t:Int)) 2 = (xpn f a - (t:Int)) / 2:=by
      have:=quo2 ((xpn f a - (t:Int)) / 2) (by omega)
      rw [show 2 * ((xpn f a - (t:Int)) / 2) = xpn f a - (t:Int) by omega] at this
      exact this
    have hr64:isq (mant f a * 2 ^ t) < 2 ^ 64:=isq_bound (k:=64) r3
    have hr0:isq (mant f a * 2 ^ t) ≠ 0:=fun h=>by
      rw [h] at r2
      have:blen 0 = 0:=rfl
      omega
    have hPl:=fP_le hf
    have q4:=T122_eq hf hm false (isq (mant f a * 2 ^ t)) (Nat.lt_of_lt_of_le hr64 (Nat.pow_le_pow_right (by decide) (by decide))) ((xpn f a - (t:Int)) / 2) (by omega) (!decide (isq (mant f a * 2 ^ t) * isq (mant f a * 2 ^ t) = mant f a * 2 ^ t)) (fun _=>by omega)
    rw [if_neg hr0,← rootB_mark hf (by omega),← r1] at q4
    have hWr:Wi (isq (mant f a * 2 ^ t)) = ((0:Int),((isq (mant f a * 2 ^ t):Int),())):=by
      unfold Wi
      rw [Nat.div_eq_of_lt hr64,Nat.mod_eq_of_lt hr64]; rfl
    rw [hWr] at q4
    exact ⟨q1,T317_eq _ r3,hq,q4⟩
  simp only [pre313 p3,fun313 p3,pre314 p4,fun314 p4,cond_true,e12,e11,e13,e14,tmodP,hWi]
  by_cases ho:(xpn f a - (s:Int)) % 2 = 1
  · obtain ⟨q1,q2,q3,q4⟩:=go (s + 1) (by omega) (by omega)
    rw [decide_eq_true ho]
    simp only [pre119 q1,fun119 q1,pre317 q2,fun317 q2,q3,pre122 q4,fun122 q4,cond_true]
  · obtain ⟨q1,q2,q3,q4⟩:=go s (by omega) (by omega)
    rw [decide_eq_false ho]
    simp only [pre119 q1,fun119 q1,pre317 q2,fun317 q2,q3,pre122 q4,fun122 q4,cond_true,cond_false]
end VL
namespace VL
open Go Vx
theorem isq_step (N w:Nat) (hw:w < 4):isq (4 * N + w) = if 4 * isq N + 1 ≤ 4 * (N - isq N * isq N) + w then 2 * isq N + 1 else 2 * isq N:=by
  have h1:=isq_le N
  have h2:=isq_lt N
  generalize isq N = r at *
  have e1:(2 * r) * (2 * r) = 4 * (r * r):=by rw [mul_sq]
  have e2:(2 * r + 1) * (2 * r + 1) = 4 * (r * r) + 4 * r + 1:=by
    rw [Nat.mul_add,Nat.add_mul,e1]; omega
  have e3:(2 * r + 1 + 1) * (2 * r + 1 + 1) = 4 * ((r + 1) * (r + 1)):=by
    rw [show 2 * r + 1 + 1 = 2 * (r + 1) by omega,mul_sq]
  split
  · exact isq_of (by omega) (by omega)
  · exact isq_of (by omega) (by omega)
theorem two_bits (n i:Nat):n / 2 ^ (2 * i) = 4 * (n / 2 ^ (2 * (i + 1))) + (2 * (n / 2 ^ (2 * i + 1) % 2) + n / 2 ^ (2 * i) % 2):=by
  have e1:n / 2 ^ (2 * i + 1) = n / 2 ^ (2 * i) / 2:=by rw [Nat.pow_succ,Nat.div_div_eq_div_mul]
  have e2:n / 2 ^ (2 * (i + 1)) = n / 2 ^ (2 * i) / 2 / 2:=by
    rw [show 2 * (i + 1) = 2 * i + 1 + 1 by omega,Nat.pow_succ,Nat.pow_succ,Nat.div_div_eq_div_mul,Nat.div_div_eq_div_mul,Nat.mul_assoc]
  rw [e1,e2]
  omega
theorem isq_self (n:Nat):isq n ≤ n:=by
  have:=isq_le n
  rcases Nat.eq_zero_or_pos (isq n) with h | h
  · omega
  · have:=Nat.le_mul_of_pos_left (isq n) h
    omega
theorem add_word {x w:Nat} (hx:x < (2 ^ 64) ^ 4900) (hw:w < 2 ^ 64):T168 (Dw x,((w:Int) :: []),()) = some (Dw (x + w),()):=by
  have hx5:x < (2 ^ 64) ^ 5000:=Nat.lt_of_lt_of_le hx (Nat.pow_le_pow_right (by decide) (by decide))
  have h1:(dg (2 ^ 64) x).length ≤ 5000:=dg_len_le (by decide) _ _ hx5
  have:=T168_eq (dg (2 ^ 64) x) [w] (Dw_ws hx5) ⟨by simpa using hw,by simp⟩ (by omega) (by simp)
  rw [nv_Dw,show nv (2 ^ 64) [w] = w by simp [nv]] at this
  exact this
theorem W320_eq {n:Nat} (hn:n < 2 ^ 65536) (j:Nat) (hj:j ≤ 100000) (hnj:n < 2 ^ (2 * j)) :
    W320_5 (((Dw n,((j:Int),([],([],())))),()):Pat.D P320_5) = some (.inl ((Dw (isq n),(Dw (n - isq n * isq n),())),())):=by
  have hbig:∀ x:Nat,x ≤ n → x * 2 ^ 2 + 4 < (2 ^ 64) ^ 4900:=fun x hx=>by
    have h1:x * 2 ^ 2 + 4 < 2 ^ 65536 * 2 ^ 3:=by omega
    rw [← Nat.pow_add] at h1
    rw [← Nat.pow_mul]
    exact Nat.lt_of_lt_of_le h1 (Nat.pow_le_pow_right (by decide) (by decide))
  have hup:∀ {x:Nat},x < (2 ^ 64) ^ 4900 → x < (2 ^ 64) ^ 5000:=fun h=>Nat.lt_of_lt_of_le h (Nat.pow_le_pow_right (by decide) (by decide))
  have hn5:n < (2 ^ 64) ^ 5000:=by
    rw [← Nat.pow_mul]
    exact Nat.lt_of_lt_of_le hn (Nat.pow_le_pow_right (by decide) (by decide))
  have key:=lfix_ind (m320_5 S163.pre S163.F S138.pre S138.F S167.pre S167.F S181.pre S181.F S166.pre S166.F S188.pre S188.F S168.pre S168.F) (fun x=>x.1.2.1.toNat)
    (fun x=>∃ i:Nat,i ≤ j ∧ x = ((Dw n,((i:Int),(Dw (isq (n / 2 ^ (2 * i))),(Dw (n / 2 ^ (2 * i) - isq (n / 2 ^ (2 * i)) * isq (n / 2 ^ (2 * i))),())))),()))
    (fun _=>.inl ((Dw (isq n),(Dw (n - isq n * isq n),())),())) ?_ ((Dw n,((j:Int),([],([],())))),()) ⟨j,Nat.le_refl _,by
      have:isq 0 = 0:=isq_of (by decide) (by decide)
      rw [Nat.div_eq_of_lt hnj,this,Nat.zero_mul,Nat.sub_self,Dw_zero]⟩
  · exact key
  intro L x hx hL
  obtain ⟨i,hi,rfl⟩:=hx
  unfold h320_5
  rcases i with _ | i
  · have e0:decide (((0:Nat):Int) > 0) = false:=rfl
    dsimp only
    simp only [e0,cond_false,Nat.mul_zero,Nat.pow_zero,Nat.div_one]
  · have hN:=two_bits n i
    have hb1:n / 2 ^ (2 * i + 1) % 2 < 2:=Nat.mod_lt _ (by decide)
    have hb0:n / 2 ^ (2 * i) % 2 < 2:=Nat.mod_lt _ (by decide)
    have q1:=T167_dw hn5 (2 * i + 1) (by omega)
    have q0:=T167_dw hn5 (2 * i) (by omega)
    have hMn:n / 2 ^ (2 * i) ≤ n:=Nat.div_le_self _ _
    have hNn:n / 2 ^ (2 * (i + 1)) ≤ n:=Nat.div_le_self _ _
    generalize n / 2 ^ (2 * i + 1) % 2 = b1 at *
    generalize hb0e:n / 2 ^ (2 * i) % 2 = b0 at *
    generalize hNd:n / 2 ^ (2 * (i + 1)) = N at *
    have hst:=isq_step N (2 * b1 + b0) (by omega)
    rw [← hN] at hst
    have hrN:=isq_self N
    have hrr:=isq_le N
    have hle:=isq_le (n / 2 ^ (2 * i))
    rw [hst] at hle
    have e0:decide (((i + 1:Nat):Int) > 0) = true:=decide_eq_true (by omega)
    have e8:IntKind.wrap .i64 (2 * ((i + 1:Nat):Int)) = ((2 * i + 2:Nat):Int):=by rw [wrapI (by omega)]; omega
    have e9:IntKind.wrap .i64 (((2 * i + 2:Nat):Int) - 1) = ((2 * i + 1:Nat):Int):=by rw [wrapI (by omega)]; omega
    have e10:IntKind.wrap .i64 (((2 * i + 2:Nat):Int) - 2) = ((2 * i:Nat):Int):=by rw [wrapI (by omega)]; omega
    have e11:IntKind.wrap .u64 (IntKind.wrap .u64 (2 * (b1:Int)) + (b0:Int)) = ((2 * b1 + b0:Nat):Int):=by
      rw [wrapU (n:=2 * (b1:Int)) (by omega),wrapU (by omega)]; omega
    have e12:IntKind.wrap .i64 (((i + 1:Nat):Int) - 1) = (i:Int):=by rw [wrapI (by omega)]; omega
    have hw64:2 * b1 + b0 < 2 ^ 64:=by omega
    generalize hr:isq N = r at *
    generalize hS:r * r = S at *
    have b1b:=hbig (N - S) (by omega)
    have b2b:=hbig r (by omega)
    have s1:=T181_eq (x:=N - S) (hup (by omega)) 2 (by decide)
    have s2:=T181_eq (x:=r) (hup (by omega)) 2 (by decide)
    have s3:=T181_eq (x:=r) (hup (by omega)) 1 (by decide)
    rw [show ((2:Nat):Int) = 2 from rfl] at s1 s2
    rw [show ((1:Nat):Int) = 1 from rfl] at s3
    have a1:=add_word (x:=(N - S) * 2 ^ 2) (by omega) hw64
    have a2:=add_word (x:=r * 2 ^ 2) (w:=1) (by omega) (by decide)
    have a3:=add_word (x:=r * 2 ^ 1) (w:=1) (by omega) (by decide)
    rw [show ((1:Nat):Int) = 1 from rfl] at a2 a3
    have c1:=T166_eq (x:=(N - S) * 2 ^ 2 + (2 * b1 + b0)) (y:=r * 2 ^ 2 + 1) (hup (by omega)) (hup (by omega))
    dsimp only
    simp only [e0,e8,e9,e10,e12,cond_true,pre181 s1,fun181 s1,pre167 q1,fun167 q1,pre167 q0,fun167 q0,e11,pre168 a1,fun168 a1,pre181 s2,fun181 s2,pre168 a2,fun168 a2,pre181 s3,fun181 s3,pre166 c1,fun166 c1]
    have hcmp:decide ((if (N - S) * 2 ^ 2 + (2 * b1 + b0) = r * 2 ^ 2 + 1 then (0:Int) else if (N - S) * 2 ^ 2 + (2 * b1 + b0) < r * 2 ^ 2 + 1 then -1 else 1) ≥ 0) = decide (4 * r + 1 ≤ 4 * (N - S) + (2 * b1 + b0)):=by
      rw [Bool.eq_iff_iff,decide_eq_true_eq,decide_eq_true_eq]
      split
      · omega
      · split <;> omega
    rw [hcmp]
    have e2r:2 * r * (2 * r) = 4 * S:=by rw [mul_sq,hS]
    by_cases hge:4 * r + 1 ≤ 4 * (N - S) + (2 * b1 + b0)
    · rw [if_pos hge] at hst hle
      have f1:=T188_eq (x:=(N - S) * 2 ^ 2 + (2 * b1 + b0)) (y:=r * 2 ^ 2 + 1) (hup (by omega)) (by omega)
      simp only [decide_eq_true hge,cond_true,pre188 f1,fun188 f1,pre168 a3,fun168 a3]
      refine hL _ ⟨i,by omega,?_⟩ (by simp only [Int.toNat_natCast]; omega)
      have g1:r * 2 ^ 1 + 1 = isq (n / 2 ^ (2 * i)):=by rw [hst]; omega
      have g2:(N - S) * 2 ^ 2 + (2 * b1 + b0) - (r * 2 ^ 2 + 1) = n / 2 ^ (2 * i) - isq (n / 2 ^ (2 * i)) * isq (n / 2 ^ (2 * i)):=by
        have e3:(2 * r + 1) * (2 * r + 1) = 4 * S + 4 * r + 1:=by rw [Nat.mul_add,Nat.add_mul,e2r]; omega
        rw [hst,e3,hN]; omega
      rw [g1,g2]
    · rw [if_neg hge] at hst hle
      simp only [decide_eq_false hge,cond_false]
      refine hL _ ⟨i,by omega,?_⟩ (by simp only [Int.toNat_natCast]; omega)
      have g1:r * 2 ^ 1 = isq (n / 2 ^ (2 * i)):=by rw [hst]; omega
      have g2:(N - S) * 2 ^ 2 + (2 * b1 + b0) = n / 2 ^ (2 * i) - isq (n / 2 ^ (2 * i)) * isq (n / 2 ^ (2 * i)):=by
        rw [hst,e2r,hN]; omega
      rw [g1,g2]
theorem T320_eq {n:Nat} (hn:n < 2 ^ 65536):T320 (Dw n,()) = some (Dw (isq n),decide (isq n * isq n = n),0,()):=by
  show t320 S163.pre S163.F S138.pre S138.F S167.pre S167.F S181.pre S181.F S166.pre S166.F S188.pre S188.F S168.pre S168.F W320_5 (Dw n) = _
  unfold t320
  have hn5:n < (2 ^ 64) ^ 5000:=by
    rw [← Nat.pow_mul]
    exact Nat.lt_of_lt_of_le hn (Nat.pow_le_pow_right (by decide) (by decide))
  have hlen:(dg (2 ^ 64) n).length ≤ 1024:=dg_len_le (by decide) _ _ (by rw [← Nat.pow_mul]; exact hn)
  have p0:=T163_dw hn5
  have p1:=T138_dw hn5
  have hb:=blen_bound hn
  have e0:decide (((dg (2 ^ 64) n).length:Int) > 1024) = false:=decide_eq_false (by omega)
  have e1:IntKind.wrap .i64 ((blen n:Int) + 1) = ((blen n + 1:Nat):Int):=by rw [wrapI (by omega)]; omega
  have e2:quoI .i64 ((blen n + 1:Nat):Int) 2 = (((blen n + 1) / 2:Nat):Int):=quo2i _ (by omega)
  have hw:=W320_eq hn ((blen n + 1) / 2) (by omega) (Nat.lt_of_lt_of_le (blen_lt n) (Nat.pow_le_pow_right (by decide) (by omega)))
  have hle:=isq_le n
  simp only [pre163 p0,fun163 p0,pre138 p1,fun138 p1,cond_true,e0,cond_false,e1,e2,hw]
  show some (Dw (isq n),(((Dw (n - isq n * isq n)).length:Int) == 0),0,()) = _
  rw [Dw_len0]
  congr 3
  rw [Bool.eq_iff_iff,decide_eq_true_eq,decide_eq_true_eq]
  omega
theorem nans1 {f:Int} (hf:Fm f) {a:Nat} (ha:a < 2 ^ 64):T56 (f,((a:Int) :: []),()) = some (nan f a,(bif snan f a then 1 else 0),()):=by
  have p1:=T56_eq hf [a] (fun b hb=>by rw [List.mem_singleton] at hb; omega) (show (1:Nat) < 1000000 by decide)
  rw [show nans f [a] = (nan f a,(bif snan f a then 1 else 0),()) by unfold nans; simp] at p1
  exact p1
theorem T319_eq {f:Int} {a:Nat} (h:chk f a = 0):T319 (f,(a:Int),()) = some (sF f a && !zro f a,()):=by
  obtain ⟨hf,h0⟩:=chk_zero h
  have ha:=pat_lt h
  show t319 S59.pre S59.F S86.pre S86.F f a = _
  unfold t319
  have p4:=T86_eq hf ha
  have p6:=T59_eq hf ha
  have hsg:((sgn f a:Int) == 1) = sF f a:=by
    rw [← sgn_eq h,Bool.eq_iff_iff,beq_iff_eq,beq_iff_eq]; omega
  simp only [pre86 p4,fun86 p4,pre59 p6,fun59 p6,hsg,cond_true,Bool.true_or]
  rfl
end VL
namespace VL
open Go Vx
theorem dig_test {q r yn1 yn0 u u1:Nat} (hq:q * yn1 + r = u):(2 ^ 32 * r + u1 < q * yn0) ↔ u * 2 ^ 32 + u1 < q * (yn1 * 2 ^ 32 + yn0):=by
  rw [Nat.mul_add,← Nat.mul_assoc,← hq,Nat.add_mul]
  omega
theorem dig_cond {q r yn1 yn0 u u1:Nat} (hq:q * yn1 + r = u) (hr:r < 2 ^ 32) (h0:yn0 < 2 ^ 32) (hu1:u1 < 2 ^ 32) (hlt:u < yn1 * 2 ^ 32 + yn0) :
    (decide ((q:Int) ≥ 4294967296) || decide (IntKind.wrap .u64 ((q:Int) * (yn0:Int)) > IntKind.wrap .u64 (IntKind.wrap .u64 ((4294967296:Int) * (r:Int)) + (u1:Int)))) = decide (u * 2 ^ 32 + u1 < q * (yn1 * 2 ^ 32 + yn0)):=by
  rcases Nat.lt_or_ge q (2 ^ 32) with h | h
  · have hm:q * yn0 ≤ (2 ^ 32 - 1) * (2 ^ 32 - 1):=Nat.mul_le_mul (by omega) (by omega)
    have e1:IntKind.wrap .u64 ((q:Int) * (yn0:Int)) = ((q * yn0:Nat):Int):=wu_mul _ _ (by omega)
    have e2:IntKind.wrap .u64 ((4294967296:Int) * (r:Int)) = ((2 ^ 32 * r:Nat):Int):=wu_mul (2 ^ 32) r (by omega)
    have e3:IntKind.wrap .u64 (((2 ^ 32 * r:Nat):Int) + (u1:Int)) = ((2 ^ 32 * r + u1:Nat):Int):=wu_add _ _ (by omega)
    have e4:decide ((q:Int) ≥ 4294967296) = false:=decide_eq_false (by omega)
    rw [e1,e2,e3,e4,Bool.false_or,Bool.eq_iff_iff,decide_eq_true_eq,decide_eq_true_eq,← dig_test hq]
    omega
  · have e4:decide ((q:Int) ≥ 4294967296) = true:=decide_eq_true (by omega)
    have hm:2 ^ 32 * (yn1 * 2 ^ 32 + yn0) ≤ q * (yn1 * 2 ^ 32 + yn0):=Nat.mul_le_mul_right _ h
    rw [e4,Bool.true_or,decide_eq_true (by omega)]
theorem dig_start {yn1 yn0 u u1:Nat} (hy:0 < yn1) (hu1:u1 < 2 ^ 32):u * 2 ^ 32 + u1 < (u / yn1 + 1) * (yn1 * 2 ^ 32 + yn0):=by
  have h1:u < (u / yn1 + 1) * yn1:=by
    have:=Nat.lt_div_mul_add hy (a:=u)
    rw [Nat.add_mul,Nat.one_mul]; exact this
  rw [Nat.mul_add,← Nat.mul_assoc]
  omega
theorem dig_down {q r yn1 yn0 u u1:Nat} (hq:q * yn1 + r = u) (h:u * 2 ^ 32 + u1 < q * (yn1 * 2 ^ 32 + yn0)):1 ≤ q ∧ (q - 1) * yn1 + (r + yn1) = u:=by
  have h1:1 ≤ q:=by
    rcases Nat.eq_zero_or_pos q with h0 | h0
    · rw [h0,Nat.zero_mul] at h; omega
    · exact h0
  refine ⟨h1,?_⟩
  obtain ⟨p,rfl⟩:∃ p,q = p + 1:=⟨q - 1,by omega⟩
  rw [Nat.add_mul,Nat.one_mul] at hq
  rw [show p + 1 - 1 = p by omega]
  omega
theorem dig_break {q r yn1 yn0 u u1:Nat} (hq:q * yn1 + r = u) (hr:2 ^ 32 ≤ r) (h0:yn0 < 2 ^ 32) (hlt:u < yn1 * 2 ^ 32 + yn0):q * (yn1 * 2 ^ 32 + yn0) ≤ u * 2 ^ 32 + u1:=by
  have h1:q * yn1 < 2 ^ 32 * yn1:=by omega
  have h2:q < 2 ^ 32:=Nat.lt_of_mul_lt_mul_right h1
  have h3:q * yn0 ≤ 2 ^ 32 * (2 ^ 32 - 1):=Nat.mul_le_mul (by omega) (by omega)
  have h4:¬ 2 ^ 32 * r + u1 < q * yn0:=by omega
  rw [dig_test hq] at h4
  omega
theorem div_is {a b q:Nat} (h1:q * b ≤ a) (h2:a < (q + 1) * b):a / b = q:=Nat.div_eq_of_lt_le h1 h2
theorem W328a_eq {u u1 yn0 yn1:Nat} (h0:yn0 < 2 ^ 32) (h1:yn1 < 2 ^ 32) (hy:0 < yn1) (hu1:u1 < 2 ^ 32) (hlt:u < yn1 * 2 ^ 32 + yn0) (u0 y s:Int) :
    W328_17 ((((u % yn1:Nat):Int),((u:Int),((u1:Int),((yn0:Int),((yn1:Int),(((u / yn1:Nat):Int),(u0,(y,(s,()))))))))),()) =
      some (.inl (((u:Int),((u1:Int),((yn0:Int),((yn1:Int),((((u * 2 ^ 32 + u1) / (yn1 * 2 ^ 32 + yn0):Nat):Int),(u0,(y,(s,())))))))),())):=by
  have key:=lfix_ind (m328_17 S327.pre S327.F) (fun x=>x.1.2.2.2.2.2.1.toNat)
    (fun x=>∃ q r:Nat,q * yn1 + r = u ∧ r < 2 ^ 32 ∧ u * 2 ^ 32 + u1 < (q + 1) * (yn1 * 2 ^ 32 + yn0) ∧ x = (((r:Int),((u:Int),((u1:Int),((yn0:Int),((yn1:Int),((q:Int),(u0,(y,(s,()))))))))),()))
    (fun _=>.inl (((u:Int),((u1:Int),((yn0:Int),((yn1:Int),((((u * 2 ^ 32 + u1) / (yn1 * 2 ^ 32 + yn0):Nat):Int),(u0,(y,(s,())))))))),())) ?_ _
    ⟨u / yn1,u % yn1,by rw [Nat.mul_comm]; exact Nat.div_add_mod u yn1,Nat.lt_trans (Nat.mod_lt _ hy) h1,dig_start hy hu1,rfl⟩
  · exact key
  intro L x hx hL
  obtain ⟨q,r,hq,hr,hup,rfl⟩:=hx
  unfold h328_17
  have hqu:q ≤ u:=by
    have:=Nat.le_mul_of_pos_right q hy
    omega
  dsimp only
  rw [dig_cond hq hr h0 hu1 hlt]
  by_cases hc:u * 2 ^ 32 + u1 < q * (yn1 * 2 ^ 32 + yn0)
  · obtain ⟨d1,d2⟩:=dig_down hq hc
    have e1:IntKind.wrap .u64 ((q:Int) - 1) = ((q - 1:Nat):Int):=by rw [wrapU (by omega)]; omega
    have e2:IntKind.wrap .u64 ((r:Int) + (yn1:Int)) = ((r + yn1:Nat):Int):=wu_add _ _ (by omega)
    rw [decide_eq_true hc,cond_true,e1,e2]
    by_cases hb:2 ^ 32 ≤ r + yn1
    · have e3:decide (((r + yn1:Nat):Int) ≥ 4294967296) = true:=decide_eq_true (by omega)
      rw [e3,cond_true]
      have:=dig_break (u1:=u1) d2 hb h0 hlt
      rw [div_is this (by rw [show q - 1 + 1 = q by omega]; exact hc)]
    · have e3:decide (((r + yn1:Nat):Int) ≥ 4294967296) = false:=decide_eq_false (by omega)
      rw [e3,cond_false]
      exact hL _ ⟨q - 1,r + yn1,d2,by omega,by rw [show q - 1 + 1 = q by omega]; exact hc,rfl⟩ (by simp only [Int.toNat_natCast]; omega)
  · rw [decide_eq_false hc,cond_false,div_is (by omega) hup]
theorem W328b_eq {u u1 yn0 yn1:Nat} (h0:yn0 < 2 ^ 32) (h1:yn1 < 2 ^ 32) (hy:0 < yn1) (hu1:u1 < 2 ^ 32) (hlt:u < yn1 * 2 ^ 32 + yn0) (q1 y s:Int) :
    W328_24 (((yn0:Int),(((u % yn1:Nat):Int),((yn1:Int),(q1,((u:Int),((u1:Int),(((u / yn1:Nat):Int),(y,(s,()))))))))),()) =
      some (.inl ((q1,((u:Int),((u1:Int),((((u * 2 ^ 32 + u1) / (yn1 * 2 ^ 32 + yn0):Nat):Int),(y,(s,())))))),())):=by
  have key:=lfix_ind (m328_24 S327.pre S327.F) (fun x=>x.1.2.2.2.2.2.2.1.toNat)
    (fun x=>∃ q r:Nat,q * yn1 + r = u ∧ r < 2 ^ 32 ∧ u * 2 ^ 32 + u1 < (q + 1) * (yn1 * 2 ^ 32 + yn0) ∧ x = (((yn0:Int),((r:Int),((yn1:Int),(q1,((u:Int),((u1:Int),((q:Int),(y,(s,()))))))))),()))
    (fun _=>.inl ((q1,((u:Int),((u1:Int),((((u * 2 ^ 32 + u1) / (yn1 * 2 ^ 32 + yn0):Nat):Int),(y,(s,())))))),())) ?_ _
    ⟨u / yn1,u % yn1,by rw [Nat.mul_comm]; exact Nat.div_add_mod u yn1,Nat.lt_trans (Nat.mod_lt _ hy) h1,dig_start hy hu1,rfl⟩
  · exact key
  intro L x hx hL
  obtain ⟨q,r,hq,hr,hup,rfl⟩:=hx
  unfold h328_24
  have hqu:q ≤ u:=by
    have:=Nat.le_mul_of_pos_right q hy
    omega
  dsimp only
  rw [dig_cond hq hr h0 hu1 hlt]
  by_cases hc:u * 2 ^ 32 + u1 < q * (yn1 * 2 ^ 32 + yn0)
  · obtain ⟨d1,d2⟩:=dig_down hq hc
    have e1:IntKind.wrap .u64 ((q:Int) - 1) = ((q - 1:Nat):Int):=by rw [wrapU (by omega)]; omega
    have e2:IntKind.wrap .u64 ((r:Int) + (yn1:Int)) = ((r + yn1:Nat):Int):=wu_add _ _ (by omega)
    rw [decide_eq_true hc,cond_true,e1,e2]
    by_cases hb:2 ^ 32 ≤ r + yn1
    · have e3:decide (((r + yn1:Nat):Int) ≥ 4294967296) = true:=decide_eq_true (by omega)
      rw [e3,cond_true]
      have:=dig_break (u1:=u1) d2 hb h0 hlt
      rw [div_is this (by rw [show q - 1 + 1 = q by omega]; exact hc)]
    · have e3:decide (((r + yn1:Nat):Int) ≥ 4294967296) = false:=decide_eq_false (by omega)
      rw [e3,cond_false]
      exact hL _ ⟨q - 1,r + yn1,d2,by omega,by rw [show q - 1 + 1 = q by omega]; exact hc,rfl⟩ (by simp only [Int.toNat_natCast]; omega)
  · rw [decide_eq_false hc,cond_false,div_is (by omega) hup]
theorem div_digits {A y u32 u1 u0 q1 r1 q0 r0:Nat} (hA:A = (u32 * 2 ^ 32 + u1) * 2 ^ 32 + u0) (h1:u32 * 2 ^ 32 + u1 = q1 * y + r1) (h2:r1 * 2 ^ 32 + u0 = q0 * y + r0) (hr:r0 < y) :
    A / y = q1 * 2 ^ 32 + q0 ∧ A % y = r0:=by
  have e:A = (q1 * 2 ^ 32 + q0) * y + r0:=by
    rw [hA,h1,Nat.add_mul,Nat.add_mul,Nat.mul_right_comm]; omega
  have hy:0 < y:=by omega
  rw [e,Nat.mul_comm _ y]
  exact ⟨by rw [Nat.mul_add_div hy,Nat.div_eq_of_lt hr,Nat.add_zero],by rw [Nat.mul_add_mod,Nat.mod_eq_of_lt hr]⟩
theorem split64 (U X:Nat):U * 2 ^ 64 + X = (U * 2 ^ 32 + X / 2 ^ 32) * 2 ^ 32 + X % 2 ^ 32:=by omega
theorem orL {a b k:Nat} (ha:a < 2 ^ k) (h:b * 2 ^ k + a < 2 ^ 64):orI .u64 ((b * 2 ^ k:Nat):Int) (a:Int) = ((b * 2 ^ k + a:Nat):Int):=by
  rw [orN2 (by omega) (by omega)]
  congr 1
  have:=Nat.two_pow_add_eq_or_of_lt ha b
  rw [Nat.mul_comm b,← this]
theorem T327_eq {n:Nat} (hn:n < 2 ^ 64):T327 ((n:Int),()) = some (((64 - blen n:Nat):Int),()):=by
  show t327 S178.pre S178.F (n:Int) = _
  unfold t327
  have p0:=T178_eq n hn
  have hb:=blen_bound hn
  have e:IntKind.wrap .i64 ((64:Int) - (blen n:Int)) = ((64 - blen n:Nat):Int):=by rw [wrapI (by omega)]; omega
  simp only [pre178 p0,fun178 p0,cond_true,e]
theorem T328_eq {hi lo y:Nat} (hlo:lo < 2 ^ 64) (hy:y < 2 ^ 64) (hlt:hi < y) :
    T328 ((hi:Int),(lo:Int),(y:Int),()) = some ((((hi * 2 ^ 64 + lo) / y:Nat):Int),(((hi * 2 ^ 64 + lo) % y:Nat):Int),()):=by
  have hy0:0 < y:=by omega
  show t328 S327.pre S327.F W328_17 W328_24 (hi:Int) (lo:Int) (y:Int) = _
  unfold t328
  have hbl:=blen_bound hy
  have hbl1:=blen_pos (n:=y) (by omega)
  have p0:=T327_eq hy
  generalize hs:64 - blen y = s at *
  have e9:IntKind.wrap .u64 (s:Int) = (s:Int):=wu_id _ (by omega)
  have e10:IntKind.wrap .u64 ((64:Int) - (s:Int)) = ((64 - s:Nat):Int):=by rw [wrapU (by omega)]; omega
  have g0:((y:Int) == 0) = false:=beq0_f _ (by omega)
  have g1:decide ((y:Int) ≤ (hi:Int)) = false:=decide_eq_false (by omega)
  have g2:((y:Int) != 0) = true:=bne0_t _ (by omega)
  dsimp only
  simp only [g0,g1,g2,cond_false,cond_true,pre327 p0,fun327 p0,e9,e10]
  by_cases hh:hi = 0
  · subst hh
    have e1:(((0:Nat):Int) == 0) = true:=rfl
    rw [e1,cond_true,quoM _ _ hlo hy0,Nat.zero_mul,Nat.zero_add]
    rfl
  have e1:((hi:Int) == 0) = false:=beq0_f _ hh
  rw [e1,cond_false]
  have hp:=Nat.two_pow_pos s
  -- the scaled divisor
  have hyl:=blen_le (n:=y) (by omega)
  have hyu:=blen_lt y
  have hY1:y * 2 ^ s < 2 ^ 64:=by
    have:y * 2 ^ s < 2 ^ blen y * 2 ^ s:=Nat.mul_lt_mul_of_pos_right hyu hp
    rw [← Nat.pow_add,show blen y + s = 64 by omega] at this
    exact this
  have hY2:2 ^ 63 ≤ y * 2 ^ s:=by
    have:2 ^ (blen y - 1) * 2 ^ s ≤ y * 2 ^ s:=Nat.mul_le_mul_right _ hyl
    rw [← Nat.pow_add,show blen y - 1 + s = 63 by omega] at this
    exact this
  have hH:hi * 2 ^ s < y * 2 ^ s:=Nat.mul_lt_mul_of_pos_right hlt hp
  have hlos:lo / 2 ^ (64 - s) < 2 ^ s:=by
    rw [Nat.div_lt_iff_lt_mul (Nat.two_pow_pos _),← Nat.pow_add,show s + (64 - s) = 64 by omega]
    exact hlo
  have e264:2 ^ 64 = 2 ^ s * 2 ^ (64 - s):=by rw [← Nat.pow_add]; congr 1; omega
  have hU:hi * 2 ^ s + lo / 2 ^ (64 - s) < y * 2 ^ s:=by
    have h1:(hi + 1) * 2 ^ s ≤ y * 2 ^ s:=Nat.mul_le_mul_right _ hlt
    rw [Nat.add_mul,Nat.one_mul] at h1
    omega
  have hsc:(hi * 2 ^ 64 + lo) * 2 ^ s = (hi * 2 ^ s + lo / 2 ^ (64 - s)) * 2 ^ 64 + lo * 2 ^ s % 2 ^ 64:=by
    have h1:lo * 2 ^ s = lo * 2 ^ s / 2 ^ 64 * 2 ^ 64 + lo * 2 ^ s % 2 ^ 64:=by
      have:=Nat.div_add_mod (lo * 2 ^ s) (2 ^ 64)
      omega
    have h2:lo * 2 ^ s / 2 ^ 64 = lo / 2 ^ (64 - s):=by
      rw [e264,Nat.mul_comm lo,Nat.mul_div_mul_left _ _ hp]
    rw [h2] at h1
    rw [Nat.add_mul,Nat.add_mul,Nat.mul_right_comm]
    omega
  have s1:=shlN hi s (by omega)
  have s2:=shrN lo (64 - s) (by omega)
  have s3:=shlN y s (by omega)
  have s4:=shlN lo s (by omega)
  rw [Nat.mod_eq_of_lt (by omega)] at s1 s3
  have hY32:y * 2 ^ s / 2 ^ 32 * 2 ^ 32 + y * 2 ^ s % 2 ^ 32 = y * 2 ^ s:=by omega
  have hdiv:(hi * 2 ^ 64 + lo) * 2 ^ s / (y * 2 ^ s) = (hi * 2 ^ 64 + lo) / y:=Nat.mul_div_mul_right _ _ hp
  have hmod:(hi * 2 ^ 64 + lo) * 2 ^ s % (y * 2 ^ s) = (hi * 2 ^ 64 + lo) % y * 2 ^ s:=Nat.mul_mod_mul_right _ _ _
  have hX:lo * 2 ^ s % 2 ^ 64 < 2 ^ 64:=Nat.mod_lt _ (by decide)
  have s5:=orL (b:=hi) hlos (by omega)
  rw [s1,s2,s3,s4,s5]
  have hq64:(hi * 2 ^ 64 + lo) / y < 2 ^ 64:=by
    rw [Nat.div_lt_iff_lt_mul hy0]
    have:(hi + 1) * 2 ^ 64 ≤ y * 2 ^ 64:=Nat.mul_le_mul_right _ hlt
    omega
  rw [hsc] at hdiv hmod
  generalize hi * 2 ^ s + lo / 2 ^ (64 - s) = U at *
  generalize lo * 2 ^ s % 2 ^ 64 = X at *
  generalize hYd:y * 2 ^ s = Y at *
  rw [s32 Y,s32 X,a32 hY1,a32 hX]
  have hYY1:Y / 2 ^ 32 < 2 ^ 32:=by omega
  have hYY0:Y % 2 ^ 32 < 2 ^ 32:=by omega
  have hYp:0 < Y / 2 ^ 32:=by omega
  have g3:(((Y / 2 ^ 32:Nat):Int) != 0) = true:=bne0_t _ (by omega)
  have hrem:∀ V:Nat,V < 2 ^ 64 → IntKind.wrap .u64 ((V:Int) - IntKind.wrap .u64 (((V / (Y / 2 ^ 32):Nat):Int) * ((Y / 2 ^ 32:Nat):Int))) = ((V % (Y / 2 ^ 32):Nat):Int):=fun V hV=>by
    have hdm:=Nat.div_add_mod V (Y / 2 ^ 32)
    rw [Nat.mul_comm] at hdm
    rw [wu_mul _ _ (by omega)]
    generalize V / (Y / 2 ^ 32) * (Y / 2 ^ 32) = z at *
    generalize V % (Y / 2 ^ 32) = w at *
    rw [wrapU (by omega)]
    omega
  rw [g3,cond_true,quoM _ _ (by omega) hYp,hrem U (by omega)]
  have w1:=W328a_eq hYY0 hYY1 hYp (show X / 2 ^ 32 < 2 ^ 32 by omega) (u:=U) (by omega) ((X % 2 ^ 32:Nat):Int) (Y:Int) (s:Int)
  rw [w1,hY32]
  show (bif (((Y / 2 ^ 32:Nat):Int) != 0) then _ else _) = _
  rw [g3,cond_true]
  dsimp only
  have hd1:=Nat.div_add_mod (U * 2 ^ 32 + X / 2 ^ 32) Y
  have hr1:=Nat.mod_lt (U * 2 ^ 32 + X / 2 ^ 32) (show 0 < Y by omega)
  have hq1:(U * 2 ^ 32 + X / 2 ^ 32) / Y < 2 ^ 32:=by
    rw [Nat.div_lt_iff_lt_mul (by omega)]
    have:(U + 1) * 2 ^ 32 ≤ Y * 2 ^ 32:=Nat.mul_le_mul_right _ hU
    omega
  have hrem2:∀ a b c q r:Nat,a * 2 ^ 32 + b = Y * q + r → r < Y → IntKind.wrap .u64 (IntKind.wrap .u64 (IntKind.wrap .u64 ((a:Int) * 4294967296) + (b:Int)) - IntKind.wrap .u64 ((q:Int) * (Y:Int))) = (r:Int):=fun a b _ q r h1 h2=>by
    have e:(q:Int) * (Y:Int) = ((Y * q:Nat):Int):=by rw [Int.natCast_mul,Int.mul_comm]
    rw [e]
    generalize Y * q = z at *
    show ((((a:Int) * 4294967296) % 18446744073709551616 + (b:Int)) % 18446744073709551616 - ((z:Int) % 18446744073709551616)) % 18446744073709551616 = (r:Int)
    omega
  rw [hrem2 U (X / 2 ^ 32) 0 _ _ hd1.symm hr1]
  clear w1
  obtain ⟨q1,hQ1⟩:∃ q,q = (U * 2 ^ 32 + X / 2 ^ 32) / Y:=⟨_,rfl⟩
  obtain ⟨r1,hR1⟩:∃ q,q = (U * 2 ^ 32 + X / 2 ^ 32) % Y:=⟨_,rfl⟩
  rw [← hQ1] at hd1 hq1
  rw [← hR1] at hd1 hr1
  rw [← hQ1,← hR1]
  rw [quoM _ _ (by omega) hYp,hrem r1 (by omega)]
  have w2:=W328b_eq hYY0 hYY1 hYp (show X % 2 ^ 32 < 2 ^ 32 by omega) (u:=r1) (by omega) (q1:Int) (Y:Int) (s:Int)
  rw [w2,hY32]
  show some (_,(_,())) = _
  dsimp only
  have hd2:=Nat.div_add_mod (r1 * 2 ^ 32 + X % 2 ^ 32) Y
  have hr2:=Nat.mod_lt (r1 * 2 ^ 32 + X % 2 ^ 32) (show 0 < Y by omega)
  have hq2:(r1 * 2 ^ 32 + X % 2 ^ 32) / Y < 2 ^ 32:=by
    rw [Nat.div_lt_iff_lt_mul (by omega)]
    have:(r1 + 1) * 2 ^ 32 ≤ Y * 2 ^ 32:=Nat.mul_le_mul_right _ hr1
    omega
  rw [hrem2 r1 (X % 2 ^ 32) 0 _ _ hd2.symm hr2]
  obtain ⟨q0,hQ0⟩:∃ q,q = (r1 * 2 ^ 32 + X % 2 ^ 32) / Y:=⟨_,rfl⟩
  obtain ⟨r0,hR0⟩:∃ q,q = (r1 * 2 ^ 32 + X % 2 ^ 32) % Y:=⟨_,rfl⟩
  rw [← hQ0] at hd2 hq2
  rw [← hR0] at hd2 hr2
  rw [← hQ0,← hR0]
  obtain ⟨f1,f2⟩:=div_digits (A:=U * 2 ^ 64 + X) (y:=Y) (u32:=U) (u1:=X / 2 ^ 32) (u0:=X % 2 ^ 32) (split64 U X) (by rw [Nat.mul_comm q1]; exact hd1.symm) (by rw [Nat.mul_comm q0]; exact hd2.symm) hr2
  rw [hdiv] at f1
  rw [hmod] at f2
  have e5:IntKind.wrap .u64 (IntKind.wrap .u64 ((q1:Int) * 4294967296) + (q0:Int)) = (((hi * 2 ^ 64 + lo) / y:Nat):Int):=by
    rw [f1]
    show ((((q1:Int) * 4294967296) % 18446744073709551616) + (q0:Int)) % 18446744073709551616 = _
    omega
  have e6:shrI .u64 (r0:Int) (s:Int) = (((hi * 2 ^ 64 + lo) % y:Nat):Int):=by
    rw [shrN _ _ (by omega),← f2,Nat.mul_div_cancel _ hp]
  rw [e5,e6]
end VL
namespace VL
open Go Vx
theorem lfix_ex {D Y:Type} {Φ:{R:Type} → (D → Option R) → (Y → Option R) → D → Option R} (hp:Par Φ) (μ:D → Nat) (I:D → Prop) (Q:Y → Prop)
    (h:∀ (L:D → Option Y) x,I x → (∀ x',I x' → μ x' < μ x → ∃ y,L x' = some y ∧ Q y) → ∃ y,Φ L some x = some y ∧ Q y):∀ x,I x → ∃ y,lfix (fun L=>Φ L some) x = some y ∧ Q y:=by
  have key:∀ m x,I x → μ x < m → ∃ y,iter (fun L=>Φ L some) m x = some y ∧ Q y:=by
    intro m
    induction m with
    | zero=>intro x _ h; omega
    | succ m ih =>
      intro x hx hm
      simp only [iter]
      exact h _ x hx fun x' hx' hlt=>ih x' hx' (by omega)
  intro x hx
  obtain ⟨y,hy,hQ⟩:=key (μ x + 1) x hx (by omega)
  exact ⟨y,lfix_of hp hy,hQ⟩
theorem pow_up (i:Nat):(2 ^ 64) ^ (i + 1) = (2 ^ 64) ^ i * 2 ^ 64:=Nat.pow_succ ..
theorem win_get {A us C:List Nat} {i:Nat} (h:i < us.length):(Wd (A ++ us ++ C)).getD (A.length + i) 0 = ((us.getD i 0:Nat):Int):=by
  rw [Wd_getD]
  congr 1
  rw [List.getD_eq_getElem?_getD,List.getD_eq_getElem?_getD,List.append_assoc,List.getElem?_append_right (by omega),Nat.add_sub_cancel_left,List.getElem?_append_left h]
theorem win_set {A us C:List Nat} {i v:Nat} (h:i < us.length):(Wd (A ++ us ++ C)).set (A.length + i) (v:Int) = Wd (A ++ us.set i v ++ C):=by
  rw [Wd_set]
  congr 1
  rw [List.append_assoc,List.set_append_right _ _ (by omega),Nat.add_sub_cancel_left,List.set_append_left _ _ h,← List.append_assoc]
theorem digits_eq {out us:List Nat} {i:Nat} (hol:out.length = i) (hi:i < us.length):(out ++ us.drop i).getD i 0 = us.getD i 0:=by
  rw [List.getD_eq_getElem?_getD,List.getD_eq_getElem?_getD,List.getElem?_append_right (by omega),hol,Nat.sub_self,List.getElem?_drop,Nat.add_zero]
theorem mul_word {x y c:Nat} (hx:x < 2 ^ 64) (hy:y < 2 ^ 64) (hc:c < 2 ^ 64) :
    x * y + c = 2 ^ 64 * (x * y / 2 ^ 64 + (x * y % 2 ^ 64 + c) / 2 ^ 64) + (x * y % 2 ^ 64 + c) % 2 ^ 64 ∧ x * y / 2 ^ 64 + (x * y % 2 ^ 64 + c) / 2 ^ 64 < 2 ^ 64:=by
  have:x * y ≤ (2 ^ 64 - 1) * (2 ^ 64 - 1):=Nat.mul_le_mul (by omega) (by omega)
  generalize x * y = z at *
  omega
theorem sub_word {d l b:Nat} (hd:d < 2 ^ 64) (hl:l < 2 ^ 64) (hb:b ≤ 1) :
    (d + 2 ^ 64 - l - b) % 2 ^ 64 + l + b = d + 2 ^ 64 * (if d < l + b then 1 else 0) ∧ (d + 2 ^ 64 - l - b) % 2 ^ 64 < 2 ^ 64 ∧ (if d < l + b then 1 else 0) ≤ 1:=by
  split <;> omega
theorem take_step {P U V O x y c b d o l c' b':Nat} (h:O + x * V = U + P * (c + b)) (h1:x * y + c = 2 ^ 64 * c' + l) (h2:o + l + b = d + 2 ^ 64 * b') :
    O + P * o + x * (V + P * y) = U + P * d + P * 2 ^ 64 * (c' + b'):=by
  have h3:P * (c + b + o + x * y) = P * (d + 2 ^ 64 * (c' + b')):=by
    congr 1; omega
  rw [Nat.mul_add P,Nat.mul_add P,Nat.mul_add P d,← Nat.mul_assoc P (2 ^ 64)] at h3
  rw [Nat.mul_add x,Nat.mul_left_comm x P y]
  omega
theorem T330_eq (A us C v:List Nat) (hlen:us.length = v.length + 1) (hu:∀ x ∈ us,x < 2 ^ 64) (hv:∀ x ∈ v,x < 2 ^ 64) (hn:v.length ≤ 1000000) {x:Nat} (hx:x < 2 ^ 64) :
    ∃ out:List Nat,out.length = us.length ∧ (∀ z ∈ out,z < 2 ^ 64) ∧ nv (2 ^ 64) out + x * nv (2 ^ 64) v = nv (2 ^ 64) us + (if nv (2 ^ 64) us < x * nv (2 ^ 64) v then (2 ^ 64) ^ us.length else 0) ∧
      T330 ((Wd (A ++ us ++ C),(A.length,us.length)),(Wd v,((x:Int),()))) = some (Wd (A ++ out ++ C),decide (nv (2 ^ 64) us < x * nv (2 ^ 64) v),()):=by
  show ∃ out:List Nat,_ ∧ _ ∧ _ ∧ t330 S315.pre S315.F S155.pre S155.F S157.pre S157.F W330_3 (Wd (A ++ us ++ C),(A.length,us.length)) (Wd v) (x:Int) = _
  have key:=lfix_ex (m330_3 S315.pre S315.F S155.pre S155.F S157.pre S157.F) (fun s=>v.length - s.1.2.2.2.1.toNat)
    (fun s=>∃ (i:Nat) (out:List Nat) (c b:Nat),i ≤ v.length ∧ out.length = i ∧ (∀ z ∈ out,z < 2 ^ 64) ∧ c < 2 ^ 64 ∧ b ≤ 1 ∧ nv (2 ^ 64) out + x * nv (2 ^ 64) (v.take i) = nv (2 ^ 64) (us.take i) + (2 ^ 64) ^ i * (c + b) ∧
      s = (((v.length:Int),(Wd v,((x:Int),((i:Int),(Wd v,((A.length,us.length),((c:Int),((b:Int),())))))))),(Wd (A ++ (out ++ us.drop i) ++ C),())))
    (fun y=>∃ (out:List Nat) (c b:Nat),out.length = v.length ∧ (∀ z ∈ out,z < 2 ^ 64) ∧ c < 2 ^ 64 ∧ b ≤ 1 ∧ nv (2 ^ 64) out + x * nv (2 ^ 64) v = nv (2 ^ 64) (us.take v.length) + (2 ^ 64) ^ v.length * (c + b) ∧
      y = .inl ((Wd v,((A.length,us.length),((c:Int),((b:Int),())))),(Wd (A ++ (out ++ us.drop v.length) ++ C),()))) ?_
    (((v.length:Int),(Wd v,((x:Int),((0:Int),(Wd v,((A.length,us.length),((0:Int),((0:Int),())))))))),(Wd (A ++ us ++ C),()))
    ⟨0,[],0,0,Nat.zero_le _,rfl,(fun z hz=>by simp at hz),by decide,by decide,by simp [nv],rfl⟩
  · obtain ⟨y,hy,out,c,b,k1,k2,k3,k4,k5,rfl⟩:=key
    have hy:W330_3 (((v.length:Int),(Wd v,((x:Int),((0:Int),(Wd v,((A.length,us.length),((0:Int),((0:Int),())))))))),(Wd (A ++ us ++ C),())) = _:=hy
    have hlt:v.length < us.length:=by omega
    have hwl:(out ++ us.drop v.length).length = us.length:=by simp [k1]; omega
    have hdg:=digits_eq (us:=us) k1 hlt
    have hg:=win_get (A:=A) (C:=C) (us:=out ++ us.drop v.length) (i:=v.length) (by omega)
    rw [hdg] at hg
    have hst:=fun z=>win_set (A:=A) (C:=C) (us:=out ++ us.drop v.length) (i:=v.length) (v:=z) (by omega)
    have hsd:=fun z=>set_drop (a:=us) (v:=z) k1 hlt
    have hd:=getD_lt (by decide) hu v.length
    obtain ⟨w1,w2,w3⟩:=sub_word (d:=us.getD v.length 0) (l:=c) (b:=b) hd k3 k4
    have q1:=subF (us.getD v.length 0) c b k4 hd k3
    have q2:=subP ((us.getD v.length 0:Nat):Int) (c:Int) b k4
    have hnx:=nv_take_next (2 ^ 64) us v.length
    rw [List.take_of_length_le (show us.length ≤ v.length + 1 by omega)] at hnx
    have hnil:us.drop (v.length + 1) = []:=List.drop_of_length_le (by omega)
    unfold t330
    dsimp only
    rw [Wd_len,hy]
    have e0:decide ((0:Int) ≤ (v.length:Int)) = true:=decide_eq_true (by omega)
    have e1:decide ((v.length:Int) < (us.length:Int)) = true:=decide_eq_true (by omega)
    dsimp only [obind,obind2]
    simp only [e0,e1,Bool.and_self,cond_true,Wd_len,Int.toNat_natCast,hg,q2,q1,hst,hsd,hnil,List.append_nil]
    generalize us.getD v.length 0 = d at *
    generalize (d + 2 ^ 64 - c - b) % 2 ^ 64 = o at *
    have hO:nv (2 ^ 64) (out ++ [o]) + x * nv (2 ^ 64) v = nv (2 ^ 64) us + (2 ^ 64) ^ us.length * (if d < c + b then 1 else 0):=by
      rw [nv_snoc,k1,hnx,hlen,pow_up]
      have h3:(2 ^ 64) ^ v.length * (o + c + b) = (2 ^ 64) ^ v.length * (d + 2 ^ 64 * (if d < c + b then 1 else 0)):=by rw [w1]
      rw [Nat.mul_add,Nat.mul_add,Nat.mul_add _ d,← Nat.mul_assoc _ (2 ^ 64)] at h3
      rw [Nat.mul_add] at k5
      omega
    have hod:=app_lt k2 w2
    have hOl:=nv_lt (B:=2 ^ 64) (by decide) (out ++ [o]) hod
    have hol:(out ++ [o]).length = us.length:=by simp [k1]; omega
    rw [hol] at hOl
    by_cases hb:d < c + b
    · rw [if_pos hb,Nat.mul_one] at hO
      have hlt2:nv (2 ^ 64) us < x * nv (2 ^ 64) v:=by omega
      refine ⟨out ++ [o],hol,hod,by rw [if_pos hlt2]; exact hO,?_⟩
      rw [if_pos hb,decide_eq_true hlt2]; rfl
    · rw [if_neg hb,Nat.mul_zero,Nat.add_zero] at hO
      have hlt2:¬ nv (2 ^ 64) us < x * nv (2 ^ 64) v:=by omega
      refine ⟨out ++ [o],hol,hod,by rw [if_neg hlt2,Nat.add_zero]; exact hO,?_⟩
      rw [if_neg hb,decide_eq_false hlt2]; rfl
  intro L s hs hL
  obtain ⟨i,out,c,b,hi,hol,hod,hc,hb,hinv,rfl⟩:=hs
  unfold h330_3
  rcases Nat.lt_or_ge i v.length with hlt | hge
  · have hy:=getD_lt (by decide) hv i
    have hd:=getD_lt (by decide) hu i
    have hnv:=nv_take_next (2 ^ 64) v i
    have hnu:=nv_take_next (2 ^ 64) us i
    have hwl:(out ++ us.drop i).length = us.length:=by simp [hol]; omega
    have hdg:=digits_eq (us:=us) hol (by omega)
    have hg:=win_get (A:=A) (C:=C) (us:=out ++ us.drop i) (i:=i) (by omega)
    rw [hdg] at hg
    have hst:=fun z=>win_set (A:=A) (C:=C) (us:=out ++ us.drop i) (i:=i) (v:=z) (by omega)
    have hsd:=fun z=>set_drop (a:=us) (v:=z) hol (by omega)
    have hgv:(Wd v).getD i 0 = ((v.getD i 0:Nat):Int):=Wd_getD v i
    generalize v.getD i 0 = y at *
    generalize us.getD i 0 = d at *
    have p0:=T315_eq hx hy
    obtain ⟨m1,m2⟩:=mul_word hx hy hc
    have q1:=addF (x * y % 2 ^ 64) c 0
    have q2:=addP ((x * y % 2 ^ 64:Nat):Int) (c:Int) 0 (by decide)
    rw [Nat.add_zero] at q1
    have hl:(x * y % 2 ^ 64 + c) % 2 ^ 64 < 2 ^ 64:=Nat.mod_lt _ (by decide)
    have e5:=wu_add (x * y / 2 ^ 64) ((x * y % 2 ^ 64 + c) / 2 ^ 64) m2
    generalize x * y / 2 ^ 64 + (x * y % 2 ^ 64 + c) / 2 ^ 64 = c' at *
    generalize hlq:(x * y % 2 ^ 64 + c) % 2 ^ 64 = l at *
    obtain ⟨w1,w2,w3⟩:=sub_word (d:=d) (l:=l) (b:=b) hd hl hb
    have r1:=subF d l b hb hd hl
    have r2:=subP (d:Int) (l:Int) b hb
    generalize (d + 2 ^ 64 - l - b) % 2 ^ 64 = o at *
    generalize (if d < l + b then 1 else 0) = b' at *
    have hstep:=take_step (P:=(2 ^ 64) ^ i) hinv m1 w1
    have e0:decide ((i:Int) < (v.length:Int)) = true:=decide_eq_true (by omega)
    have e1:decide ((0:Int) ≤ (i:Int)) = true:=decide_eq_true (by omega)
    have e2:decide ((i:Int) < ((us.length:Nat):Int)) = true:=decide_eq_true (by omega)
    have e3:IntKind.wrap .i64 ((i:Int) + 1) = ((i + 1:Nat):Int):=by rw [wrapI (by omega)]; omega
    have z0:((0:Nat):Int) = 0:=rfl
    rw [z0] at q1 q2
    dsimp only
    simp only [e0,e1,e2,e3,cond_true,Bool.and_self,Wd_len,Int.toNat_natCast,hgv,hg,pre315 p0,fun315 p0,q1,q2,r1,r2,e5,hst,hsd]
    refine hL _ ⟨i + 1,out ++ [o],c',b',by omega,by simp [hol],app_lt hod w2,m2,w3,?_,rfl⟩ (by simp only [Int.toNat_natCast]; omega)
    rw [nv_snoc,hol,hnv,hnu,pow_up]
    exact hstep
  · have e:i = v.length:=by omega
    subst e
    have e0:decide ((v.length:Int) < (v.length:Int)) = false:=decide_eq_false (by omega)
    simp only [e0,cond_false]
    rw [List.take_length] at hinv
    exact ⟨_,rfl,out,c,b,hol,hod,hc,hb,hinv,rfl⟩
end VL
namespace VL
open Go Vx
theorem back_step {P U V O y c d:Nat} (h:O + P * c = U + V):O + P * ((d + y + c) % 2 ^ 64) + P * 2 ^ 64 * ((d + y + c) / 2 ^ 64) = U + P * d + (V + P * y):=by
  have h1:P * ((d + y + c) % 2 ^ 64 + 2 ^ 64 * ((d + y + c) / 2 ^ 64)) = P * (d + y + c):=by rw [Nat.mod_add_div]
  rw [Nat.mul_add,Nat.mul_add P (d + y),Nat.mul_add,← Nat.mul_assoc P (2 ^ 64)] at h1
  omega
theorem T331_eq (A us C v:List Nat) (hlen:us.length = v.length + 1) (hu:∀ x ∈ us,x < 2 ^ 64) (hv:∀ x ∈ v,x < 2 ^ 64) (hn:v.length ≤ 1000000) :
    ∃ out:List Nat,out.length = us.length ∧ (∀ z ∈ out,z < 2 ^ 64) ∧ nv (2 ^ 64) out + (if (2 ^ 64) ^ us.length ≤ nv (2 ^ 64) us + nv (2 ^ 64) v then (2 ^ 64) ^ us.length else 0) = nv (2 ^ 64) us + nv (2 ^ 64) v ∧
      T331 ((Wd (A ++ us ++ C),(A.length,us.length)),(Wd v,())) = some (Wd (A ++ out ++ C),decide ((2 ^ 64) ^ us.length ≤ nv (2 ^ 64) us + nv (2 ^ 64) v),()):=by
  show ∃ out:List Nat,_ ∧ _ ∧ _ ∧ t331 S155.pre S155.F W331_3 (Wd (A ++ us ++ C),(A.length,us.length)) (Wd v) = _
  have key:=lfix_ex (m331_3 S155.pre S155.F) (fun s=>v.length - s.1.2.2.1.toNat)
    (fun s=>∃ (i:Nat) (out:List Nat) (c:Nat),i ≤ v.length ∧ out.length = i ∧ (∀ z ∈ out,z < 2 ^ 64) ∧ c ≤ 1 ∧ nv (2 ^ 64) out + (2 ^ 64) ^ i * c = nv (2 ^ 64) (us.take i) + nv (2 ^ 64) (v.take i) ∧
      s = (((v.length:Int),(Wd v,((i:Int),(Wd v,((A.length,us.length),((c:Int),())))))),(Wd (A ++ (out ++ us.drop i) ++ C),())))
    (fun y=>∃ (out:List Nat) (c:Nat),out.length = v.length ∧ (∀ z ∈ out,z < 2 ^ 64) ∧ c ≤ 1 ∧ nv (2 ^ 64) out + (2 ^ 64) ^ v.length * c = nv (2 ^ 64) (us.take v.length) + nv (2 ^ 64) v ∧
      y = .inl ((Wd v,((A.length,us.length),((c:Int),()))),(Wd (A ++ (out ++ us.drop v.length) ++ C),()))) ?_
    (((v.length:Int),(Wd v,((0:Int),(Wd v,((A.length,us.length),((0:Int),())))))),(Wd (A ++ us ++ C),()))
    ⟨0,[],0,Nat.zero_le _,rfl,(fun z hz=>by simp at hz),by decide,by simp [nv],rfl⟩
  · obtain ⟨y,hy,out,c,k1,k2,k3,k5,rfl⟩:=key
    have hy:W331_3 (((v.length:Int),(Wd v,((0:Int),(Wd v,((A.length,us.length),((0:Int),())))))),(Wd (A ++ us ++ C),())) = _:=hy
    have hlt:v.length < us.length:=by omega
    have hwl:(out ++ us.drop v.length).length = us.length:=by simp [k1]; omega
    have hdg:=digits_eq (us:=us) k1 hlt
    have hg:=win_get (A:=A) (C:=C) (us:=out ++ us.drop v.length) (i:=v.length) (by omega)
    rw [hdg] at hg
    have hst:=fun z=>win_set (A:=A) (C:=C) (us:=out ++ us.drop v.length) (i:=v.length) (v:=z) (by omega)
    have hsd:=fun z=>set_drop (a:=us) (v:=z) k1 hlt
    have hd:=getD_lt (by decide) hu v.length
    have q1:=addF (us.getD v.length 0) 0 c
    have q2:=addP ((us.getD v.length 0:Nat):Int) ((0:Nat):Int) c k3
    have z0:((0:Nat):Int) = 0:=rfl
    rw [z0] at q1 q2
    have hnx:=nv_take_next (2 ^ 64) us v.length
    rw [List.take_of_length_le (show us.length ≤ v.length + 1 by omega)] at hnx
    have hnil:us.drop (v.length + 1) = []:=List.drop_of_length_le (by omega)
    unfold t331
    dsimp only
    rw [Wd_len,hy]
    have e0:decide ((0:Int) ≤ (v.length:Int)) = true:=decide_eq_true (by omega)
    have e1:decide ((v.length:Int) < (us.length:Int)) = true:=decide_eq_true (by omega)
    dsimp only [obind,obind2]
    simp only [e0,e1,Bool.and_self,cond_true,Wd_len,Int.toNat_natCast,hg,q2,q1,hst,hsd,hnil,List.append_nil]
    have hstep:=back_step (P:=(2 ^ 64) ^ v.length) (y:=0) (d:=us.getD v.length 0) k5
    generalize us.getD v.length 0 = d at *
    have ho:(d + 0 + c) % 2 ^ 64 < 2 ^ 64:=Nat.mod_lt _ (by decide)
    have hO:nv (2 ^ 64) (out ++ [(d + 0 + c) % 2 ^ 64]) + (2 ^ 64) ^ us.length * ((d + 0 + c) / 2 ^ 64) = nv (2 ^ 64) us + nv (2 ^ 64) v:=by
      rw [nv_snoc,k1,hnx,hlen,pow_up]
      rw [Nat.mul_zero] at hstep
      omega
    have hod:=app_lt k2 ho
    have hOl:=nv_lt (B:=2 ^ 64) (by decide) (out ++ [(d + 0 + c) % 2 ^ 64]) hod
    have hol:(out ++ [(d + 0 + c) % 2 ^ 64]).length = us.length:=by simp [k1]; omega
    rw [hol] at hOl
    by_cases hb:(d + 0 + c) / 2 ^ 64 = 1
    · rw [hb,Nat.mul_one] at hO
      have hlt2:(2 ^ 64) ^ us.length ≤ nv (2 ^ 64) us + nv (2 ^ 64) v:=by omega
      refine ⟨out ++ [(d + 0 + c) % 2 ^ 64],hol,hod,by rw [if_pos hlt2]; exact hO,?_⟩
      rw [hb,decide_eq_true hlt2]; rfl
    · have hb0:(d + 0 + c) / 2 ^ 64 = 0:=by omega
      rw [hb0,Nat.mul_zero,Nat.add_zero] at hO
      have hlt2:¬ (2 ^ 64) ^ us.length ≤ nv (2 ^ 64) us + nv (2 ^ 64) v:=by omega
      refine ⟨out ++ [(d + 0 + c) % 2 ^ 64],hol,hod,by rw [if_neg hlt2,Nat.add_zero]; exact hO,?_⟩
      rw [hb0,decide_eq_false hlt2]; rfl
  intro L s hs hL
  obtain ⟨i,out,c,hi,hol,hod,hc,hinv,rfl⟩:=hs
  unfold h331_3
  rcases Nat.lt_or_ge i v.length with hlt | hge
  · have hy:=getD_lt (by decide) hv i
    have hd:=getD_lt (by decide) hu i
    have hnv:=nv_take_next (2 ^ 64) v i
    have hnu:=nv_take_next (2 ^ 64) us i
    have hwl:(out ++ us.drop i).length = us.length:=by simp [hol]; omega
    have hdg:=digits_eq (us:=us) hol (by omega)
    have hg:=win_get (A:=A) (C:=C) (us:=out ++ us.drop i) (i:=i) (by omega)
    rw [hdg] at hg
    have hst:=fun z=>win_set (A:=A) (C:=C) (us:=out ++ us.drop i) (i:=i) (v:=z) (by omega)
    have hsd:=fun z=>set_drop (a:=us) (v:=z) hol (by omega)
    have hgv:(Wd v).getD i 0 = ((v.getD i 0:Nat):Int):=Wd_getD v i
    generalize v.getD i 0 = y at *
    generalize us.getD i 0 = d at *
    have q1:=addF d y c
    have q2:=addP (d:Int) (y:Int) c hc
    have ho:(d + y + c) % 2 ^ 64 < 2 ^ 64:=Nat.mod_lt _ (by decide)
    have hc':(d + y + c) / 2 ^ 64 ≤ 1:=by omega
    have hstep:=back_step (P:=(2 ^ 64) ^ i) (y:=y) (d:=d) hinv
    have e0:decide ((i:Int) < (v.length:Int)) = true:=decide_eq_true (by omega)
    have e1:decide ((0:Int) ≤ (i:Int)) = true:=decide_eq_true (by omega)
    have e2:decide ((i:Int) < ((us.length:Nat):Int)) = true:=decide_eq_true (by omega)
    have e3:IntKind.wrap .i64 ((i:Int) + 1) = ((i + 1:Nat):Int):=by rw [wrapI (by omega)]; omega
    dsimp only
    simp only [e0,e1,e2,e3,cond_true,Bool.and_self,Wd_len,Int.toNat_natCast,hgv,hg,q1,q2,hst,hsd]
    refine hL _ ⟨i + 1,out ++ [(d + y + c) % 2 ^ 64],(d + y + c) / 2 ^ 64,by omega,by simp [hol],app_lt hod ho,hc',?_,rfl⟩ (by simp only [Int.toNat_natCast]; omega)
    rw [nv_snoc,hol,hnv,hnu,pow_up]
    exact hstep
  · have e:i = v.length:=by omega
    subst e
    have e0:decide ((v.length:Int) < (v.length:Int)) = false:=decide_eq_false (by omega)
    simp only [e0,cond_false]
    rw [List.take_length] at hinv
    exact ⟨_,rfl,out,c,hol,hod,hc,hinv,rfl⟩
theorem W332b_eq (A C v:List Nat) {k U:Nat} (hk:k = v.length + 1) (hv:∀ x ∈ v,x < 2 ^ 64) (hn:v.length ≤ 1000000) (us:List Nat) (g:Nat) (hlen:us.length = k) (hu:∀ x ∈ us,x < 2 ^ 64) (hg:g < 2 ^ 64)
    (hinv:nv (2 ^ 64) us + g * nv (2 ^ 64) v = U + (2 ^ 64) ^ k) :
    ∃ out:List Nat,out.length = k ∧ (∀ z ∈ out,z < 2 ^ 64) ∧ nv (2 ^ 64) out = U % nv (2 ^ 64) v ∧
      W332_13 ((((g:Int),((A.length,k),(Wd v,()))),(Wd (A ++ us ++ C),())):P332_13.D) = some (.inl ((((U / nv (2 ^ 64) v:Nat):Int),()),(Wd (A ++ out ++ C),()))):=by
  have key:=lfix_ex (m332_13 S328.pre S328.F S315.pre S315.F S155.pre S155.F S330.pre S330.F S331.pre S331.F) (fun s=>s.1.1.toNat)
    (fun s=>∃ (us:List Nat) (g:Nat),us.length = k ∧ (∀ x ∈ us,x < 2 ^ 64) ∧ g < 2 ^ 64 ∧ nv (2 ^ 64) us + g * nv (2 ^ 64) v = U + (2 ^ 64) ^ k ∧
      s = (((g:Int),((A.length,k),(Wd v,()))),(Wd (A ++ us ++ C),())))
    (fun y=>∃ out:List Nat,out.length = k ∧ (∀ z ∈ out,z < 2 ^ 64) ∧ nv (2 ^ 64) out = U % nv (2 ^ 64) v ∧ y = .inl ((((U / nv (2 ^ 64) v:Nat):Int),()),(Wd (A ++ out ++ C),()))) ?_
    (((g:Int),((A.length,k),(Wd v,()))),(Wd (A ++ us ++ C),())) ⟨us,g,hlen,hu,hg,hinv,rfl⟩
  · obtain ⟨y,hy,out,k1,k2,k3,rfl⟩:=key
    exact ⟨out,k1,k2,k3,hy⟩
  clear hinv hg hu hlen us g
  intro L s hs hL
  obtain ⟨us,g,hlen,hu,hg,hinv,rfl⟩:=hs
  unfold h332_13
  obtain ⟨out,o1,o2,o3,o4⟩:=T331_eq A us C v (by omega) hu hv hn
  rw [hlen] at o1 o3 o4
  have hul:=nv_lt (B:=2 ^ 64) (by decide) us hu
  rw [hlen] at hul
  have hg1:1 ≤ g:=by
    rcases Nat.eq_zero_or_pos g with h | h
    · rw [h,Nat.zero_mul] at hinv; omega
    · exact h
  obtain ⟨p,rfl⟩:∃ p,g = p + 1:=⟨g - 1,by omega⟩
  rw [Nat.add_mul,Nat.one_mul] at hinv
  have e1:IntKind.wrap .u64 (((p + 1:Nat):Int) - 1) = (p:Int):=by rw [wrapU (by omega)]; omega
  dsimp only
  rw [pre331 o4,fun331 o4,cond_true,e1]
  dsimp only
  by_cases hc:(2 ^ 64) ^ k ≤ nv (2 ^ 64) us + nv (2 ^ 64) v
  · rw [if_pos hc] at o3
    rw [decide_eq_true hc,cond_true]
    have hV:nv (2 ^ 64) out < nv (2 ^ 64) v:=by omega
    have hd:U = nv (2 ^ 64) v * p + nv (2 ^ 64) out:=by rw [Nat.mul_comm]; omega
    have hpos:0 < nv (2 ^ 64) v:=by omega
    refine ⟨_,rfl,out,o1,o2,?_,?_⟩
    · rw [hd,Nat.mul_add_mod,Nat.mod_eq_of_lt hV]
    · rw [hd,Nat.mul_add_div hpos,Nat.div_eq_of_lt hV,Nat.add_zero]
  · rw [if_neg hc] at o3
    rw [decide_eq_false hc,cond_false]
    exact hL _ ⟨out,p,o1,o2,by omega,by omega,rfl⟩ (by simp only [Int.toNat_natCast]; omega)
theorem lex_le {h l r w:Nat} (hl:l < 2 ^ 64) (hw:w < 2 ^ 64):(decide ((h:Int) < (r:Int)) || (((h:Int) == (r:Int)) && decide ((l:Int) ≤ (w:Int)))) = decide (h * 2 ^ 64 + l ≤ r * 2 ^ 64 + w):=by
  rw [Bool.eq_iff_iff,Bool.or_eq_true,Bool.and_eq_true,decide_eq_true_eq,decide_eq_true_eq,decide_eq_true_eq,beq_iff_eq]
  omega
theorem est_down {U V P v1 v2 u2 u0 g rest:Nat} (hP:0 < P) (hV:(v1 * 2 ^ 64 + v2) * P ≤ V) (hU:U < (u2 * 2 ^ 64 + u0 + 1) * P) (hg:g * v1 + rest = u2) (h:¬ g * v2 ≤ rest * 2 ^ 64 + u0):U / V < g:=by
  rcases Nat.lt_or_ge (U / V) g with h1 | h1
  · exact h1
  · exfalso
    have h2:g * V ≤ U:=Nat.le_trans (Nat.mul_le_mul_right V h1) (Nat.div_mul_le_self U V)
    have h3:g * ((v1 * 2 ^ 64 + v2) * P) ≤ g * V:=Nat.mul_le_mul_left g hV
    rw [← Nat.mul_assoc] at h3
    have h4:=Nat.lt_of_mul_lt_mul_right (Nat.lt_of_le_of_lt (Nat.le_trans h3 h2) hU)
    rw [Nat.mul_add,← Nat.mul_assoc] at h4
    rw [← hg,Nat.add_mul] at h4
    omega
theorem est_start {U V P v1 v2 u2 u0:Nat} (hP:0 < P) (h1:0 < v1) (hV:(v1 * 2 ^ 64 + v2) * P ≤ V) (hU:U < (u2 * 2 ^ 64 + u0 + 1) * P) (hu0:u0 < 2 ^ 64):U / V ≤ u2 / v1:=by
  rw [Nat.le_div_iff_mul_le h1]
  have h2:U / V * V ≤ U:=Nat.div_mul_le_self U V
  have h3:U / V * ((v1 * 2 ^ 64 + v2) * P) ≤ U / V * V:=Nat.mul_le_mul_left _ hV
  rw [← Nat.mul_assoc] at h3
  have h4:=Nat.lt_of_mul_lt_mul_right (Nat.lt_of_le_of_lt (Nat.le_trans h3 h2) hU)
  rw [Nat.mul_add,← Nat.mul_assoc] at h4
  omega
theorem two_top {v:List Nat} {n:Nat} (hn:v.length = n + 2):(v.getD (n + 1) 0 * 2 ^ 64 + v.getD n 0) * (2 ^ 64) ^ n ≤ nv (2 ^ 64) v:=by
  have h1:=nv_take_next (2 ^ 64) v n
  have h2:=nv_take_next (2 ^ 64) v (n + 1)
  rw [List.take_of_length_le (by omega)] at h2
  rw [h2,h1,pow_up,Nat.add_mul,Nat.mul_comm _ ((2 ^ 64) ^ n),Nat.mul_comm (v.getD n 0),Nat.mul_assoc,Nat.mul_comm (2 ^ 64) (v.getD (n + 1) 0)]
  omega
theorem three_top {u:List Nat} {n:Nat} (hu:∀ x ∈ u,x < 2 ^ 64) (hn:u.length = n + 3):nv (2 ^ 64) u < ((u.getD (n + 2) 0 * 2 ^ 64 + u.getD (n + 1) 0) * 2 ^ 64 + u.getD n 0 + 1) * (2 ^ 64) ^ n:=by
  have h0:=nv_take_lt hu n
  have h1:=nv_take_next (2 ^ 64) u n
  have h2:=nv_take_next (2 ^ 64) u (n + 1)
  have h3:=nv_take_next (2 ^ 64) u (n + 2)
  rw [List.take_of_length_le (show u.length ≤ n + 2 + 1 by omega)] at h3
  rw [h3,h2,h1]
  rw [show (2 ^ 64) ^ (n + 2) = (2 ^ 64) ^ n * 2 ^ 64 * 2 ^ 64 by rw [show n + 2 = n + 1 + 1 by omega,pow_up,pow_up],pow_up]
  generalize (2 ^ 64) ^ n = P at *
  generalize u.getD (n + 2) 0 = a
  generalize u.getD (n + 1) 0 = b
  generalize u.getD n 0 = c
  rw [Nat.mul_comm (_ + 1) P,Nat.mul_add,Nat.mul_add,Nat.add_mul,Nat.mul_add,Nat.mul_one]
  have e1:P * (a * 2 ^ 64 * 2 ^ 64) = P * 2 ^ 64 * 2 ^ 64 * a:=by rw [Nat.mul_assoc P,Nat.mul_assoc P,Nat.mul_assoc a,Nat.mul_comm a]
  have e2:P * (b * 2 ^ 64) = P * 2 ^ 64 * b:=by rw [Nat.mul_assoc P,Nat.mul_comm b]
  rw [e1,e2]
  omega
end VL
namespace VL
open Go Vx
theorem W332a_eq (A us C v:List Nat) {n:Nat} (hvl:v.length = n + 2) (hlen:us.length = n + 3) (hu:∀ x ∈ us,x < 2 ^ 64) (hv:∀ x ∈ v,x < 2 ^ 64) (hn:v.length ≤ 1000000)
    (hV0:0 < v.getD (n + 1) 0) (g rest:Nat) (hg:g < 2 ^ 64) (hr:rest < 2 ^ 64) (hinv:g * v.getD (n + 1) 0 + rest = us.getD (n + 2) 0 * 2 ^ 64 + us.getD (n + 1) 0) (hq:nv (2 ^ 64) us / nv (2 ^ 64) v ≤ g) :
    ∃ g':Nat,g' < 2 ^ 64 ∧ nv (2 ^ 64) us / nv (2 ^ 64) v ≤ g' ∧
      W332_6 ((((g:Int),((rest:Int),((v.length:Int),((A.length,us.length),(Wd v,()))))),(Wd (A ++ us ++ C),())):P332_6.D) = some (.inl (((A.length,us.length),(Wd v,((g':Int),()))),(Wd (A ++ us ++ C),()))):=by
  have key:=lfix_ex (m332_6 S328.pre S328.F S315.pre S315.F S155.pre S155.F S330.pre S330.F S331.pre S331.F) (fun s=>s.1.1.toNat)
    (fun s=>∃ (g rest:Nat),g < 2 ^ 64 ∧ rest < 2 ^ 64 ∧ g * v.getD (n + 1) 0 + rest = us.getD (n + 2) 0 * 2 ^ 64 + us.getD (n + 1) 0 ∧ nv (2 ^ 64) us / nv (2 ^ 64) v ≤ g ∧
      s = (((g:Int),((rest:Int),((v.length:Int),((A.length,us.length),(Wd v,()))))),(Wd (A ++ us ++ C),())))
    (fun y=>∃ g':Nat,g' < 2 ^ 64 ∧ nv (2 ^ 64) us / nv (2 ^ 64) v ≤ g' ∧ y = .inl (((A.length,us.length),(Wd v,((g':Int),()))),(Wd (A ++ us ++ C),()))) ?_
    (((g:Int),((rest:Int),((v.length:Int),((A.length,us.length),(Wd v,()))))),(Wd (A ++ us ++ C),())) ⟨g,rest,hg,hr,hinv,hq,rfl⟩
  · obtain ⟨y,hy,g',k1,k2,rfl⟩:=key
    exact ⟨g',k1,k2,hy⟩
  clear hinv hg hr hq g rest
  intro L s hs hL
  obtain ⟨g,rest,hg,hr,hinv,hq,rfl⟩:=hs
  unfold h332_6
  have hv1:=getD_lt (by decide) hv (n + 1)
  have hv2:=getD_lt (by decide) hv n
  have hu0:=getD_lt (by decide) hu n
  have g1:(Wd v).getD (n + 1) 0 = ((v.getD (n + 1) 0:Nat):Int):=Wd_getD v _
  have g2:(Wd v).getD n 0 = ((v.getD n 0:Nat):Int):=Wd_getD v _
  have g3:=win_get (A:=A) (C:=C) (us:=us) (i:=n) (by omega)
  have e11:IntKind.wrap .i64 ((v.length:Int) - 2) = (n:Int):=by rw [wrapI (by omega)]; omega
  have e12:IntKind.wrap .i64 ((v.length:Int) - 1) = ((n + 1:Nat):Int):=by rw [wrapI (by omega)]; omega
  have p0:=T315_eq hg hv2
  have e0:decide ((0:Int) ≤ (n:Int)) = true:=decide_eq_true (by omega)
  have e1:decide ((n:Int) < (v.length:Int)) = true:=decide_eq_true (by omega)
  have e2:decide ((n:Int) < (us.length:Int)) = true:=decide_eq_true (by omega)
  have e3:decide ((0:Int) ≤ ((n + 1:Nat):Int)) = true:=decide_eq_true (by omega)
  have e4:decide (((n + 1:Nat):Int) < (v.length:Int)) = true:=decide_eq_true (by omega)
  have hlo:g * v.getD n 0 % 2 ^ 64 < 2 ^ 64:=Nat.mod_lt _ (by decide)
  have hlex:=lex_le (h:=g * v.getD n 0 / 2 ^ 64) (r:=rest) hlo hu0
  rw [show g * v.getD n 0 / 2 ^ 64 * 2 ^ 64 + g * v.getD n 0 % 2 ^ 64 = g * v.getD n 0 by omega] at hlex
  dsimp only
  simp only [e11,e12,e0,e1,e2,e3,e4,Bool.and_self,Bool.true_or,cond_true,Wd_len,Int.toNat_natCast,g1,g2,g3,pre315 p0,fun315 p0,hlex]
  by_cases hc:g * v.getD n 0 ≤ rest * 2 ^ 64 + us.getD n 0
  · rw [decide_eq_true hc,cond_true]
    exact ⟨_,rfl,g,hg,hq,rfl⟩
  · rw [decide_eq_false hc,cond_false]
    have hdn:=est_down (Nat.pow_pos (by decide)) (two_top hvl) (three_top hu hlen) hinv hc
    have hg1:1 ≤ g:=Nat.lt_of_le_of_lt (Nat.zero_le _) hdn
    obtain ⟨p,rfl⟩:∃ p,g = p + 1:=⟨g - 1,by omega⟩
    have e5:IntKind.wrap .u64 (((p + 1:Nat):Int) - 1) = (p:Int):=by rw [wrapU (by omega)]; omega
    have q1:=addF rest (v.getD (n + 1) 0) 0
    have q2:=addP (rest:Int) ((v.getD (n + 1) 0:Nat):Int) 0 (by decide)
    have z0:((0:Nat):Int) = 0:=rfl
    rw [z0] at q1 q2
    simp only [q1,q2,cond_true,e5]
    by_cases hb:(rest + v.getD (n + 1) 0 + 0) / 2 ^ 64 = 0
    · have e6:((((rest + v.getD (n + 1) 0 + 0) / 2 ^ 64:Nat):Int) != 0) = false:=by rw [hb]; rfl
      rw [e6,cond_false]
      have hs:(rest + v.getD (n + 1) 0 + 0) % 2 ^ 64 = rest + v.getD (n + 1) 0:=by omega
      rw [hs]
      refine hL _ ⟨p,rest + v.getD (n + 1) 0,by omega,by omega,?_,Nat.le_of_lt_succ hdn,rfl⟩ (by simp only [Int.toNat_natCast]; omega)
      rw [Nat.add_mul,Nat.one_mul] at hinv
      omega
    · have e6:((((rest + v.getD (n + 1) 0 + 0) / 2 ^ 64:Nat):Int) != 0) = true:=bne0_t _ hb
      rw [e6,cond_true]
      exact ⟨_,rfl,p,by omega,Nat.le_of_lt_succ hdn,rfl⟩
theorem T332_eq (A us C v:List Nat) {n:Nat} (hvl:v.length = n + 2) (hlen:us.length = n + 3) (hu:∀ x ∈ us,x < 2 ^ 64) (hv:∀ x ∈ v,x < 2 ^ 64) (hn:v.length ≤ 1000000)
    (hlt:nv (2 ^ 64) us < nv (2 ^ 64) v * 2 ^ 64) :
    ∃ out:List Nat,out.length = us.length ∧ (∀ z ∈ out,z < 2 ^ 64) ∧ nv (2 ^ 64) out = nv (2 ^ 64) us % nv (2 ^ 64) v ∧
      T332 ((Wd (A ++ us ++ C),(A.length,us.length)),(Wd v,())) = some (Wd (A ++ out ++ C),((nv (2 ^ 64) us / nv (2 ^ 64) v:Nat):Int),()):=by
  show ∃ out:List Nat,_ ∧ _ ∧ _ ∧ t332 S328.pre S328.F S315.pre S315.F S155.pre S155.F S330.pre S330.F S331.pre S331.F W332_6 W332_13 (Wd (A ++ us ++ C),(A.length,us.length)) (Wd v) = _
  have hVp:0 < nv (2 ^ 64) v:=by omega
  have hq64:nv (2 ^ 64) us / nv (2 ^ 64) v < 2 ^ 64:=by rw [Nat.div_lt_iff_lt_mul hVp,Nat.mul_comm]; exact hlt
  have hv1:=getD_lt (by decide) hv (n + 1)
  have hu2:=getD_lt (by decide) hu (n + 2)
  have hu1:=getD_lt (by decide) hu (n + 1)
  have hu0:=getD_lt (by decide) hu n
  -- a guess that is not too small ends well
  have fin:∀ g:Nat,g < 2 ^ 64 → nv (2 ^ 64) us / nv (2 ^ 64) v ≤ g →
      ∃ out:List Nat,out.length = us.length ∧ (∀ z ∈ out,z < 2 ^ 64) ∧ nv (2 ^ 64) out = nv (2 ^ 64) us % nv (2 ^ 64) v ∧
        (bif S330.pre ((Wd (A ++ us ++ C),(A.length,us.length)),(Wd v,((g:Int),()))) then
          (bif (S330.F ((Wd (A ++ us ++ C),(A.length,us.length)),(Wd v,((g:Int),())))).2.1 then
            (Vx.obind (W332_13 (((g:Int),((A.length,us.length),(Wd v,()))),((S330.F ((Wd (A ++ us ++ C),(A.length,us.length)),(Wd v,((g:Int),())))).1,()))) fun y5 =>
            Vx.obind2 y5 (fun y6=>some (y6.2.1,y6.1)) (fun _=>none))
          else some ((S330.F ((Wd (A ++ us ++ C),(A.length,us.length)),(Wd v,((g:Int),())))).1,((g:Int),())))
        else none) = (some (Wd (A ++ out ++ C),(((nv (2 ^ 64) us / nv (2 ^ 64) v:Nat):Int),())):Option (LK.B K332 × DenS O332)):=by
    intro g hg hq
    obtain ⟨out,o1,o2,o3,o4⟩:=T330_eq A us C v (by omega) hu hv hn hg
    have hpr:S330.pre ((Wd (A ++ us ++ C),(A.length,us.length)),(Wd v,((g:Int),()))) = true:=pre330 o4
    have hfr:S330.F ((Wd (A ++ us ++ C),(A.length,us.length)),(Wd v,((g:Int),()))) = (Wd (A ++ out ++ C),decide (nv (2 ^ 64) us < g * nv (2 ^ 64) v),()):=fun330 o4
    rw [hpr,hfr]
    rw [cond_true]
    by_cases hb:nv (2 ^ 64) us < g * nv (2 ^ 64) v
    · rw [if_pos hb] at o3
      obtain ⟨out2,u1,u2,u3,u4⟩:=W332b_eq A C v (k:=us.length) (U:=nv (2 ^ 64) us) (by omega) hv hn out g o1 o2 hg o3
      refine ⟨out2,u1,u2,u3,?_⟩
      dsimp only
      rw [decide_eq_true hb,cond_true,u4]
    · rw [if_neg hb,Nat.add_zero] at o3
      have h1:nv (2 ^ 64) us / nv (2 ^ 64) v = g:=by
        have:g ≤ nv (2 ^ 64) us / nv (2 ^ 64) v:=by rw [Nat.le_div_iff_mul_le hVp]; omega
        exact Nat.le_antisymm hq this
      have h2:nv (2 ^ 64) out = nv (2 ^ 64) us % nv (2 ^ 64) v:=by
        have:=Nat.div_add_mod (nv (2 ^ 64) us) (nv (2 ^ 64) v)
        rw [h1,Nat.mul_comm] at this
        omega
      refine ⟨out,o1,o2,h2,?_⟩
      dsimp only
      rw [decide_eq_false hb,cond_false,h1]
  have g1:(Wd v).getD (n + 1) 0 = ((v.getD (n + 1) 0:Nat):Int):=Wd_getD v _
  have g2:=win_get (A:=A) (C:=C) (us:=us) (i:=n + 2) (by omega)
  have g3:=win_get (A:=A) (C:=C) (us:=us) (i:=n + 1) (by omega)
  have e10:IntKind.wrap .i64 ((v.length:Int) - 1) = ((n + 1:Nat):Int):=by rw [wrapI (by omega)]; omega
  have e0:decide ((0:Int) ≤ (v.length:Int)) = true:=decide_eq_true (by omega)
  have e1:decide ((v.length:Int) < (us.length:Int)) = true:=decide_eq_true (by omega)
  have e2:decide ((0:Int) ≤ ((n + 1:Nat):Int)) = true:=decide_eq_true (by omega)
  have e3:decide (((n + 1:Nat):Int) < (v.length:Int)) = true:=decide_eq_true (by omega)
  have e4:decide (((n + 1:Nat):Int) < (us.length:Int)) = true:=decide_eq_true (by omega)
  have evl:v.length = n + 2:=hvl
  have g2':(Wd (A ++ us ++ C)).getD (A.length + v.length) 0 = ((us.getD (n + 2) 0:Nat):Int):=by rw [evl]; exact g2
  unfold t332
  dsimp only
  simp only [Wd_len,Int.toNat_natCast,e10,g1,g2',g3,e0,e1,e2,e3,e4,Bool.and_self,cond_true]
  by_cases hc:us.getD (n + 2) 0 < v.getD (n + 1) 0
  · have e5:decide (((us.getD (n + 2) 0:Nat):Int) < ((v.getD (n + 1) 0:Nat):Int)) = true:=decide_eq_true (by omega)
    have p0:=T328_eq hu1 hv1 hc
    simp only [e5,cond_true,pre328 p0,fun328 p0]
    have hgl:(us.getD (n + 2) 0 * 2 ^ 64 + us.getD (n + 1) 0) / v.getD (n + 1) 0 < 2 ^ 64:=by
      rw [Nat.div_lt_iff_lt_mul (by omega)]
      have:(us.getD (n + 2) 0 + 1) * 2 ^ 64 ≤ v.getD (n + 1) 0 * 2 ^ 64:=Nat.mul_le_mul_right _ hc
      rw [Nat.add_mul,Nat.one_mul] at this
      rw [Nat.mul_comm (2 ^ 64)]
      omega
    have hrl:(us.getD (n + 2) 0 * 2 ^ 64 + us.getD (n + 1) 0) % v.getD (n + 1) 0 < 2 ^ 64:=Nat.lt_trans (Nat.mod_lt _ (by omega)) hv1
    have hst:=est_start (Nat.pow_pos (n:=n) (show 0 < 2 ^ 64 by decide)) (show 0 < v.getD (n + 1) 0 by omega) (two_top hvl) (three_top hu hlen) hu0
    obtain ⟨g',k1,k2,k3⟩:=W332a_eq A us C v hvl hlen hu hv hn (by omega) _ _ hgl hrl (by rw [Nat.mul_comm]; exact Nat.div_add_mod _ _) hst
    rw [k3]
    obtain ⟨out,o1,o2,o3,o4⟩:=fin g' k1 k2
    exact ⟨out,o1,o2,o3,o4⟩
  · have e5:decide (((us.getD (n + 2) 0:Nat):Int) < ((v.getD (n + 1) 0:Nat):Int)) = false:=decide_eq_false (by omega)
    simp only [e5,cond_false]
    obtain ⟨out,o1,o2,o3,o4⟩:=fin (2 ^ 64 - 1) (by decide) (Nat.le_pred_of_lt hq64)
    exact ⟨out,o1,o2,o3,o4⟩
end VL
namespace VL
open Go Vx
theorem byword_step {X Q d r a B:Nat} (hX:X = Q * d + r):X * B + a = (Q * B + (r * B + a) / d) * d + (r * B + a) % d:=by
  have h1:=Nat.div_add_mod (r * B + a) d
  rw [hX,Nat.add_mul,Nat.add_mul,Nat.mul_right_comm,Nat.mul_comm ((r * B + a) / d) d]
  omega
theorem W1329_eq (l:List Nat) (hl:∀ x ∈ l,x < 2 ^ 64) (hn:l.length ≤ 1000000) {d:Nat} (hd:0 < d) (hd2:d < 2 ^ 64) :
    ∃ qs:List Nat,qs.length = l.length ∧ (∀ x ∈ qs,x < 2 ^ 64) ∧ nv (2 ^ 64) qs = nv (2 ^ 64) l / d ∧
      W1329_3 ((((d:Int),(((l.length:Int) - 1),((),((0:Int),())))),(Wd l,())):P1329_3.D) = some (.inl (((),(((nv (2 ^ 64) l % d:Nat):Int),())),(Wd qs,()))):=by
  have key:=lfix_ex (m1329_3 S328.pre S328.F S173.pre S173.F) (fun s=>(s.1.2.1 + 1).toNat)
    (fun s=>∃ (k:Nat) (qs:List Nat) (r:Nat),k ≤ l.length ∧ qs.length + k = l.length ∧ (∀ x ∈ qs,x < 2 ^ 64) ∧ r < d ∧ nv (2 ^ 64) (l.drop k) = nv (2 ^ 64) qs * d + r ∧
      s = (((d:Int),(((k:Int) - 1),((),((r:Int),())))),(Wd (l.take k ++ qs),())))
    (fun y=>∃ qs:List Nat,qs.length = l.length ∧ (∀ x ∈ qs,x < 2 ^ 64) ∧ nv (2 ^ 64) qs = nv (2 ^ 64) l / d ∧ y = .inl (((),(((nv (2 ^ 64) l % d:Nat):Int),())),(Wd qs,()))) ?_
    (((d:Int),(((l.length:Int) - 1),((),((0:Int),())))),(Wd l,()))
    ⟨l.length,[],0,Nat.le_refl _,by simp,(fun z hz=>by simp at hz),hd,by simp [nv],by simp⟩
  · obtain ⟨y,hy,qs,k1,k2,k3,rfl⟩:=key
    exact ⟨qs,k1,k2,k3,hy⟩
  intro L s hs hL
  obtain ⟨k,qs,r,hk,hql,hqd,hr,hinv,rfl⟩:=hs
  unfold h1329_3
  rcases k with _ | i
  · have e0:decide ((((0:Nat):Int) - 1) ≥ 0) = false:=rfl
    dsimp only
    rw [e0,cond_false]
    rw [List.drop_zero] at hinv
    have hdv:nv (2 ^ 64) l / d = nv (2 ^ 64) qs:=by rw [hinv,Nat.mul_comm,Nat.mul_add_div hd,Nat.div_eq_of_lt hr,Nat.add_zero]
    have hmd:nv (2 ^ 64) l % d = r:=by rw [hinv,Nat.mul_comm,Nat.mul_add_mod,Nat.mod_eq_of_lt hr]
    exact ⟨_,rfl,qs,by omega,hqd,hdv.symm,by rw [hmd,List.take_zero,List.nil_append]⟩
  · have ei:(((i + 1:Nat):Int) - 1) = (i:Int):=by omega
    have ha:=getD_lt (by decide) hl i
    have hg:(Wd (l.take (i + 1) ++ qs)).getD i 0 = ((l.getD i 0:Nat):Int):=by
      rw [Wd_getD]
      congr 1
      rw [List.getD_eq_getElem?_getD,List.getD_eq_getElem?_getD,List.getElem?_append_left (by simp; omega),List.getElem?_take_of_lt (by omega)]
    have hdn:=nv_drop_next (2 ^ 64) l i (by omega)
    have hset:∀ z:Nat,(Wd (l.take (i + 1) ++ qs)).set i (z:Int) = Wd (l.take i ++ (z :: qs)):=fun z=>by
      rw [Wd_set,List.set_append_left _ _ (by simp; omega),List.take_succ_eq_append_getElem (show i < l.length by omega),List.set_append_right _ _ (by simp; omega)]
      have:i - (l.take i).length = 0:=by simp; omega
      rw [this]
      simp
    have hlen:(Wd (l.take (i + 1) ++ qs)).length = l.length:=by rw [Wd_len]; simp; omega
    generalize l.getD i 0 = a at *
    have p0:=T328_eq (hi:=r) ha hd2 hr
    have e0:decide ((i:Int) ≥ 0) = true:=decide_eq_true (by omega)
    have e1:decide ((0:Int) ≤ (i:Int)) = true:=decide_eq_true (by omega)
    have e2:decide ((i:Int) < (l.length:Int)) = true:=decide_eq_true (by omega)
    have e3:IntKind.wrap .i64 ((i:Int) - 1) = (i:Int) - 1:=wrapI (by omega)
    dsimp only
    simp only [ei,e0,e1,e2,e3,hlen,Bool.and_self,cond_true,Int.toNat_natCast,hg,pre328 p0,fun328 p0,hset]
    have hq:(r * 2 ^ 64 + a) / d < 2 ^ 64:=by
      rw [Nat.div_lt_iff_lt_mul hd]
      have:(r + 1) * 2 ^ 64 ≤ d * 2 ^ 64:=Nat.mul_le_mul_right _ hr
      rw [Nat.mul_comm (2 ^ 64)]
      omega
    refine hL _ ⟨i,(r * 2 ^ 64 + a) / d :: qs,(r * 2 ^ 64 + a) % d,by omega,by simp; omega,?_,Nat.mod_lt _ hd,?_,rfl⟩ (by dsimp only; omega)
    · intro x hx
      rcases List.mem_cons.1 hx with rfl | hx
      · exact hq
      · exact hqd x hx
    · have:=byword_step (B:=2 ^ 64) (a:=a) hinv
      rw [hdn]
      show a + 2 ^ 64 * _ = ((r * 2 ^ 64 + a) / d + 2 ^ 64 * nv (2 ^ 64) qs) * d + _
      rw [Nat.mul_comm (2 ^ 64) (nv (2 ^ 64) qs),Nat.add_comm ((r * 2 ^ 64 + a) / d),← this]
      omega
theorem trim_Dw {l:List Nat} (h:∀ x ∈ l,x < 2 ^ 64):Wd (trimL l) = Dw (nv (2 ^ 64) l):=by
  unfold Dw
  rw [trim_dg (by decide) l h]
theorem T1329_eq {a:Nat} (ha:a < (2 ^ 64) ^ 5000) {d:Nat} (hd:0 < d) (hd2:d < 2 ^ 64):T1329 (Dw a,(d:Int),()) = some (Dw (a / d),((a % d:Nat):Int),()):=by
  show t1329 S328.pre S328.F S173.pre S173.F W1329_3 (Dw a) (d:Int) = _
  unfold t1329
  have hw:=Dw_ws ha
  obtain ⟨qs,k1,k2,k3,k4⟩:=W1329_eq (dg (2 ^ 64) a) hw.1 hw.2 hd hd2
  rw [nv_Dw] at k3 k4
  have hl:(dg (2 ^ 64) a).length ≤ 1000000:=hw.2
  have e0:IntKind.wrap .i64 (((Dw a).length:Int) - 1) = (((dg (2 ^ 64) a).length:Int) - 1):=by
    unfold Dw
    rw [Wd_len,wrapI (by omega)]
  have p0:=T173_eq qs (by omega)
  rw [e0]
  have k4:W1329_3 ((((d:Int),((((dg (2 ^ 64) a).length:Int) - 1),((),((0:Int),())))),(Dw a,())):P1329_3.D) = _:=k4
  rw [k4]
  show (bif S173.pre (Wd qs,()) then some ((S173.F (Wd qs,())).1,(((a % d:Nat):Int),())) else none) = _
  simp only [pre173 p0,fun173 p0,cond_true,trim_Dw k2,k3]
theorem W333_eq (v:List Nat) {n:Nat} (hvl:v.length = n + 2) (hv:∀ x ∈ v,x < 2 ^ 64) (hn:v.length ≤ 900000) {X:Nat} (Q:Nat) (hQ:Q ≤ 50000) (s:Int) (us:List Nat) (hus:us.length = Q + n + 2)
    (hud:∀ x ∈ us,x < 2 ^ 64) (hX:nv (2 ^ 64) us = X) (hlt:X < nv (2 ^ 64) v * (2 ^ 64) ^ Q) :
    ∃ qs us':List Nat,qs.length = Q ∧ (∀ x ∈ qs,x < 2 ^ 64) ∧ nv (2 ^ 64) qs = X / nv (2 ^ 64) v ∧ us'.length = Q + n + 2 ∧ (∀ x ∈ us',x < 2 ^ 64) ∧ nv (2 ^ 64) us' = X % nv (2 ^ 64) v ∧
      W333_14 (((Wd v,(((Q:Int) - 1),((),((),((v.length:Int),(s,())))))),(Wd us,(Wd (List.replicate Q 0),()))):P333_14.D) = some (.inl (((),((),((v.length:Int),(s,())))),(Wd us',(Wd qs,())))):=by
  have hV0:0 < nv (2 ^ 64) v:=by
    rcases Nat.eq_zero_or_pos (nv (2 ^ 64) v) with h | h
    · rw [h,Nat.zero_mul] at hlt; omega
    · exact h
  have hVl:=nv_lt (B:=2 ^ 64) (by decide) v hv
  have key:=lfix_ex (m333_14 S1146.pre S1146.F S1329.pre S1329.F S144.pre S144.F S146.pre S146.F S329.pre S329.F S327.pre S327.F S186.pre S186.F S332.pre S332.F S173.pre S173.F S171.pre S171.F) (fun s=>(s.1.2.1 + 1).toNat)
    (fun x=>∃ (k:Nat) (qs us:List Nat),k ≤ Q ∧ qs.length + k = Q ∧ (∀ x ∈ qs,x < 2 ^ 64) ∧ us.length = Q + n + 2 ∧ (∀ x ∈ us,x < 2 ^ 64) ∧ nv (2 ^ 64) us < nv (2 ^ 64) v * (2 ^ 64) ^ k ∧
      X = nv (2 ^ 64) qs * (2 ^ 64) ^ k * nv (2 ^ 64) v + nv (2 ^ 64) us ∧
      x = ((Wd v,(((k:Int) - 1),((),((),((v.length:Int),(s,())))))),(Wd us,(Wd (List.replicate k 0 ++ qs),()))))
    (fun y=>∃ qs us':List Nat,qs.length = Q ∧ (∀ x ∈ qs,x < 2 ^ 64) ∧ nv (2 ^ 64) qs = X / nv (2 ^ 64) v ∧ us'.length = Q + n + 2 ∧ (∀ x ∈ us',x < 2 ^ 64) ∧ nv (2 ^ 64) us' = X % nv (2 ^ 64) v ∧
      y = .inl (((),((),((v.length:Int),(s,())))),(Wd us',(Wd qs,())))) ?_
    ((Wd v,(((Q:Int) - 1),((),((),((v.length:Int),(s,())))))),(Wd us,(Wd (List.replicate Q 0),())))
    ⟨Q,[],us,Nat.le_refl _,by simp,(fun z hz=>by simp at hz),hus,hud,by rw [hX]; exact hlt,by simp [nv,hX],by simp⟩
  · obtain ⟨y,hy,qs,us',k1,k2,k3,k4,k5,k6,rfl⟩:=key
    exact ⟨qs,us',k1,k2,k3,k4,k5,k6,hy⟩
  clear hlt hX hud hus us
  intro L x hx hL
  obtain ⟨k,qs,us,hk,hql,hqd,hus,hud,hlt,hinv,rfl⟩:=hx
  unfold h333_14
  rcases k with _ | j
  · have e0:decide ((((0:Nat):Int) - 1) ≥ 0) = false:=rfl
    dsimp only
    rw [e0,cond_false]
    rw [Nat.pow_zero,Nat.mul_one] at hlt hinv
    have hdv:X / nv (2 ^ 64) v = nv (2 ^ 64) qs:=by rw [hinv,Nat.mul_comm,Nat.mul_add_div hV0,Nat.div_eq_of_lt hlt,Nat.add_zero]
    have hmd:X % nv (2 ^ 64) v = nv (2 ^ 64) us:=by rw [hinv,Nat.mul_comm,Nat.mul_add_mod,Nat.mod_eq_of_lt hlt]
    exact ⟨_,rfl,qs,us,by omega,hqd,hdv.symm,hus,hud,hmd.symm,by simp⟩
  · have ei:(((j + 1:Nat):Int) - 1) = (j:Int):=by omega
    have hjl:j + (n + 3) ≤ us.length:=by omega
    -- the window
    have hsplit:us = us.take j ++ (us.drop j).take (n + 3) ++ us.drop (j + (n + 3)):=by
      rw [List.append_assoc,← List.drop_drop,List.take_append_drop,List.take_append_drop]
    have hAl:(us.take j).length = j:=by simp; omega
    have hwl:((us.drop j).take (n + 3)).length = n + 3:=by simp; omega
    have hAd:∀ x ∈ us.take j,x < 2 ^ 64:=fun x hx=>hud x (List.mem_of_mem_take hx)
    have hwd:∀ x ∈ (us.drop j).take (n + 3),x < 2 ^ 64:=fun x hx=>hud x (List.mem_of_mem_drop (List.mem_of_mem_take hx))
    have hCd:∀ x ∈ us.drop (j + (n + 3)),x < 2 ^ 64:=fun x hx=>hud x (List.mem_of_mem_drop hx)
    have hCl:(us.drop (j + (n + 3))).length + j + (n + 3) = us.length:=by simp; omega
    generalize us.take j = A at *
    generalize (us.drop j).take (n + 3) = w at *
    generalize us.drop (j + (n + 3)) = C at *
    subst hsplit
    have hAlt:=nv_lt (B:=2 ^ 64) (by decide) A hAd
    have hval:∀ w:List Nat,w.length = n + 3 → nv (2 ^ 64) (A ++ w ++ C) = nv (2 ^ 64) A + (2 ^ 64) ^ j * nv (2 ^ 64) w + (2 ^ 64) ^ (j + (n + 3)) * nv (2 ^ 64) C:=fun w hw=>by
      rw [nv_append,nv_append,hAl,show (A ++ w).length = j + (n + 3) by simp [hAl,hw]]
    have hPj:=Nat.pow_pos (n:=j) (show 0 < 2 ^ 64 by decide)
    have hv1:=hval w hwl
    rw [hAl] at hAlt
    have hC0:nv (2 ^ 64) C = 0:=by
      rcases Nat.eq_zero_or_pos (nv (2 ^ 64) C) with h | h
      · exact h
      · exfalso
        have h1:(2 ^ 64) ^ (j + (n + 3)) * 1 ≤ (2 ^ 64) ^ (j + (n + 3)) * nv (2 ^ 64) C:=Nat.mul_le_mul_left _ h
        have h2:nv (2 ^ 64) v * (2 ^ 64) ^ (j + 1) ≤ (2 ^ 64) ^ (n + 2) * (2 ^ 64) ^ (j + 1):=Nat.mul_le_mul_right _ (by rw [hvl] at hVl; omega)
        rw [← Nat.pow_add,show n + 2 + (j + 1) = j + (n + 3) by omega] at h2
        omega
    rw [hC0,Nat.mul_zero,Nat.add_zero] at hv1
    have hwlt:nv (2 ^ 64) w < nv (2 ^ 64) v * 2 ^ 64:=by
      have h1:(2 ^ 64) ^ j * nv (2 ^ 64) w < (2 ^ 64) ^ j * (nv (2 ^ 64) v * 2 ^ 64):=by
        rw [pow_up,← Nat.mul_assoc] at hlt
        rw [Nat.mul_left_comm,← Nat.mul_assoc]
        omega
      exact Nat.lt_of_mul_lt_mul_left h1
    obtain ⟨out,o1,o2,o3,o4⟩:=T332_eq A w C v hvl hwl hwd hv (by omega) hwlt
    rw [hAl,hwl] at o4
    have hout:out.length = n + 3:=by omega
    have hv2:=hval out hout
    rw [hC0,Nat.mul_zero,Nat.add_zero,o3] at hv2
    have hdm:=Nat.div_add_mod (nv (2 ^ 64) w) (nv (2 ^ 64) v)
    have hml:=Nat.mod_lt (nv (2 ^ 64) w) hV0
    have hq64:nv (2 ^ 64) w / nv (2 ^ 64) v < 2 ^ 64:=by rw [Nat.div_lt_iff_lt_mul hV0,Nat.mul_comm]; exact hwlt
    have e0:decide ((j:Int) ≥ 0) = true:=decide_eq_true (by omega)
    have e1:decide ((0:Int) ≤ (j:Int)) = true:=decide_eq_true (by omega)
    have e3:IntKind.wrap .i64 (IntKind.wrap .i64 ((j:Int) + (v.length:Int)) + 1) = ((j + (n + 3):Nat):Int):=by
      rw [wrapI (n:=(j:Int) + _) (by omega),wrapI (by omega)]; omega
    have e4:decide ((j:Int) ≤ ((j + (n + 3):Nat):Int)) = true:=decide_eq_true (by omega)
    have e5:decide ((((j + (n + 3):Nat):Int)) ≤ ((Wd (A ++ w ++ C)).length:Int)) = true:=decide_eq_true (by rw [Wd_len]; simp; omega)
    have e6:decide ((j:Int) < ((Wd (List.replicate (j + 1) 0 ++ qs)).length:Int)) = true:=decide_eq_true (by rw [Wd_len]; simp; omega)
    have e7:IntKind.wrap .i64 ((j:Int) - 1) = (j:Int) - 1:=wrapI (by omega)
    have hset:∀ z:Nat,(Wd (List.replicate (j + 1) 0 ++ qs)).set j (z:Int) = Wd (List.replicate j 0 ++ (z :: qs)):=fun z=>by
      rw [Wd_set,List.set_append_left _ _ (by simp),List.replicate_succ',List.set_append_right _ _ (by simp)]
      simp
    have e8:j + (n + 3) - j = n + 3:=by omega
    dsimp only
    simp only [ei,e0,e1,e3,e4,e5,e6,e7,Bool.and_self,cond_true,Int.toNat_natCast,e8]
    rw [pre332 o4,fun332 o4,cond_true]
    dsimp only
    rw [hset]
    refine hL _ ⟨j,nv (2 ^ 64) w / nv (2 ^ 64) v :: qs,A ++ out ++ C,by omega,by simp; omega,?_,by simp; omega,?_,?_,?_,rfl⟩ (by dsimp only; omega)
    · intro x hx
      rcases List.mem_cons.1 hx with rfl | hx
      · exact hq64
      · exact hqd x hx
    · intro x hx
      rcases List.mem_append.1 hx with hx | hx
      · rcases List.mem_append.1 hx with hx | hx
        · exact hAd x hx
        · exact o2 x hx
      · exact hCd x hx
    · rw [hv2]
      have:(2 ^ 64) ^ j * (nv (2 ^ 64) w % nv (2 ^ 64) v + 1) ≤ (2 ^ 64) ^ j * nv (2 ^ 64) v:=Nat.mul_le_mul_left _ hml
      rw [Nat.mul_add,Nat.mul_one] at this
      rw [Nat.mul_comm (nv (2 ^ 64) v)]
      omega
    · rw [hv2,hinv,hv1]
      show _ = (nv (2 ^ 64) w / nv (2 ^ 64) v + 2 ^ 64 * nv (2 ^ 64) qs) * (2 ^ 64) ^ j * nv (2 ^ 64) v + _
      have h1:(2 ^ 64) ^ j * nv (2 ^ 64) w = (2 ^ 64) ^ j * (nv (2 ^ 64) v * (nv (2 ^ 64) w / nv (2 ^ 64) v)) + (2 ^ 64) ^ j * (nv (2 ^ 64) w % nv (2 ^ 64) v):=by rw [← Nat.mul_add,hdm]
      rw [h1,pow_up,Nat.add_mul,Nat.add_mul]
      generalize nv (2 ^ 64) w / nv (2 ^ 64) v = q
      generalize nv (2 ^ 64) v = V
      generalize (2 ^ 64) ^ j = P
      have h2:nv (2 ^ 64) qs * (P * 2 ^ 64) * V = 2 ^ 64 * nv (2 ^ 64) qs * P * V:=by rw [Nat.mul_comm P,← Nat.mul_assoc,Nat.mul_comm (nv (2 ^ 64) qs)]
      have h3:P * (V * q) = q * P * V:=by rw [Nat.mul_comm V,← Nat.mul_assoc,Nat.mul_comm P]
      rw [h2,h3]
      omega
end VL
namespace VL
open Go Vx
theorem dg_len_ge {x k:Nat} (h:(2 ^ 64) ^ k ≤ x):k < (dg (2 ^ 64) x).length:=by
  have:=dg_len_gt (B:=2 ^ 64) (by decide) x
  exact (Nat.pow_lt_pow_iff_right (a:=2 ^ 64) (by decide)).1 (Nat.lt_of_le_of_lt h this)
theorem dg_top {x:Nat} (h0:x ≠ 0):∃ t,(dg (2 ^ 64) x).getD ((dg (2 ^ 64) x).length - 1) 0 = t ∧ t ≠ 0 ∧ t < 2 ^ 64 ∧ blen x = 64 * ((dg (2 ^ 64) x).length - 1) + blen t ∧ 0 < (dg (2 ^ 64) x).length:=by
  have hl:0 < (dg (2 ^ 64) x).length:=by rw [dg_pos (by decide) (by omega)]; simp
  have ht:=dg_trim (B:=2 ^ 64) (by decide) x
  have h1:=trim_last (dg (2 ^ 64) x) (by rw [ht]; exact hl)
  have h2:=blen_row (dg_lt (B:=2 ^ 64) (by decide) x) (by rw [ht]; exact hl)
  rw [ht] at h1 h2
  rw [nv_Dw] at h2
  exact ⟨_,rfl,h1,getD_lt (by decide) (dg_lt (by decide) x) _,h2,hl⟩
theorem pow64_2 (k:Nat):(2 ^ 64) ^ k = 2 ^ (64 * k):=(Nat.pow_mul ..).symm
theorem T333_eq {a b:Nat} (ha:a < (2 ^ 64) ^ 4000) (hb:b < (2 ^ 64) ^ 4000) (h0:b ≠ 0):T333 (Dw a,Dw b,()) = some (Dw (a / b),Dw (a % b),()):=by
  have up:∀ {x:Nat},x < (2 ^ 64) ^ 4000 → x < (2 ^ 64) ^ 5000:=fun h=>Nat.lt_of_lt_of_le h (Nat.pow_le_pow_right (by decide) (by decide))
  show t333 S1146.pre S1146.F S1329.pre S1329.F S144.pre S144.F S146.pre S146.F S329.pre S329.F S327.pre S327.F S186.pre S186.F S332.pre S332.F S173.pre S173.F S171.pre S171.F W333_14 (Dw a) (Dw b) = _
  unfold t333
  have pa:=T173_dw (up ha)
  have pb:=T173_dw (up hb)
  have pc:=T144_eq (up ha) (up hb)
  have wa:=Dw_ws (up ha)
  have wb:=Dw_ws (up hb)
  have hla:(dg (2 ^ 64) a).length ≤ 4000:=dg_len_le (by decide) _ _ ha
  have hlb:(dg (2 ^ 64) b).length ≤ 4000:=dg_len_le (by decide) _ _ hb
  have pcopy:=T1146_eq (dg (2 ^ 64) a) wa
  rw [nv_Dw] at pcopy
  have pcopy:T1146 (Dw a,()) = some (Dw a,()):=pcopy
  obtain ⟨t,ht,ht0,ht64,hbt,hlp⟩:=dg_top h0
  have hLen:∀ x:Nat,(Dw x).length = (dg (2 ^ 64) x).length:=fun x=>Wd_len _
  have hGet:∀ (x i:Nat),(Dw x).getD i 0 = (((dg (2 ^ 64) x).getD i 0:Nat):Int):=fun x i=>Wd_getD _ _
  dsimp only
  simp only [pre173 pa,fun173 pa,pre173 pb,fun173 pb,pre144 pc,fun144 pc,cond_true]
  by_cases hlt:a < b
  · have e0:decide ((if a = b then (0:Int) else if a < b then -1 else 1) < 0) = true:=by rw [if_neg (by omega),if_pos hlt]; rfl
    simp only [e0,cond_true,pre1146 pcopy,fun1146 pcopy]
    rw [Nat.div_eq_of_lt hlt,Nat.mod_eq_of_lt hlt,Dw_zero]
  have e0:decide ((if a = b then (0:Int) else if a < b then -1 else 1) < 0) = false:=by
    rw [if_neg hlt]
    split <;> rfl
  simp only [e0,cond_false]
  by_cases h1:(dg (2 ^ 64) b).length = 1
  · have e1:(((Dw b).length:Int) == 1) = true:=by rw [hLen,h1]; rfl
    have hb64:b < 2 ^ 64:=by
      have:=dg_len_gt (B:=2 ^ 64) (by decide) b
      rw [h1,Nat.pow_one] at this
      exact this
    have e2:decide ((0:Int) < ((Dw b).length:Int)) = true:=by rw [hLen,h1]; rfl
    have e3:(Dw b).getD (Int.toNat 0) 0 = (b:Int):=by rw [Int.toNat_zero,Dw_get,Nat.mod_eq_of_lt hb64]
    have p0:=T1329_eq (up ha) (Nat.pos_of_ne_zero h0) hb64
    have hr:a % b < b:=Nat.mod_lt _ (Nat.pos_of_ne_zero h0)
    have p1:=T173_eq [a % b] (by simp)
    rw [trim_Dw (by intro x hx; rw [List.mem_singleton] at hx; omega),show nv (2 ^ 64) [a % b] = a % b by simp [nv]] at p1
    have p1:T173 ((((a % b:Nat):Int) :: []),()) = _:=p1
    simp only [e1,e2,e3,cond_true,pre1146 pcopy,fun1146 pcopy,pre1329 p0,fun1329 p0,pre173 p1,fun173 p1]
  have e1:(((Dw b).length:Int) == 1) = false:=by
    rw [hLen]
    exact ibeq_f _ _ (by omega)
  simp only [e1,cond_false]
  -- the lengths
  obtain ⟨n,hn⟩:∃ n,(dg (2 ^ 64) b).length = n + 2:=⟨(dg (2 ^ 64) b).length - 2,by omega⟩
  have hab:(dg (2 ^ 64) b).length ≤ (dg (2 ^ 64) a).length:=dg_len_mono (by decide) (by omega)
  obtain ⟨Q,hQ⟩:∃ Q,(dg (2 ^ 64) a).length + 1 = Q + n + 2:=⟨(dg (2 ^ 64) a).length + 1 - (n + 2),by omega⟩
  rw [show (dg (2 ^ 64) b).length - 1 = n + 1 by omega] at ht hbt
  have hbl:=blen_bound ht64
  have hbl1:=blen_pos ht0
  generalize hs:64 - blen t = s at *
  have p327:=T327_eq ht64
  rw [hs] at p327
  have hub:=blen_lt b
  have hlob:=blen_le h0
  have hp:=Nat.two_pow_pos s
  have hV1:b * 2 ^ s < 2 ^ (64 * (n + 2)):=by
    have h2:b * 2 ^ s < 2 ^ blen b * 2 ^ s:=Nat.mul_lt_mul_of_pos_right hub hp
    rw [← Nat.pow_add,show blen b + s = 64 * (n + 2) by omega] at h2
    exact h2
  have hV2:2 ^ (64 * (n + 2) - 1) ≤ b * 2 ^ s:=by
    have h2:2 ^ (blen b - 1) * 2 ^ s ≤ b * 2 ^ s:=Nat.mul_le_mul_right _ hlob
    rw [← Nat.pow_add,show blen b - 1 + s = 64 * (n + 2) - 1 by omega] at h2
    exact h2
  have hvlen:(dg (2 ^ 64) (b * 2 ^ s)).length = n + 2:=by
    have h2:(dg (2 ^ 64) (b * 2 ^ s)).length ≤ n + 2:=dg_len_le (by decide) _ _ (by rw [pow64_2]; exact hV1)
    have h3:=dg_len_ge (x:=b * 2 ^ s) (k:=n + 1) (by
      rw [pow64_2]
      exact Nat.le_trans (Nat.pow_le_pow_right (by decide) (by omega)) hV2)
    omega
  have hA:a * 2 ^ s < 2 ^ (64 * (dg (2 ^ 64) a).length + s):=by
    have h2:=dg_len_gt (B:=2 ^ 64) (by decide) a
    rw [pow64_2] at h2
    rw [Nat.pow_add]
    exact Nat.mul_lt_mul_of_pos_right h2 hp
  have hulen:(dg (2 ^ 64) (a * 2 ^ s)).length ≤ Q + n + 2:=dg_len_le (by decide) _ _ (by
    rw [pow64_2]
    exact Nat.lt_of_lt_of_le hA (Nat.pow_le_pow_right (by decide) (by omega)))
  have hstart:a * 2 ^ s < b * 2 ^ s * (2 ^ 64) ^ Q:=by
    have h2:2 ^ (64 * (n + 2) - 1) * 2 ^ (64 * Q) ≤ b * 2 ^ s * 2 ^ (64 * Q):=Nat.mul_le_mul_right _ hV2
    rw [← Nat.pow_add] at h2
    rw [pow64_2]
    exact Nat.lt_of_lt_of_le (Nat.lt_of_lt_of_le hA (Nat.pow_le_pow_right (by decide) (by omega))) h2
  have pv:=T186_eq (dg (2 ^ 64) b) wb s (by rw [dg_trim (by decide)]; omega)
  have pu:=T186_eq (dg (2 ^ 64) a) wa s (by rw [dg_trim (by decide)]; omega)
  rw [nv_Dw] at pv pu
  have pv:T186 (Dw b,(s:Int),()) = some (Dw (b * 2 ^ s),()):=pv
  have pu:T186 (Dw a,(s:Int),()) = some (Dw (a * 2 ^ s),()):=pu
  have e17:IntKind.wrap .i64 (((Dw b).length:Int) - 1) = ((n + 1:Nat):Int):=by rw [hLen,wrapI (by omega)]; omega
  have e18:IntKind.wrap .i64 (((Dw a).length:Int) + 1) = ((Q + n + 2:Nat):Int):=by rw [hLen,wrapI (by omega)]; omega
  have eg:(Dw b).getD (Int.toNat ((n + 1:Nat):Int)) 0 = (t:Int):=by rw [Int.toNat_natCast,hGet,ht]
  have e2:(decide ((0:Int) ≤ ((n + 1:Nat):Int)) && decide (((n + 1:Nat):Int) < ((Dw b).length:Int))) = true:=by
    rw [hLen,decide_eq_true (by omega),decide_eq_true (by omega)]; rfl
  have e3:(decide ((0:Int) ≤ ((Q + n + 2:Nat):Int)) && decide (((Q + n + 2:Nat):Int) * 8 ≤ 140737488355328)) = true:=by
    rw [decide_eq_true (by omega),decide_eq_true (by omega)]; rfl
  -- the row u
  generalize hud:dg (2 ^ 64) (a * 2 ^ s) ++ List.replicate (Q + n + 2 - (dg (2 ^ 64) (a * 2 ^ s)).length) 0 = us
  have husl:us.length = Q + n + 2:=by rw [← hud,List.length_append,List.length_replicate]; omega
  have hus:∀ x ∈ us,x < 2 ^ 64:=by
    rw [← hud]
    intro x hx
    rcases List.mem_append.1 hx with hx | hx
    · exact dg_lt (by decide) _ x hx
    · have:=(List.mem_replicate.1 hx).2
      omega
  have husv:nv (2 ^ 64) us = a * 2 ^ s:=by rw [← hud,nv_append,nv_rep,Nat.mul_zero,Nat.add_zero,nv_Dw]
  have hrow:(Dw (a * 2 ^ s)).take (List.replicate (Int.toNat ((Q + n + 2:Nat):Int)) (0:Int)).length ++ (List.replicate (Int.toNat ((Q + n + 2:Nat):Int)) (0:Int)).drop (Dw (a * 2 ^ s)).length = Wd us:=by
    rw [Int.toNat_natCast,List.length_replicate,Wd_rep,hLen,Wd_drop,List.drop_replicate]
    unfold Dw
    rw [Wd_take,List.take_of_length_le hulen,← hud]
    unfold Wd
    rw [List.map_append]
  have e11:IntKind.wrap .i64 (((Wd us).length:Int) - ((Dw (b * 2 ^ s)).length:Int)) = (Q:Int):=by
    rw [Wd_len,husl,hLen,hvlen,wrapI (by omega)]; omega
  have e4:(decide ((0:Int) ≤ (Q:Int)) && decide ((Q:Int) * 8 ≤ 140737488355328)) = true:=by
    rw [decide_eq_true (by omega),decide_eq_true (by omega)]; rfl
  have e5:IntKind.wrap .i64 (((List.replicate (Int.toNat (Q:Int)) (0:Int)).length:Int) - 1) = (Q:Int) - 1:=by
    rw [Int.toNat_natCast,List.length_replicate,wrapI (by omega)]
  obtain ⟨qs,us',k1,k2,k3,k4,k5,k6,k7⟩:=W333_eq (dg (2 ^ 64) (b * 2 ^ s)) hvlen (dg_lt (by decide) _) (by omega) (X:=a * 2 ^ s) Q (by omega) (s:Int) us husl hus husv (by rw [nv_Dw]; exact hstart)
  rw [nv_Dw] at k3 k6
  rw [Nat.mul_div_mul_right _ _ hp] at k3
  rw [Nat.mul_mod_mul_right] at k6
  have k7:W333_14 (((Dw (b * 2 ^ s),(((Q:Int) - 1),((),((),(((Dw (b * 2 ^ s)).length:Int),((s:Int),())))))),(Wd us,((List.replicate (Int.toNat (Q:Int)) (0:Int)),()))):P333_14.D) = some (.inl (((),((),(((n + 2:Nat):Int),((s:Int),())))),(Wd us',(Wd qs,())))):=by
    rw [Int.toNat_natCast,Wd_rep,hLen]
    rw [hvlen] at k7 ⊢
    exact k7
  simp only [e17,eg,pre327 p327,fun327 p327,pre186 pv,fun186 pv,pre186 pu,fun186 pu,e18,e2,e3,cond_true,hrow,e11,e4,e5]
  rw [k7]
  dsimp only [obind,obind2]
  have pq:=T173_eq qs (by omega)
  rw [trim_Dw k2,k3] at pq
  have hnl:nv (2 ^ 64) (us'.take (n + 2)) = a % b * 2 ^ s:=by
    have h2:=nv_split (2 ^ 64) us' (n + 2) (by omega)
    have h3:nv (2 ^ 64) (us'.drop (n + 2)) = 0:=by
      rcases Nat.eq_zero_or_pos (nv (2 ^ 64) (us'.drop (n + 2))) with h | h
      · exact h
      · exfalso
        have h4:(2 ^ 64) ^ (n + 2) * 1 ≤ (2 ^ 64) ^ (n + 2) * nv (2 ^ 64) (us'.drop (n + 2)):=Nat.mul_le_mul_left _ h
        have h5:a % b * 2 ^ s < b * 2 ^ s:=Nat.mul_lt_mul_of_pos_right (Nat.mod_lt _ (Nat.pos_of_ne_zero h0)) hp
        rw [pow64_2] at h4 h2
        omega
    rw [h3,Nat.mul_zero,Nat.add_zero] at h2
    rw [← h2,k6]
  have pr:=T171_eq (us'.take (n + 2)) ⟨fun x hx=>k5 x (List.mem_of_mem_take hx),by simp; omega⟩ s (by omega)
  rw [hnl,Nat.mul_div_cancel _ hp] at pr
  have pr:T171 (Wd (us'.take (n + 2)),(s:Int),()) = some (Dw (a % b),()):=pr
  have e6:(decide ((0:Int) ≤ ((n + 2:Nat):Int)) && decide (((n + 2:Nat):Int) ≤ ((Wd us').length:Int))) = true:=by
    rw [Wd_len,k4,decide_eq_true (by omega),decide_eq_true (by omega)]; rfl
  have e7:((Wd us').take (Int.toNat ((n + 2:Nat):Int))).drop (Int.toNat 0) = Wd (us'.take (n + 2)):=by
    rw [Int.toNat_natCast,Int.toNat_zero,Wd_take,List.drop_zero]
  simp only [pre173 pq,fun173 pq,e6,e7,pre171 pr,fun171 pr,cond_true]
theorem great_no {l:List (List Nat)} (hl:∀ x ∈ l,x.length ≤ 1024) (hn:l.length ≤ 1000000):T185 (l.map Wd,()) = some (false,()):=by
  have:=T185_eq l (fun x hx=>by have:=hl x hx; omega) hn
  rw [this,decide_eq_true (fun x hx=>Nat.le_trans (trim_len x).1 (hl x hx))]; rfl
theorem T345_eq {a b:Nat} (ha:a < (2 ^ 64) ^ 1024) (hb:b < (2 ^ 64) ^ 1024) (h0:b ≠ 0):T345 (Dw a,Dw b,()) = some (Dw (a / b),Dw (a % b),0,()):=by
  have up:∀ {x:Nat},x < (2 ^ 64) ^ 1024 → x < (2 ^ 64) ^ 4000:=fun h=>Nat.lt_of_lt_of_le h (Nat.pow_le_pow_right (by decide) (by decide))
  have up5:∀ {x:Nat},x < (2 ^ 64) ^ 1024 → x < (2 ^ 64) ^ 5000:=fun h=>Nat.lt_of_lt_of_le h (Nat.pow_le_pow_right (by decide) (by decide))
  show t345 S185.pre S185.F S173.pre S173.F S333.pre S333.F (Dw a) (Dw b) = _
  unfold t345
  have p0:=great_no (l:=[dg (2 ^ 64) a,dg (2 ^ 64) b]) (by
    intro x hx
    rcases List.mem_cons.1 hx with rfl | hx
    · exact dg_len_le (by decide) _ _ ha
    · rw [List.mem_singleton] at hx
      rw [hx]
      exact dg_len_le (by decide) _ _ hb) (by simp)
  have p0:T185 ((Dw a :: Dw b :: []),()) = some (false,()):=p0
  have p1:=T173_dw (up5 hb)
  have p2:=T333_eq (up ha) (up hb) h0
  have e0:(((Dw b).length:Int) == 0) = false:=by rw [Dw_len0,decide_eq_false h0]
  simp only [pre185 p0,fun185 p0,pre173 p1,fun173 p1,pre333 p2,fun333 p2,cond_true,cond_false,e0]
end VL
namespace VL
open Go Vx
theorem mul_word2 {x y p c:Nat} (hx:x < 2 ^ 64) (hy:y < 2 ^ 64) (hp:p < 2 ^ 64) (hc:c < 2 ^ 64) :
    x * y + p + c = 2 ^ 64 * (x * y / 2 ^ 64 + (x * y % 2 ^ 64 + p) / 2 ^ 64 + ((x * y % 2 ^ 64 + p) % 2 ^ 64 + c) / 2 ^ 64) + ((x * y % 2 ^ 64 + p) % 2 ^ 64 + c) % 2 ^ 64 ∧
      x * y / 2 ^ 64 + (x * y % 2 ^ 64 + p) / 2 ^ 64 + ((x * y % 2 ^ 64 + p) % 2 ^ 64 + c) / 2 ^ 64 < 2 ^ 64:=by
  have:x * y ≤ (2 ^ 64 - 1) * (2 ^ 64 - 1):=Nat.mul_le_mul (by omega) (by omega)
  generalize x * y = z at *
  omega
theorem getD_setI (l:List Nat) (i j v:Nat):(l.set i v).getD j 0 = if i = j ∧ i < l.length then v else l.getD j 0:=by
  rw [List.getD_eq_getElem?_getD,List.getD_eq_getElem?_getD,List.getElem?_set]
  by_cases h:i = j
  · subst h
    by_cases h2:i < l.length
    · simp [h2]
    · simp [h2]
  · simp [h]
theorem mem_set {l:List Nat} {i v B:Nat} (h:∀ x ∈ l,x < B) (hv:v < B):∀ x ∈ l.set i v,x < B:=fun x hx=>by
  rcases List.mem_or_eq_of_mem_set hx with h1 | h1
  · exact h x h1
  · omega
theorem W324b_eq (a b p:List Nat) (hb:∀ x ∈ b,x < 2 ^ 64) (hn:b.length ≤ 100000) {x i:Nat} (hx:x < 2 ^ 64) (hi:i ≤ 100000) (hpl:i + b.length < p.length) (hpn:p.length ≤ 300000) (hpd:∀ z ∈ p,z < 2 ^ 64)
    (hz:∀ k,i + b.length ≤ k → p.getD k 0 = 0) (la:Int) :
    ∃ (p':List Nat) (c:Nat),p'.length = p.length ∧ (∀ z ∈ p',z < 2 ^ 64) ∧ c < 2 ^ 64 ∧ nv (2 ^ 64) p' + (2 ^ 64) ^ (i + b.length) * c = nv (2 ^ 64) p + (2 ^ 64) ^ i * (x * nv (2 ^ 64) b) ∧ (∀ k,i + b.length ≤ k → p'.getD k 0 = 0) ∧
      W324_8 (((b.length:Int),(Wd b,((x:Int),((0:Int),((i:Int),((0:Int),((i:Int),(la,(Wd a,(Wd b,((),()))))))))))),(Wd p,())) = some (.inl (((i:Int),((c:Int),((i:Int),(la,(Wd a,(Wd b,((),()))))))),(Wd p',()))):=by
  have key:=lfix_ex (m324_8 S315.pre S315.F S155.pre S155.F S173.pre S173.F) (fun s=>b.length - s.1.2.2.2.1.toNat)
    (fun s=>∃ (j:Nat) (p':List Nat) (c:Nat),j ≤ b.length ∧ p'.length = p.length ∧ (∀ z ∈ p',z < 2 ^ 64) ∧ c < 2 ^ 64 ∧ nv (2 ^ 64) p' + (2 ^ 64) ^ (i + j) * c = nv (2 ^ 64) p + (2 ^ 64) ^ i * (x * nv (2 ^ 64) (b.take j)) ∧ (∀ k,i + b.length ≤ k → p'.getD k 0 = 0) ∧
      s = (((b.length:Int),(Wd b,((x:Int),((j:Int),((i:Int),((c:Int),((i:Int),(la,(Wd a,(Wd b,((),()))))))))))),(Wd p',())))
    (fun y=>∃ (p':List Nat) (c:Nat),p'.length = p.length ∧ (∀ z ∈ p',z < 2 ^ 64) ∧ c < 2 ^ 64 ∧ nv (2 ^ 64) p' + (2 ^ 64) ^ (i + b.length) * c = nv (2 ^ 64) p + (2 ^ 64) ^ i * (x * nv (2 ^ 64) b) ∧ (∀ k,i + b.length ≤ k → p'.getD k 0 = 0) ∧
      y = .inl (((i:Int),((c:Int),((i:Int),(la,(Wd a,(Wd b,((),()))))))),(Wd p',()))) ?_
    (((b.length:Int),(Wd b,((x:Int),((0:Int),((i:Int),((0:Int),((i:Int),(la,(Wd a,(Wd b,((),()))))))))))),(Wd p,()))
    ⟨0,p,0,Nat.zero_le _,rfl,hpd,by decide,by simp [nv],hz,rfl⟩
  · obtain ⟨y,hy,p',c,k1,k2,k3,k4,k5,rfl⟩:=key
    exact ⟨p',c,k1,k2,k3,k4,k5,hy⟩
  intro L s hs hL
  obtain ⟨j,q,c,hj,hql,hqd,hc,hinv,hqz,rfl⟩:=hs
  unfold h324_8
  rcases Nat.lt_or_ge j b.length with hlt | hge
  · have hy:=getD_lt (by decide) hb j
    have hp:=getD_lt (by decide) hqd (i + j)
    have hnb:=nv_take_next (2 ^ 64) b j
    have hgb:(Wd b).getD j 0 = ((b.getD j 0:Nat):Int):=Wd_getD b j
    have hgq:(Wd q).getD (i + j) 0 = ((q.getD (i + j) 0:Nat):Int):=Wd_getD q _
    have hst:=fun z=>nv_set (2 ^ 64) q (i + j) z (by omega)
    have hgs:=fun z k=>getD_setI q (i + j) k z
    generalize b.getD j 0 = y at *
    generalize q.getD (i + j) 0 = d at *
    have p0:=T315_eq hx hy
    obtain ⟨m1,m2⟩:=mul_word2 hx hy hp hc
    have q1:=addF (x * y % 2 ^ 64) d 0
    have q2:=addP ((x * y % 2 ^ 64:Nat):Int) (d:Int) 0 (by decide)
    have r1:=addF ((x * y % 2 ^ 64 + d) % 2 ^ 64) c 0
    have r2:=addP (((x * y % 2 ^ 64 + d) % 2 ^ 64:Nat):Int) (c:Int) 0 (by decide)
    rw [Nat.add_zero] at q1 r1
    have z0:((0:Nat):Int) = 0:=rfl
    rw [z0] at q1 q2 r1 r2
    have hl:((x * y % 2 ^ 64 + d) % 2 ^ 64 + c) % 2 ^ 64 < 2 ^ 64:=Nat.mod_lt _ (by decide)
    have e5:=wu_add (x * y / 2 ^ 64) ((x * y % 2 ^ 64 + d) / 2 ^ 64) (by omega)
    have e6:=wu_add (x * y / 2 ^ 64 + (x * y % 2 ^ 64 + d) / 2 ^ 64) (((x * y % 2 ^ 64 + d) % 2 ^ 64 + c) / 2 ^ 64) m2
    have e0:decide ((j:Int) < (b.length:Int)) = true:=decide_eq_true (by omega)
    have e1:decide ((0:Int) ≤ (j:Int)) = true:=decide_eq_true (by omega)
    have e2:IntKind.wrap .i64 ((i:Int) + (j:Int)) = ((i + j:Nat):Int):=by rw [wrapI (by omega)]; omega
    have e3:IntKind.wrap .i64 ((j:Int) + 1) = ((j + 1:Nat):Int):=by rw [wrapI (by omega)]; omega
    have e4:decide ((0:Int) ≤ ((i + j:Nat):Int)) = true:=decide_eq_true (by omega)
    have e7:decide (((i + j:Nat):Int) < (q.length:Int)) = true:=decide_eq_true (by omega)
    dsimp only
    simp only [e0,e1,e2,e3,e4,e7,cond_true,Bool.and_self,Wd_len,Int.toNat_natCast,hgb,hgq,pre315 p0,fun315 p0,q1,q2,r1,r2,e5,e6,Wd_set]
    refine hL _ ⟨j + 1,q.set (i + j) (((x * y % 2 ^ 64 + d) % 2 ^ 64 + c) % 2 ^ 64),x * y / 2 ^ 64 + (x * y % 2 ^ 64 + d) / 2 ^ 64 + ((x * y % 2 ^ 64 + d) % 2 ^ 64 + c) / 2 ^ 64,by omega,by rw [List.length_set]; exact hql,mem_set hqd hl,m2,?_,?_,rfl⟩ (by simp only [Int.toNat_natCast]; omega)
    · have h1:=hst (((x * y % 2 ^ 64 + d) % 2 ^ 64 + c) % 2 ^ 64)
      rw [hnb,show i + (j + 1) = i + j + 1 by omega,pow_up,Nat.mul_add x,Nat.mul_add ((2 ^ 64) ^ i),Nat.mul_left_comm x,← Nat.mul_assoc ((2 ^ 64) ^ i) ((2 ^ 64) ^ j),← Nat.pow_add]
      generalize ((x * y % 2 ^ 64 + d) % 2 ^ 64 + c) % 2 ^ 64 = o at *
      generalize x * y / 2 ^ 64 + (x * y % 2 ^ 64 + d) / 2 ^ 64 + ((x * y % 2 ^ 64 + d) % 2 ^ 64 + c) / 2 ^ 64 = c' at *
      generalize x * y = z at *
      have h2:(2 ^ 64) ^ (i + j) * (z + d + c) = (2 ^ 64) ^ (i + j) * (2 ^ 64 * c' + o):=by rw [m1]
      rw [Nat.mul_add,Nat.mul_add,Nat.mul_add,← Nat.mul_assoc ((2 ^ 64) ^ (i + j)) (2 ^ 64)] at h2
      omega
    · intro k hk
      rw [hgs,if_neg (by omega)]
      exact hqz k hk
  · have e:j = b.length:=by omega
    subst e
    have e0:decide ((b.length:Int) < (b.length:Int)) = false:=decide_eq_false (by omega)
    dsimp only
    simp only [e0,cond_false]
    rw [List.take_length] at hinv
    exact ⟨_,rfl,q,c,hql,hqd,hc,hinv,hqz,rfl⟩
theorem W324a_eq (a b:List Nat) (ha:∀ x ∈ a,x < 2 ^ 64) (hb:∀ x ∈ b,x < 2 ^ 64) (hna:a.length ≤ 100000) (hnb:b.length ≤ 100000) :
    ∃ p:List Nat,p.length = a.length + b.length ∧ (∀ z ∈ p,z < 2 ^ 64) ∧ nv (2 ^ 64) p = nv (2 ^ 64) a * nv (2 ^ 64) b ∧
      W324_4 ((((a.length:Int),(Wd a,(Wd b,((0:Int),((),()))))),(Wd (List.replicate (a.length + b.length) 0),())):P324_4.D) = some (.inl (((),()),(Wd p,()))):=by
  have key:=lfix_ex (m324_4 S315.pre S315.F S155.pre S155.F S173.pre S173.F W324_8) (fun s=>a.length - s.1.2.2.2.1.toNat)
    (fun s=>∃ (i:Nat) (p:List Nat),i ≤ a.length ∧ p.length = a.length + b.length ∧ (∀ z ∈ p,z < 2 ^ 64) ∧ nv (2 ^ 64) p = nv (2 ^ 64) (a.take i) * nv (2 ^ 64) b ∧ (∀ k,i + b.length ≤ k → p.getD k 0 = 0) ∧
      s = (((a.length:Int),(Wd a,(Wd b,((i:Int),((),()))))),(Wd p,())))
    (fun y=>∃ p:List Nat,p.length = a.length + b.length ∧ (∀ z ∈ p,z < 2 ^ 64) ∧ nv (2 ^ 64) p = nv (2 ^ 64) a * nv (2 ^ 64) b ∧ y = .inl (((),()),(Wd p,()))) ?_
    (((a.length:Int),(Wd a,(Wd b,((0:Int),((),()))))),(Wd (List.replicate (a.length + b.length) 0),()))
    ⟨0,List.replicate (a.length + b.length) 0,Nat.zero_le _,by simp,(fun z hz=>by have:=(List.mem_replicate.1 hz).2; omega),by rw [nv_rep]; simp [nv],(fun k _=>by
      rw [List.getD_eq_getElem?_getD,List.getElem?_replicate]; split <;> rfl),rfl⟩
  · obtain ⟨y,hy,p,k1,k2,k3,rfl⟩:=key
    exact ⟨p,k1,k2,k3,hy⟩
  intro L s hs hL
  obtain ⟨i,p,hi,hpl,hpd,hinv,hz,rfl⟩:=hs
  unfold h324_4
  rcases Nat.lt_or_ge i a.length with hlt | hge
  · have hx:=getD_lt (by decide) ha i
    have hna':=nv_take_next (2 ^ 64) a i
    have hga:(Wd a).getD i 0 = ((a.getD i 0:Nat):Int):=Wd_getD a i
    obtain ⟨p',c,k1,k2,k3,k4,k5,k6⟩:=W324b_eq a b p hb hnb hx (i:=i) (by omega) (by omega) (by omega) hpd hz (a.length:Int)
    have e0:decide ((i:Int) < (a.length:Int)) = true:=decide_eq_true (by omega)
    have e1:decide ((0:Int) ≤ (i:Int)) = true:=decide_eq_true (by omega)
    have e2:IntKind.wrap .i64 ((i:Int) + (b.length:Int)) = ((i + b.length:Nat):Int):=by rw [wrapI (by omega)]; omega
    have e3:IntKind.wrap .i64 ((i:Int) + 1) = ((i + 1:Nat):Int):=by rw [wrapI (by omega)]; omega
    have e4:decide ((0:Int) ≤ ((i + b.length:Nat):Int)) = true:=decide_eq_true (by omega)
    have e5:decide (((i + b.length:Nat):Int) < (p'.length:Int)) = true:=decide_eq_true (by omega)
    dsimp only
    simp only [e0,e1,cond_true,Bool.and_self,Wd_len,Int.toNat_natCast,hga]
    rw [k6]
    dsimp only [obind,obind2]
    simp only [e2,e3,e4,e5,cond_true,Bool.and_self,Wd_len,Int.toNat_natCast,Wd_set]
    refine hL _ ⟨i + 1,p'.set (i + b.length) c,by omega,by rw [List.length_set]; omega,mem_set k2 k3,?_,?_,rfl⟩ (by simp only [Int.toNat_natCast]; omega)
    · have h1:=nv_set (2 ^ 64) p' (i + b.length) c (by omega)
      rw [k5 _ (Nat.le_refl _),Nat.mul_zero,Nat.add_zero] at h1
      rw [h1,k4,hinv,hna',Nat.add_mul,Nat.mul_assoc]
    · intro k hk
      rw [getD_setI,if_neg (by omega)]
      exact k5 k (by omega)
  · have e:i = a.length:=by omega
    subst e
    have e0:decide ((a.length:Int) < (a.length:Int)) = false:=decide_eq_false (by omega)
    simp only [e0,cond_false]
    rw [List.take_length] at hinv
    exact ⟨_,rfl,p,hpl,hpd,hinv,rfl⟩
theorem T324_eq {a b:Nat} (ha:a < (2 ^ 64) ^ 5000) (hb:b < (2 ^ 64) ^ 5000):T324 (Dw a,Dw b,()) = some (Dw (a * b),()):=by
  show t324 S315.pre S315.F S155.pre S155.F S173.pre S173.F W324_4 W324_8 (Dw a) (Dw b) = _
  unfold t324
  have pa:=T173_dw ha
  have pb:=T173_dw hb
  have hla:(dg (2 ^ 64) a).length ≤ 5000:=dg_len_le (by decide) _ _ ha
  have hlb:(dg (2 ^ 64) b).length ≤ 5000:=dg_len_le (by decide) _ _ hb
  obtain ⟨p,k1,k2,k3,k4⟩:=W324a_eq (dg (2 ^ 64) a) (dg (2 ^ 64) b) (dg_lt (by decide) _) (dg_lt (by decide) _) (by omega) (by omega)
  rw [nv_Dw,nv_Dw] at k3
  have hLen:∀ x:Nat,(Dw x).length = (dg (2 ^ 64) x).length:=fun x=>Wd_len _
  have e0:IntKind.wrap .i64 (((Dw a).length:Int) + ((Dw b).length:Int)) = (((dg (2 ^ 64) a).length + (dg (2 ^ 64) b).length:Nat):Int):=by rw [hLen,hLen,wrapI (by omega)]; omega
  have e1:(decide ((0:Int) ≤ (((dg (2 ^ 64) a).length + (dg (2 ^ 64) b).length:Nat):Int)) && decide ((((dg (2 ^ 64) a).length + (dg (2 ^ 64) b).length:Nat):Int) * 8 ≤ 140737488355328)) = true:=by
    rw [decide_eq_true (by omega),decide_eq_true (by omega)]; rfl
  have k4:W324_4 (((((Dw a).length:Int),(Dw a,(Dw b,((0:Int),((),()))))),((List.replicate (Int.toNat (((dg (2 ^ 64) a).length + (dg (2 ^ 64) b).length:Nat):Int)) (0:Int)),())):P324_4.D) = some (.inl (((),()),(Wd p,()))):=by
    rw [Int.toNat_natCast,Wd_rep,hLen]
    exact k4
  have p0:=T173_eq p (by omega)
  rw [trim_Dw k2,k3] at p0
  dsimp only
  simp only [pre173 pa,fun173 pa,pre173 pb,fun173 pb,cond_true,e0,e1]
  rw [k4]
  dsimp only [obind,obind2]
  simp only [pre173 p0,fun173 p0,cond_true]
theorem T325_eq {a b:Nat} (ha:a < (2 ^ 64) ^ 1024) (hb:b < (2 ^ 64) ^ 1024) (hab:a * b < (2 ^ 64) ^ 1024):T325 (Dw a,Dw b,()) = some (Dw (a * b),0,()):=by
  have up5:∀ {x:Nat},x < (2 ^ 64) ^ 1024 → x < (2 ^ 64) ^ 5000:=fun h=>Nat.lt_of_lt_of_le h (Nat.pow_le_pow_right (by decide) (by decide))
  show t325 S324.pre S324.F S185.pre S185.F (Dw a) (Dw b) = _
  unfold t325
  have p0:=great_no (l:=[dg (2 ^ 64) a,dg (2 ^ 64) b]) (by
    intro x hx
    rcases List.mem_cons.1 hx with rfl | hx
    · exact dg_len_le (by decide) _ _ ha
    · rw [List.mem_singleton] at hx
      rw [hx]
      exact dg_len_le (by decide) _ _ hb) (by simp)
  have p0:T185 ((Dw a :: Dw b :: []),()) = some (false,()):=p0
  have p2:=great_no (l:=[dg (2 ^ 64) (a * b)]) (by
    intro x hx
    rw [List.mem_singleton] at hx
    rw [hx]
    exact dg_len_le (by decide) _ _ hab) (by simp)
  have p2:T185 ((Dw (a * b) :: []),()) = some (false,()):=p2
  have p1:=T324_eq (up5 ha) (up5 hb)
  simp only [pre185 p0,fun185 p0,pre324 p1,fun324 p1,pre185 p2,fun185 p2,cond_true,cond_false]
theorem T326_eq {n k:Nat} (hn:n < 2 ^ 64) (hk:k ≤ 10000):T326 ((n:Int),(k:Int),()) = some (Dw (n * n * 2 ^ (2 * k)),()):=by
  show t326 S325.pre S325.F S176.pre S176.F (n:Int) (k:Int) = _
  unfold t326
  dsimp only
  rcases Nat.eq_zero_or_pos n with rfl | hn0
  · have e0:0 * 0 * 2 ^ (2 * k) = 0:=by simp
    rw [e0,Dw_zero]
    rfl
  have hnn:n * n < (2 ^ 64) ^ 2:=by
    rw [show (2 ^ 64) ^ 2 = 2 ^ 64 * 2 ^ 64 by decide]
    exact Nat.mul_lt_mul'' hn hn
  have h1:n < (2 ^ 64) ^ 1024:=Nat.lt_of_lt_of_le (show n < (2 ^ 64) ^ 1 by rw [Nat.pow_one]; exact hn) (Nat.pow_le_pow_right (by decide) (by decide))
  have h2:n * n < (2 ^ 64) ^ 1024:=Nat.lt_of_lt_of_le hnn (Nat.pow_le_pow_right (by decide) (by decide))
  have p0:=T325_eq h1 h1 h2
  rw [Dw_small (by omega) hn] at p0
  have e1:((n:Int) == 0) = false:=beq0_f _ (by omega)
  have e2:IntKind.wrap .i64 (2 * (k:Int)) = ((2 * k:Nat):Int):=by rw [wrapI (by omega)]; omega
  have h3:n * n * 2 ^ (2 * k) < (2 ^ 64) ^ 1024:=by
    rw [pow64_2] at hnn ⊢
    have h4:n * n * 2 ^ (2 * k) < 2 ^ (64 * 2) * 2 ^ (2 * k):=Nat.mul_lt_mul_of_pos_right hnn (Nat.two_pow_pos _)
    rw [← Nat.pow_add] at h4
    exact Nat.lt_of_lt_of_le h4 (Nat.pow_le_pow_right (by decide) (by omega))
  have p1:=T176_eq (dg (2 ^ 64) (n * n)) (Dw_ws (Nat.lt_of_lt_of_le h2 (Nat.pow_le_pow_right (by decide) (by decide)))) (2 * k) (by omega) (by rw [nv_Dw]; exact h3)
  rw [nv_Dw] at p1
  have p1:T176 (Dw (n * n),((2 * k:Nat):Int),()) = _:=p1
  simp only [e1,cond_false,pre325 p0,fun325 p0,cond_true,e2,pre176 p1,fun176 p1]
theorem newton_ge {A x:Nat} (hx:0 < x):isq A ≤ (x + A / x) / 2:=by
  have h1:=isq_le A
  generalize isq A = r at *
  have h3:A < (A / x + 1) * x:=by
    have:=Nat.lt_div_mul_add hx (a:=A)
    rw [Nat.add_mul,Nat.one_mul]; exact this
  generalize A / x = q at *
  rcases Nat.lt_or_ge ((x + q) / 2) r with h | h
  · exfalso
    have h2:q + 1 ≤ 2 * r - x:=by omega
    have h4:(q + 1) * x ≤ (2 * r - x) * x:=Nat.mul_le_mul_right _ h2
    have h5:(2 * r - x) * x ≤ r * r:=by
      rcases Nat.le_total x r with h6 | h6
      · obtain ⟨d,rfl⟩:∃ d,r = x + d:=⟨r - x,by omega⟩
        rw [show 2 * (x + d) - x = x + 2 * d by omega,Nat.add_mul,Nat.mul_add,Nat.add_mul,Nat.add_mul,Nat.mul_comm x d,Nat.mul_assoc 2]
        omega
      · obtain ⟨d,rfl⟩:∃ d,x = r + d:=⟨x - r,by omega⟩
        have:2 * r - (r + d) = r - d:=by omega
        rw [this,Nat.mul_add,Nat.sub_mul,Nat.sub_mul]
        have h7:d * r ≤ r * r:=Nat.mul_le_mul_right _ (by omega)
        rw [Nat.mul_comm r d]
        omega
    omega
  · exact h
theorem newton_end {A x:Nat} (hx:isq A ≤ x) (h:x ≤ (x + A / x) / 2) (h0:0 < x):x = isq A:=by
  have h1:x ≤ A / x:=by
    generalize A / x = q at *
    omega
  have h2:x * x ≤ A:=(Nat.le_div_iff_mul_le h0).1 h1
  have:=isq_ge h2
  omega
theorem Wd_nat (l:List Nat):(Wd l).map Int.toNat = l:=by
  unfold Wd
  rw [List.map_map]
  have:(Int.toNat ∘ fun n:Nat=>(n:Int)) = id:=by funext n; rfl
  rw [this,List.map_id]
theorem W334_eq {A x0:Nat} (hA0:A ≠ 0) (hA:A < (2 ^ 64) ^ 1030) (hx0:isq A ≤ x0) (hxb:x0 < (2 ^ 64) ^ 1030) :
    W334_7 (((Dw x0,(Dw A,())),()):P334_7.D) = some (.inl ((Dw (isq A),(Dw A,())),())):=by
  have up:∀ {x:Nat},x < (2 ^ 64) ^ 1030 → x < (2 ^ 64) ^ 4000:=fun h=>Nat.lt_of_lt_of_le h (Nat.pow_le_pow_right (by decide) (by decide))
  have up5:∀ {x:Nat},x < (2 ^ 64) ^ 1030 → x < (2 ^ 64) ^ 5000:=fun h=>Nat.lt_of_lt_of_le h (Nat.pow_le_pow_right (by decide) (by decide))
  have hpos:=isq_pos hA0
  have key:=lfix_ind (m334_7 S185.pre S185.F S173.pre S173.F S151.pre S151.F S186.pre S186.F S333.pre S333.F S143.pre S143.F S171.pre S171.F S324.pre S324.F S144.pre S144.F) (fun s=>nv (2 ^ 64) (s.1.1.map Int.toNat))
    (fun s=>∃ x:Nat,isq A ≤ x ∧ x < (2 ^ 64) ^ 1030 ∧ s = ((Dw x,(Dw A,())),()))
    (fun _=>.inl ((Dw (isq A),(Dw A,())),())) ?_ ((Dw x0,(Dw A,())),()) ⟨x0,hx0,hxb,rfl⟩
  · exact key
  intro L s hs hL
  obtain ⟨x,hx,hxb,rfl⟩:=hs
  unfold h334_7
  have hx1:0 < x:=by omega
  have p0:=T333_eq (up hA) (up hxb) (by omega)
  have hd:A / x ≤ A:=Nat.div_le_self _ _
  have hdb:A / x < (2 ^ 64) ^ 1030:=Nat.lt_of_le_of_lt hd hA
  have p1:=T143_dw (up5 hxb) (up5 hdb)
  have hsum:x + A / x < (2 ^ 64) ^ 1031:=by
    rw [show (2 ^ 64) ^ 1031 = (2 ^ 64) ^ 1030 * 2 ^ 64 from pow_up 1030]
    have:0 < (2 ^ 64) ^ 1030:=Nat.pow_pos (by decide)
    generalize (2 ^ 64) ^ 1030 = P at *
    omega
  have p2:=T171_eq (dg (2 ^ 64) (x + A / x)) (Dw_ws (Nat.lt_of_lt_of_le hsum (Nat.pow_le_pow_right (by decide) (by decide)))) 1 (by decide)
  rw [nv_Dw,Nat.pow_one] at p2
  have p2:T171 (Dw (x + A / x),(1:Int),()) = some (Dw ((x + A / x) / 2),()):=p2
  have hyb:(x + A / x) / 2 < (2 ^ 64) ^ 1030:=by omega
  have p3:=T144_eq (up5 hyb) (up5 hxb)
  have hge:=newton_ge (A:=A) hx1
  dsimp only
  simp only [pre333 p0,fun333 p0,pre143 p1,fun143 p1,pre171 p2,fun171 p2,pre144 p3,fun144 p3,cond_true]
  by_cases hc:x ≤ (x + A / x) / 2
  · have e0:decide ((if (x + A / x) / 2 = x then (0:Int) else if (x + A / x) / 2 < x then -1 else 1) ≥ 0) = true:=by
      rw [decide_eq_true_eq]
      split
      · omega
      · rw [if_neg (by omega)]; omega
    rw [e0,cond_true,newton_end hx hc hx1,newton_end (isq_ge (isq_le A)) (by rw [← newton_end hx hc hx1]; exact hc) hpos]
  · have e0:decide ((if (x + A / x) / 2 = x then (0:Int) else if (x + A / x) / 2 < x then -1 else 1) ≥ 0) = false:=by
      rw [decide_eq_false_iff_not]
      rw [if_neg (by omega),if_pos (by omega)]; omega
    rw [e0,cond_false]
    refine hL _ ⟨_,hge,hyb,rfl⟩ ?_
    show nv (2 ^ 64) ((Wd (dg (2 ^ 64) ((x + A / x) / 2))).map Int.toNat) < nv (2 ^ 64) ((Wd (dg (2 ^ 64) x)).map Int.toNat)
    rw [Wd_nat,Wd_nat,nv_Dw,nv_Dw]
    omega
theorem T334_eq {A:Nat} (hA:A < (2 ^ 64) ^ 1024):T334 (Dw A,()) = some (Dw (isq A),decide (isq A * isq A = A),0,()):=by
  have up5:∀ {x:Nat},x < (2 ^ 64) ^ 1024 → x < (2 ^ 64) ^ 5000:=fun h=>Nat.lt_of_lt_of_le h (Nat.pow_le_pow_right (by decide) (by decide))
  show t334 S185.pre S185.F S173.pre S173.F S151.pre S151.F S186.pre S186.F S333.pre S333.F S143.pre S143.F S171.pre S171.F S324.pre S324.F S144.pre S144.F W334_7 (Dw A) = _
  unfold t334
  have p0:=great_no (l:=[dg (2 ^ 64) A]) (by
    intro x hx
    rw [List.mem_singleton] at hx
    rw [hx]
    exact dg_len_le (by decide) _ _ hA) (by simp)
  have p0:T185 ((Dw A :: []),()) = some (false,()):=p0
  have p1:=T173_dw (up5 hA)
  dsimp only
  simp only [pre185 p0,fun185 p0,pre173 p1,fun173 p1,cond_true,cond_false,Dw_len0]
  by_cases h0:A = 0
  · subst h0
    have:isq 0 = 0:=isq_of (by decide) (by decide)
    rw [this,Dw_zero]; rfl
  rw [decide_eq_false h0,cond_false]
  have p2:=T151_Dw (up5 hA)
  have hA':=hA
  rw [pow64_2] at hA'
  have hbl:=blen_bound hA'
  have e1:IntKind.wrap .i64 ((blen A:Int) + 1) = ((blen A + 1:Nat):Int):=by rw [wrapI (by omega)]; omega
  have e2:quoI .i64 ((blen A + 1:Nat):Int) 2 = (((blen A + 1) / 2:Nat):Int):=quo2i _ (by omega)
  have p3:=T186_eq [1] ⟨by simp,by simp⟩ ((blen A + 1) / 2) (by simp [trimL]; omega)
  rw [show nv (2 ^ 64) [1] = 1 by simp [nv],Nat.one_mul] at p3
  have p3:T186 (((1:Int) :: []),(((blen A + 1) / 2:Nat):Int),()) = _:=p3
  have hge:isq A ≤ 2 ^ ((blen A + 1) / 2):=by
    have h1:=isq_bound (X:=A) (k:=(blen A + 1) / 2) (Nat.lt_of_lt_of_le (blen_lt A) (Nat.pow_le_pow_right (by decide) (by omega)))
    omega
  have hw:=W334_eq h0 (Nat.lt_of_lt_of_le hA (Nat.pow_le_pow_right (by decide) (by decide))) hge (by
    rw [pow64_2]
    exact Nat.pow_lt_pow_right (by decide) (by omega))
  have hs:=isq_self A
  have hsA:isq A < (2 ^ 64) ^ 1024:=Nat.lt_of_le_of_lt hs hA
  have p4:=T324_eq (up5 hsA) (up5 hsA)
  have hle:=isq_le A
  have p5:=T144_eq (up5 (Nat.lt_of_le_of_lt hle hA)) (up5 hA)
  simp only [pre151 p2,fun151 p2,e1,e2,pre186 p3,fun186 p3,cond_true]
  rw [hw]
  dsimp only [obind,obind2]
  simp only [pre324 p4,fun324 p4,pre144 p5,fun144 p5,cond_true]
  congr 3
  rw [Bool.eq_iff_iff,beq_iff_eq,decide_eq_true_eq]
  constructor
  · intro h
    split at h
    · assumption
    · split at h <;> cases h
  · intro h
    rw [if_pos h]
end VL
namespace VL
open Go Vx
noncomputable def rndM2 (f m:Int) (R:Nat) (E:Int) (more:Bool):Nat × Nat:=if more = true then rndN f m false (2 * R + 1) (E - 1) false else rndN f m false R E false
theorem rndM2_mark {f m:Int} (hf:Fm f) {R:Nat} {E:Int} {more:Bool} (hb:more = true → fP f + 2 ≤ blen R):rndN f m false R E more = rndM2 f m R E more:=by
  unfold rndM2
  cases more
  · rw [if_neg (by decide)]
  · rw [if_pos rfl,rnd_more hf (hb rfl)]
theorem rndM2_cut {f m:Int} (hf:Fm f) {R k:Nat} {E:Int} {more:Bool} (hb:fP f + 2 ≤ blen (R / 2 ^ k)):rndN f m false (R / 2 ^ k) (E + k) (more || decide (R % 2 ^ k ≠ 0)) = rndM2 f m R E more:=by
  have hP:=fP_ge hf
  have h0:R / 2 ^ k ≠ 0:=fun h=>by
    rw [h] at hb
    have:blen 0 = 0:=rfl
    omega
  unfold rndM2
  cases more
  · rw [if_neg (by decide),Bool.false_or]
    exact rnd_trunc hf h0 fun _=>hb
  · rw [if_pos rfl,Bool.true_or]
    have:=rnd_fine (f:=f) (m:=m) (neg:=false) (N:=R) (k:=k) (E:=E + k) hf hb
    rw [this,show E + (k:Int) - (k:Int) - 1 = E - 1 by omega]
theorem rootB_M2 (f m:Int) (X:Nat) (E:Int):rndM2 f m (isq X) E (!decide (isq X * isq X = X)) = rootB f m X E:=by
  unfold rndM2 rootB
  by_cases h:isq X * isq X = X
  · rw [decide_eq_true h,if_pos h]; rfl
  · rw [decide_eq_false h,if_neg h]; rfl
theorem two_cells {R:Nat} (hR:R < 2 ^ 128) :
    ((((0:Int) :: ((0:Int) :: [])).take (0:Nat) ++ (Dw R).take ((0:Int) :: ((0:Int) :: [])).length) ++ (((0:Int) :: ((0:Int) :: [])).drop ((0:Nat) + (min (Dw R).length ((0:Int) :: ((0:Int) :: [])).length)))) = ((R % 2 ^ 64:Nat):Int) :: ((R / 2 ^ 64:Nat):Int) :: []:=by
  rcases Nat.eq_zero_or_pos R with rfl | h0
  · rw [Dw_zero]; rfl
  rcases Nat.lt_or_ge R (2 ^ 64) with h | h
  · rw [Dw_small (by omega) h,Nat.mod_eq_of_lt h,Nat.div_eq_of_lt h]; rfl
  · have hd:Dw R = ((R % 2 ^ 64:Nat):Int) :: ((R / 2 ^ 64:Nat):Int) :: []:=by
      unfold Dw
      rw [dg_pos (by decide) (by omega),dg_pos (n:=R / 2 ^ 64) (by decide) (by omega),Nat.mod_eq_of_lt (a:=R / 2 ^ 64) (by omega),Nat.div_eq_of_lt (a:=R / 2 ^ 64) (by omega),dg_zero]; rfl
    rw [hd]; rfl
theorem T335_eq {f m:Int} (hf:Fm f) (hm:0 ≤ m ∧ m ≤ 5) {R:Nat} (h0:R ≠ 0) (hR:R < 2 ^ 20000) (E:Int) (hE:-10000 ≤ E ∧ E ≤ 10000) (more:Bool) (hmore:more = true → fP f + 2 ≤ blen R) :
    T335 (f,m,Dw R,E,more,()) = some (((rndM2 f m R E more).1:Int),((rndM2 f m R E more).2:Int),0,()):=by
  show t335 S151.pre S151.F S141.pre S141.F S176.pre S176.F S144.pre S144.F S122.pre S122.F f m (Dw R) E more = _
  unfold t335
  have hPl:=fP_le hf
  have hR5:R < (2 ^ 64) ^ 5000:=by
    rw [pow64_2]
    exact Nat.lt_of_lt_of_le hR (Nat.pow_le_pow_right (by decide) (by decide))
  have hbl:=blen_bound hR
  have p0:=T151_Dw hR5
  have e12:IntKind.wrap .i64 ((blen R:Int) - 128) = (blen R:Int) - 128:=wrapI (by omega)
  dsimp only
  simp only [pre151 p0,fun151 p0,cond_true,e12]
  by_cases hc:128 < blen R
  · obtain ⟨k,hk⟩:∃ k:Nat,blen R = 128 + k:=⟨blen R - 128,by omega⟩
    have ek:(blen R:Int) - 128 = (k:Int):=by omega
    have e0:decide ((k:Int) > 0) = true:=decide_eq_true (by omega)
    have hle:=blen_le h0
    have hlt:=blen_lt R
    have hk2:2 ^ k ≤ R:=Nat.le_trans (Nat.pow_le_pow_right (by decide) (by omega)) hle
    have hb2:=blen_shift hk2
    have htop:R / 2 ^ k < 2 ^ 128:=by
      rw [Nat.div_lt_iff_lt_mul (Nat.two_pow_pos k),← Nat.pow_add]
      exact Nat.lt_of_lt_of_le hlt (Nat.pow_le_pow_right (by decide) (by omega))
    have p1:=T141_eq (dg (2 ^ 64) R) (Dw_ws hR5) k (by omega)
    rw [nv_Dw] at p1
    have p1:T141 (Dw R,(k:Int),()) = some (Dw (R / 2 ^ k),0,()):=p1
    have hw:R / 2 ^ k * 2 ^ k ≤ R:=Nat.div_mul_le_self _ _
    have ht5:R / 2 ^ k < (2 ^ 64) ^ 5000:=Nat.lt_of_le_of_lt (Nat.div_le_self _ _) hR5
    have p2:=T176_eq (dg (2 ^ 64) (R / 2 ^ k)) (Dw_ws ht5) k (by omega) (by
      rw [nv_Dw,pow64_2]
      exact Nat.lt_of_le_of_lt hw (Nat.lt_of_lt_of_le hR (Nat.pow_le_pow_right (by decide) (by decide))))
    rw [nv_Dw] at p2
    have p2:T176 (Dw (R / 2 ^ k),(k:Int),()) = some (Dw (R / 2 ^ k * 2 ^ k),0,()):=p2
    have p3:=T144_eq (Nat.lt_of_le_of_lt hw hR5) hR5
    have hne:((if R / 2 ^ k * 2 ^ k = R then (0:Int) else if R / 2 ^ k * 2 ^ k < R then -1 else 1) != 0) = decide (R % 2 ^ k ≠ 0):=by
      have hdm:=Nat.div_add_mod R (2 ^ k)
      rw [Nat.mul_comm] at hdm
      rw [Bool.eq_iff_iff,bne_iff_ne,decide_eq_true_eq]
      split
      · omega
      · split <;> omega
    have p4:=T122_eq hf hm false (R / 2 ^ k) htop (E + k) (by omega) (more || decide (R % 2 ^ k ≠ 0)) (fun _=>by omega)
    have hq0:R / 2 ^ k ≠ 0:=fun h=>by
      rw [h] at hb2
      have:blen 0 = 0:=rfl
      omega
    rw [if_neg hq0,rndM2_cut hf (by omega)] at p4
    have e5:IntKind.wrap .i64 (E + (k:Int)) = E + (k:Int):=wrapI (by omega)
    have tw:=two_cells htop
    simp only [ek,e0,cond_true,pre141 p1,fun141 p1,pre176 p2,fun176 p2,pre144 p3,fun144 p3,Bool.true_or,hne,e5,tw]
    show (bif S122.pre (f,(m,(false,(Wi (R / 2 ^ k),(E + (k:Int),((more || decide (R % 2 ^ k ≠ 0)),())))))) then some (S122.F (f,(m,(false,(Wi (R / 2 ^ k),(E + (k:Int),((more || decide (R % 2 ^ k ≠ 0)),()))))))) else none) = _
    simp only [pre122 p4,fun122 p4,cond_true]
    rfl
  · have e0:decide ((blen R:Int) - 128 > 0) = false:=decide_eq_false (by omega)
    have hR128:R < 2 ^ 128:=Nat.lt_of_lt_of_le (blen_lt R) (Nat.pow_le_pow_right (by decide) (by omega))
    have p4:=T122_eq hf hm false R hR128 E (by omega) more hmore
    rw [if_neg h0,rndM2_mark hf hmore] at p4
    have tw:=two_cells hR128
    simp only [e0,cond_false,tw]
    show (bif S122.pre (f,(m,(false,(Wi R,(E,(more,())))))) then some (S122.F (f,(m,(false,(Wi R,(E,(more,()))))))) else none) = _
    simp only [pre122 p4,fun122 p4,cond_true]
    rfl
end VL
namespace VL
open Go Vx
theorem T326_zero (z:Int):T326 ((0:Int),z,()) = some (Dw 0,()):=by
  rw [Dw_zero]
  show t326 S325.pre S325.F S176.pre S176.F (0:Int) z = _
  rfl
def sqsum (n:Nat) (x:Int) (k:Nat) (y l:Int):Nat:=n * n * 2 ^ (2 * (x - l).toNat) + k * k * 2 ^ (2 * (y - l).toNat)
noncomputable def hypX (f m:Int) (n:Nat) (x:Int) (k:Nat) (y:Int):Nat × Nat:=rootB f m (sqsum n x k y (min x y) * 2 ^ 200) (min x y - 100)
theorem hyp_at {f m:Int} (hf:Fm f) {n k:Nat} {x y low:Int} (hS:sqsum n x k y low ≠ 0) (d:Nat) (hd:low = min x y + d) (he:sqsum n x k y (min x y) = sqsum n x k y low * 2 ^ (2 * d)) :
    rootB f m (sqsum n x k y low * 2 ^ 128) (low - 64) = hypX f m n x k y ∧ 65 ≤ blen (isq (sqsum n x k y low * 2 ^ 128)):=by
  have hPl:=fP_le hf
  have hX:2 ^ (2 * 64) ≤ sqsum n x k y low * 2 ^ 128:=by
    have:=Nat.mul_le_mul_right (2 ^ 128) (show 1 ≤ sqsum n x k y low by omega)
    rw [Nat.one_mul] at this
    exact this
  have hb:=isq_blen hX
  have h0:sqsum n x k y low * 2 ^ 128 ≠ 0:=fun h=>by
    rw [h] at hX
    exact absurd hX (by decide)
  refine ⟨?_,hb⟩
  have:=rootB_fine (f:=f) (m:=m) (k:=36 + d) (E:=low - 64) hf h0 (by omega)
  unfold hypX
  rw [he,← this]
  have e1:sqsum n x k y low * 2 ^ (2 * d) * 2 ^ 200 = sqsum n x k y low * 2 ^ 128 * (2 ^ (36 + d) * 2 ^ (36 + d)):=by
    rw [Nat.mul_assoc,Nat.mul_assoc,← Nat.pow_add,← Nat.pow_add,← Nat.pow_add]
    congr 2
    omega
  rw [e1,show min x y - 100 = low - 64 - ((36 + d:Nat):Int) by omega]
theorem sq_bound {n:Nat} {j:Nat} (hn:n < 2 ^ 53) (hj:j ≤ 2200):n * n * 2 ^ (2 * j) < 2 ^ 4506:=by
  have h1:n * n < 2 ^ 53 * 2 ^ 53:=Nat.mul_lt_mul'' hn hn
  have h2:n * n * 2 ^ (2 * j) < 2 ^ 53 * 2 ^ 53 * 2 ^ (2 * j):=Nat.mul_lt_mul_of_pos_right h1 (Nat.two_pow_pos _)
  rw [← Nat.pow_add,← Nat.pow_add] at h2
  exact Nat.lt_of_lt_of_le h2 (Nat.pow_le_pow_right (by decide) (by omega))
theorem sqsum_bound {n k:Nat} {x y l:Int} (hn:n < 2 ^ 53) (hk:k < 2 ^ 53) (hx:x - l ≤ 2200) (hy:y - l ≤ 2200):sqsum n x k y l < 2 ^ 4507:=by
  have h1:=sq_bound (j:=(x - l).toNat) hn (by omega)
  have h2:=sq_bound (j:=(y - l).toNat) hk (by omega)
  unfold sqsum
  rw [Nat.pow_succ]
  omega
noncomputable def hypF (f m:Int) (a b:Nat):Int × Int × Int × Unit :=
  if chkL f m [a,b] ≠ 0 then (0,0,chkL f m [a,b],())
  else bif snan f a || snan f b then ((nanF f:Int),1,0,())
  else bif isInf f a || isInf f b then ((infB f false:Int),0,0,())
  else bif nan f a || nan f b then ((nanF f:Int),0,0,())
  else bif zro f a && zro f b then ((sgnF f false:Int),0,0,())
  else (((hypX f m (mant f a) (xpn f a) (mant f b) (xpn f b)).1:Int),((hypX f m (mant f a) (xpn f a) (mant f b) (xpn f b)).2:Int),0,())
theorem xpn_tight {f:Int} (hf:Fm f) (a:Nat):-1100 ≤ xpn f a ∧ xpn f a ≤ 1100:=by
  have h1:=e_le (f:=f) a
  have e:fullF f = 2 * fX f + 1:=by unfold fullF; rw [← fX_eq hf]
  have h2:=fX_le hf
  have h3:=fP_le hf
  have h4:=fP_ge hf
  unfold xpn
  split <;> omega
theorem zro_mantB (f:Int) (a:Nat):((mant f a:Int) == 0) = zro f a:=by
  cases hz:zro f a
  · exact beq0_f _ (zro_mant hz)
  · unfold zro at hz
    rw [Bool.and_eq_true,beq_iff_eq,beq_iff_eq] at hz
    unfold mant
    rw [if_pos hz.1,hz.2]; rfl
theorem hyp_run {f m:Int} (hf:Fm f) (hm:0 ≤ m ∧ m ≤ 5) {n k:Nat} {x y low:Int} (hn:n < 2 ^ 53) (hk:k < 2 ^ 53) (hx:-1100 ≤ x ∧ x ≤ 1100) (hy:-1100 ≤ y ∧ y ≤ 1100) (hl:-1100 ≤ low ∧ low ≤ 1100)
    (hS:sqsum n x k y low ≠ 0) (d:Nat) (hd:low = min x y + d) (he:sqsum n x k y (min x y) = sqsum n x k y low * 2 ^ (2 * d))
    (h1:T326 ((n:Int),x - low,()) = some (Dw (n * n * 2 ^ (2 * (x - low).toNat)),())) (h2:T326 ((k:Int),y - low,()) = some (Dw (k * k * 2 ^ (2 * (y - low).toNat)),())) :
    T143 (Dw (n * n * 2 ^ (2 * (x - low).toNat)),Dw (k * k * 2 ^ (2 * (y - low).toNat)),()) = some (Dw (sqsum n x k y low),()) ∧
    T176 (Dw (sqsum n x k y low),(128:Int),()) = some (Dw (sqsum n x k y low * 2 ^ 128),0,()) ∧
    T334 (Dw (sqsum n x k y low * 2 ^ 128),()) = some (Dw (isq (sqsum n x k y low * 2 ^ 128)),decide (isq (sqsum n x k y low * 2 ^ 128) * isq (sqsum n x k y low * 2 ^ 128) = sqsum n x k y low * 2 ^ 128),0,()) ∧
    T335 (f,m,Dw (isq (sqsum n x k y low * 2 ^ 128)),low - 64,!decide (isq (sqsum n x k y low * 2 ^ 128) * isq (sqsum n x k y low * 2 ^ 128) = sqsum n x k y low * 2 ^ 128),()) = some (((hypX f m n x k y).1:Int),((hypX f m n x k y).2:Int),0,()) ∧
    IntKind.wrap .i64 (low - 64) = low - 64 ∧ IntKind.wrap .i64 (x - low) = x - low ∧ IntKind.wrap .i64 (y - low) = y - low:=by
  have hPl:=fP_le hf
  have up5:∀ {z j:Nat},z < 2 ^ j → j ≤ 65536 → z < (2 ^ 64) ^ 5000:=fun h hj=>by
    rw [pow64_2]
    exact Nat.lt_of_lt_of_le h (Nat.pow_le_pow_right (by decide) (by omega))
  have b1:=sq_bound (j:=(x - low).toNat) hn (by omega)
  have b2:=sq_bound (j:=(y - low).toNat) hk (by omega)
  have bs:=sqsum_bound (x:=x) (y:=y) (l:=low) hn hk (by omega) (by omega)
  have bs2:sqsum n x k y low * 2 ^ 128 < 2 ^ 4635:=by
    have:sqsum n x k y low * 2 ^ 128 < 2 ^ 4507 * 2 ^ 128:=Nat.mul_lt_mul_of_pos_right bs (Nat.two_pow_pos _)
    rw [← Nat.pow_add] at this
    exact this
  obtain ⟨r1,r2⟩:=hyp_at (m:=m) hf hS d hd he
  have p1:=T143_dw (up5 (j:=4506) b1 (by decide)) (up5 (j:=4506) b2 (by decide))
  have p2:=T176_eq (dg (2 ^ 64) (sqsum n x k y low)) (Dw_ws (up5 (j:=4507) bs (by decide))) 128 (by decide) (by
    rw [nv_Dw,pow64_2]
    exact Nat.lt_of_lt_of_le bs2 (Nat.pow_le_pow_right (by decide) (by decide)))
  rw [nv_Dw] at p2
  have p3:=T334_eq (A:=sqsum n x k y low * 2 ^ 128) (by
    rw [pow64_2]
    exact Nat.lt_of_lt_of_le bs2 (Nat.pow_le_pow_right (by decide) (by decide)))
  have hi:=isq_self (sqsum n x k y low * 2 ^ 128)
  have hi0:isq (sqsum n x k y low * 2 ^ 128) ≠ 0:=fun h=>by
    rw [h] at r2
    have:blen 0 = 0:=rfl
    omega
  have p4:=T335_eq hf hm hi0 (Nat.lt_of_le_of_lt hi (Nat.lt_of_lt_of_le bs2 (Nat.pow_le_pow_right (by decide) (by decide)))) (low - 64) (by omega) (!decide (isq (sqsum n x k y low * 2 ^ 128) * isq (sqsum n x k y low * 2 ^ 128) = sqsum n x k y low * 2 ^ 128)) (fun _=>by omega)
  rw [rootB_M2,r1] at p4
  exact ⟨p1,p2,p3,p4,wrapI (by omega),wrapI (by omega),wrapI (by omega)⟩
theorem sqsum_at {n k:Nat} {x y:Int} (h:n ≠ 0 ∨ k ≠ 0):sqsum n x k y (min x y) ≠ 0:=by
  unfold sqsum
  rcases h with h | h
  · have:n * n * 2 ^ (2 * (x - min x y).toNat) ≠ 0:=Nat.mul_ne_zero (Nat.mul_ne_zero h h) (Nat.ne_of_gt (Nat.two_pow_pos _))
    omega
  · have:k * k * 2 ^ (2 * (y - min x y).toNat) ≠ 0:=Nat.mul_ne_zero (Nat.mul_ne_zero h h) (Nat.ne_of_gt (Nat.two_pow_pos _))
    omega
theorem T336_eq (f m:Int) {a b:Nat} (ha:a < 2 ^ 64) (hb:b < 2 ^ 64):T336 (f,m,(a:Int),(b:Int),()) = some (hypF f m a b):=by
  show t336 S311.pre S311.F S65.pre S65.F S323.pre S323.F S97.pre S97.F S70.pre S70.F S313.pre S313.F S118.pre S118.F S326.pre S326.F S143.pre S143.F S176.pre S176.F S334.pre S334.F S335.pre S335.F f m a b = _
  unfold t336 hypF
  rw [show ((a:Int) :: (b:Int) :: []) = Wd [a,b] from rfl]
  by_cases hf:Fm f
  case neg =>
    have p0:=T311_bad (m:=m) hf [a,b]
    have e0:chkL f m [a,b] = 2:=by unfold chkL; rw [if_pos hf]
    rw [e0]
    simp only [pre311 p0,fun311 p0,cond_true]
    rfl
  have p0:=T311_ok (m:=m) hf [a,b] (fun c hc=>by
    rcases List.mem_cons.1 hc with rfl | hc
    · exact ha
    · rw [List.mem_singleton] at hc; omega) (show (2:Nat) < 1000 by decide)
  by_cases hk:chkL f m [a,b] ≠ 0
  · rw [if_pos hk]
    have:(chkL f m [a,b] != 0) = true:=bne_iff_ne.2 hk
    simp only [pre311 p0,fun311 p0,cond_true,this]
  have hk:chkL f m [a,b] = 0:=Classical.not_not.1 hk
  obtain ⟨_,hm,hc⟩:=chkL_zero hk
  have h:=hc a (by simp)
  have h':=hc b (by simp)
  rw [if_neg (show ¬ chkL f m [a,b] ≠ 0 from fun h=>h hk)]
  rw [hk] at p0
  have p1:=T65_ok ha h
  have p2:=T65_ok hb h'
  have t323:∀ c:Int,T323 (c,()) = some ((c == 2 || c == 9),()):=fun c=>rfl
  have p3:=t323 (cls f a)
  have p4:=t323 (cls f b)
  rw [cls_isInf] at p3 p4
  simp only [pre311 p0,fun311 p0,cond_true,bne_self_eq_false,cond_false,pre65 p1,fun65 p1,pre65 p2,fun65 p2,cls_snan,pre323 p3,fun323 p3,pre323 p4,fun323 p4,Bool.true_or,pre70 (T70_ok hf),fun70 (T70_ok hf),pre97 (T97_ok hf _),fun97 (T97_ok hf _),pre118 (T118_ok hf _),fun118 (T118_ok hf _)]
  cases hs:snan f a || snan f b
  case true=>rfl
  simp only [cond_false]
  cases hi:isInf f a || isInf f b
  case true=>rfl
  simp only [cond_false]
  rw [Bool.or_eq_false_iff] at hs
  have n1:(cls f a == 1) = nan f a:=by
    have:=cls_nan f a
    rw [cls_snan,hs.1,Bool.or_false] at this
    exact this
  have n2:(cls f b == 1) = nan f b:=by
    have:=cls_nan f b
    rw [cls_snan,hs.2,Bool.or_false] at this
    exact this
  rw [n1,n2]
  cases hn:nan f a || nan f b
  case true=>rfl
  simp only [cond_false]
  have q1:=T313_eq h
  have q2:=T313_eq h'
  simp only [pre313 q1,fun313 q1,pre313 q2,fun313 q2,cond_true,zro_mantB]
  cases hz:zro f a && zro f b
  case true=>rfl
  simp only [cond_false]
  have hn53:=mant_lt hf a
  have hk53:=mant_lt hf b
  have hx:=xpn_tight hf a
  have hy:=xpn_tight hf b
  have sq:∀ (n:Nat) (z:Int),n < 2 ^ 53 → 0 ≤ z ∧ z ≤ 2200 → T326 ((n:Int),z,()) = some (Dw (n * n * 2 ^ (2 * z.toNat)),()):=fun n z hn hz=>by
    obtain ⟨j,rfl⟩:=Int.eq_ofNat_of_zero_le hz.1
    exact T326_eq (Nat.lt_trans hn (by decide)) (by omega)
  have sq0:∀ (n:Nat) (z:Int),n = 0 → T326 ((n:Int),z,()) = some (Dw (n * n * 2 ^ (2 * z.toNat)),()):=fun n z hn=>by
    subst hn
    have e0:0 * 0 * 2 ^ (2 * z.toNat) = 0:=by simp
    rw [e0]
    exact T326_zero z
  have mz:∀ c:Nat,zro f c = true → mant f c = 0:=fun c hc=>by
    have:=zro_mantB f c
    rw [hc,beq_iff_eq] at this
    omega
  cases hza:zro f a
  · have hna:=zro_mant hza
    cases hzb:zro f b
    · have hkb:=zro_mant hzb
      simp only [cond_false]
      have em:(if xpn f b < xpn f a then xpn f b else xpn f a) = min (xpn f a) (xpn f b):=by
        rw [Int.min_def]
        split <;> split <;> omega
      have s1:=sq (mant f a) (xpn f a - min (xpn f a) (xpn f b)) hn53 (by omega)
      have s2:=sq (mant f b) (xpn f b - min (xpn f a) (xpn f b)) hk53 (by omega)
      obtain ⟨r1,r2,r3,r4,r5,r6,r7⟩:=hyp_run hf hm hn53 hk53 (by omega) (by omega) (by omega) (sqsum_at (.inl hna)) 0 (by omega) (by rw [Nat.mul_zero,Nat.pow_zero,Nat.mul_one]) s1 s2
      simp only [em,r5,r6,r7,pre326 s1,fun326 s1,pre326 s2,fun326 s2,pre143 r1,fun143 r1,pre176 r2,fun176 r2,pre334 r3,fun334 r3,pre335 r4,fun335 r4,cond_true]
    · have hk0:=mz b hzb
      simp only [cond_false,cond_true]
      have s1:=sq (mant f a) (xpn f a - xpn f a) hn53 (by omega)
      have s2:=sq0 (mant f b) (xpn f b - xpn f a) hk0
      obtain ⟨j,hj⟩:=Int.eq_ofNat_of_zero_le (show 0 ≤ xpn f a - min (xpn f a) (xpn f b) by omega)
      have he:sqsum (mant f a) (xpn f a) (mant f b) (xpn f b) (min (xpn f a) (xpn f b)) = sqsum (mant f a) (xpn f a) (mant f b) (xpn f b) (xpn f a) * 2 ^ (2 * j):=by
        unfold sqsum
        rw [hk0,hj,Int.toNat_natCast,Int.sub_self]
        simp
      have hS:sqsum (mant f a) (xpn f a) (mant f b) (xpn f b) (xpn f a) ≠ 0:=fun h=>by
        rw [h,Nat.zero_mul] at he
        exact sqsum_at (.inl hna) he
      obtain ⟨r1,r2,r3,r4,r5,r6,r7⟩:=hyp_run hf hm hn53 hk53 (by omega) (by omega) (by omega) hS j (by omega) he s1 s2
      simp only [r5,r6,r7,pre326 s1,fun326 s1,pre326 s2,fun326 s2,pre143 r1,fun143 r1,pre176 r2,fun176 r2,pre334 r3,fun334 r3,pre335 r4,fun335 r4,cond_true]
  · have hn0:=mz a hza
    rw [hza,Bool.true_and] at hz
    have hkb:=zro_mant hz
    simp only [cond_false,cond_true,hz]
    have s1:=sq0 (mant f a) (xpn f a - xpn f b) hn0
    have s2:=sq (mant f b) (xpn f b - xpn f b) hk53 (by omega)
    obtain ⟨j,hj⟩:=Int.eq_ofNat_of_zero_le (show 0 ≤ xpn f b - min (xpn f a) (xpn f b) by omega)
    have he:sqsum (mant f a) (xpn f a) (mant f b) (xpn f b) (min (xpn f a) (xpn f b)) = sqsum (mant f a) (xpn f a) (mant f b) (xpn f b) (xpn f b) * 2 ^ (2 * j):=by
      unfold sqsum
      rw [hn0,hj,Int.toNat_natCast,Int.sub_self]
      simp
    have hS:sqsum (mant f a) (xpn f a) (mant f b) (xpn f b) (xpn f b) ≠ 0:=fun h=>by
      rw [h,Nat.zero_mul] at he
      exact sqsum_at (.inr hkb) he
    obtain ⟨r1,r2,r3,r4,r5,r6,r7⟩:=hyp_run hf hm hn53 hk53 (by omega) (by omega) (by omega) hS j (by omega) he s1 s2
    simp only [r5,r6,r7,pre326 s1,fun326 s1,pre326 s2,fun326 s2,pre143 r1,fun143 r1,pre176 r2,fun176 r2,pre334 r3,fun334 r3,pre335 r4,fun335 r4,cond_true]
end VL
namespace VL
open Go Vx
theorem isq_fix1:isq (1024 * 2 * 2 ^ 200) = 57367317478181007276781504744917:=isq_of (by decide +kernel) (by decide +kernel)
theorem isq_fix2:isq (6553600 * 2 ^ 200) = 2560 * 2 ^ 100:=isq_of (by decide +kernel) (by decide +kernel)
theorem chkL_ok {f m:Int} {l:List Nat} (hf:Fm f) (hm:0 ≤ m ∧ m ≤ 5) (hl:okL f l = true):chkL f m l = 0:=by
  unfold chkL
  rw [if_neg (show ¬ ¬ Fm f from fun h=>h hf),if_neg (by omega),hl]; rfl
theorem Fm0:Fm 0:=⟨by decide,by decide⟩
theorem fix_sqrt:sqrtF 0 0 16384 = (15784,16,0,()):=by
  unfold sqrtF
  have e0:chkL 0 0 [16384] = 0:=chkL_ok Fm0 (by decide) (by decide +kernel)
  have e1:nan 0 16384 = false:=by decide +kernel
  have e2:(sF 0 16384 && !zro 0 16384) = false:=by decide +kernel
  have e3:(zro 0 16384 || isInf 0 16384) = false:=by decide +kernel
  have e4:mant 0 16384 = 1024:=by decide +kernel
  have e5:xpn 0 16384 = -9:=by decide +kernel
  rw [if_neg (by rw [e0]; decide),e1,e2,e3,e4,e5]
  have e6:rootX 0 0 1024 (-9) = (15784,16):=by
    unfold rootX rootB
    rw [if_pos (by decide),isq_fix1,if_neg (by decide +kernel)]
    decide +kernel
  rw [e6]; rfl
theorem fix_hyp:hypF 0 0 16896 50176 = (17664,0,0,()):=by
  unfold hypF
  have e0:chkL 0 0 [16896,50176] = 0:=chkL_ok Fm0 (by decide) (by decide +kernel)
  have e1:(snan 0 16896 || snan 0 50176) = false:=by decide +kernel
  have e2:(isInf 0 16896 || isInf 0 50176) = false:=by decide +kernel
  have e3:(nan 0 16896 || nan 0 50176) = false:=by decide +kernel
  have e4:(zro 0 16896 && zro 0 50176) = false:=by decide +kernel
  have m1:mant 0 16896 = 1536:=by decide +kernel
  have x1:xpn 0 16896 = -9:=by decide +kernel
  have m2:mant 0 50176 = 1024:=by decide +kernel
  have x2:xpn 0 50176 = -8:=by decide +kernel
  rw [if_neg (by rw [e0]; decide),e1,e2,e3,e4,m1,m2,x1,x2]
  have e6:hypX 0 0 1536 (-9) 1024 (-8) = (17664,0):=by
    unfold hypX rootB
    have e7:sqsum 1536 (-9) 1024 (-8) (min (-9) (-8)) = 6553600:=by decide +kernel
    rw [e7,isq_fix2,if_pos (by decide +kernel)]
    decide +kernel
  rw [e6]; rfl
theorem T337_true:T337 () = some (true,()):=by
  show t337 S318.pre S318.F S336.pre S336.F = _
  unfold t337
  have p1:=T318_eq 0 0 (a:=16384) (by decide)
  have p2:=T336_eq 0 0 (a:=16896) (b:=50176) (by decide) (by decide)
  rw [fix_sqrt] at p1
  rw [fix_hyp] at p2
  have p1:T318 ((0:Int),((0:Int),((16384:Int),()))) = _:=p1
  have p2:T336 ((0:Int),((0:Int),((16896:Int),((50176:Int),())))) = _:=p2
  dsimp only
  simp only [pre318 p1,fun318 p1,pre336 p2,fun336 p2,cond_true]
  rfl
end VL
namespace VL
open Go Vx
theorem pow_up32 (i:Nat):(2 ^ 32) ^ (i + 1) = (2 ^ 32) ^ i * 2 ^ 32:=Nat.pow_succ ..
theorem rep_getD (n k:Nat):(List.replicate n 0).getD k 0 = 0:=by
  rw [List.getD_eq_getElem?_getD,List.getElem?_replicate]; split <;> rfl
theorem orR32 {a b:Nat} (ha:a < 2 ^ 32) (hb:b < 2 ^ 32):orI .u64 (a:Int) ((b * 2 ^ 32:Nat):Int) = ((a + b * 2 ^ 32:Nat):Int):=by
  rw [orN2 (by omega) (by omega)]
  congr 1
  have:=Nat.two_pow_add_eq_or_of_lt ha b
  rw [Nat.mul_comm b,Nat.or_comm,← this,Nat.add_comm]
theorem W339_eq (a:List Nat) (ha:∀ x ∈ a,x < 2 ^ 64) (hl:a.length ≤ 100000) {n:Nat} (hn:n ≤ a.length) :
    ∃ d:List Nat,d.length = 2 * n ∧ (∀ z ∈ d,z < 2 ^ 32) ∧ nv (2 ^ 32) d = nv (2 ^ 64) (a.take n) ∧
      W339_4 ((((n:Int),(Wd a,((0:Int),((),())))),(Wd (List.replicate (2 * n) 0),())):P339_4.D) = some (.inl (((),()),(Wd d,()))):=by
  have key:=lfix_ex (m339_4 S163.pre S163.F) (fun s=>n - s.1.2.2.1.toNat)
    (fun s=>∃ (i:Nat) (d:List Nat),i ≤ n ∧ d.length = 2 * n ∧ (∀ z ∈ d,z < 2 ^ 32) ∧ nv (2 ^ 32) d = nv (2 ^ 64) (a.take i) ∧ (∀ k,2 * i ≤ k → d.getD k 0 = 0) ∧
      s = (((n:Int),(Wd a,((i:Int),((),())))),(Wd d,())))
    (fun y=>∃ d:List Nat,d.length = 2 * n ∧ (∀ z ∈ d,z < 2 ^ 32) ∧ nv (2 ^ 32) d = nv (2 ^ 64) (a.take n) ∧ y = .inl (((),()),(Wd d,()))) ?_
    (((n:Int),(Wd a,((0:Int),((),())))),(Wd (List.replicate (2 * n) 0),()))
    ⟨0,List.replicate (2 * n) 0,Nat.zero_le _,by simp,(fun z hz=>by have:=(List.mem_replicate.1 hz).2; omega),by rw [nv_rep]; simp [nv],(fun k _=>rep_getD _ _),rfl⟩
  · obtain ⟨y,hy,d,k1,k2,k3,rfl⟩:=key
    exact ⟨d,k1,k2,k3,hy⟩
  intro L s hs hL
  obtain ⟨i,d,hi,hdl,hdd,hinv,hz,rfl⟩:=hs
  unfold h339_4
  rcases Nat.lt_or_ge i n with hlt | hge
  · have hx:=getD_lt (by decide) ha i
    have hna:=nv_take_next (2 ^ 64) a i
    have hga:(Wd a).getD i 0 = ((a.getD i 0:Nat):Int):=Wd_getD a i
    generalize a.getD i 0 = w at *
    have e0:decide ((i:Int) < (n:Int)) = true:=decide_eq_true (by omega)
    have e0':decide ((i:Int) < (a.length:Int)) = true:=decide_eq_true (by omega)
    have e1:decide ((0:Int) ≤ (i:Int)) = true:=decide_eq_true (by omega)
    have e2:IntKind.wrap .i64 (2 * (i:Int)) = ((2 * i:Nat):Int):=by rw [wrapI (by omega)]; omega
    have e3:IntKind.wrap .i64 (((2 * i:Nat):Int) + 1) = ((2 * i + 1:Nat):Int):=by rw [wrapI (by omega)]; omega
    have e4:decide ((0:Int) ≤ ((2 * i:Nat):Int)) = true:=decide_eq_true (by omega)
    have e5:decide (((2 * i:Nat):Int) < (d.length:Int)) = true:=decide_eq_true (by omega)
    have e6:decide ((0:Int) ≤ ((2 * i + 1:Nat):Int)) = true:=decide_eq_true (by omega)
    have e7:decide (((2 * i + 1:Nat):Int) < (d.length:Int)) = true:=decide_eq_true (by omega)
    have e8:IntKind.wrap .i64 ((i:Int) + 1) = ((i + 1:Nat):Int):=by rw [wrapI (by omega)]; omega
    have e9:shrI .u64 (w:Int) 32 = ((w / 2 ^ 32:Nat):Int):=shrN w 32 (by decide)
    have hlo:w % 2 ^ 32 < 2 ^ 32:=Nat.mod_lt _ (by decide)
    have hhi:w / 2 ^ 32 < 2 ^ 32:=by omega
    have s1:=nv_set (2 ^ 32) d (2 * i) (w % 2 ^ 32) (by omega)
    rw [hz _ (Nat.le_refl _),Nat.mul_zero,Nat.add_zero] at s1
    have s2:=nv_set (2 ^ 32) (d.set (2 * i) (w % 2 ^ 32)) (2 * i + 1) (w / 2 ^ 32) (by rw [List.length_set]; omega)
    rw [getD_set_ne (by omega),hz _ (by omega),Nat.mul_zero,Nat.add_zero] at s2
    dsimp only
    simp only [e0,e0',e1,e2,e3,e4,e5,e6,e7,e8,e9,a32 hx,cond_true,Bool.and_self,Wd_len,Int.toNat_natCast,hga,Wd_set,List.length_set]
    refine hL _ ⟨i + 1,(d.set (2 * i) (w % 2 ^ 32)).set (2 * i + 1) (w / 2 ^ 32),by omega,by rw [List.length_set,List.length_set]; exact hdl,mem_set (mem_set hdd hlo) hhi,?_,?_,rfl⟩ (by simp only [Int.toNat_natCast]; omega)
    · rw [s2,s1,hinv,hna,pow_up32]
      have e:(2 ^ 64) ^ i = (2 ^ 32) ^ (2 * i):=by rw [← Nat.pow_mul,← Nat.pow_mul]; congr 1; omega
      rw [e,Nat.add_assoc,Nat.mul_assoc,← Nat.mul_add]
      congr 2
      omega
    · intro k hk
      rw [getD_set_ne (by omega),getD_set_ne (by omega)]
      exact hz k (by omega)
  · have e:i = n:=by omega
    subst e
    have e0:decide ((i:Int) < (i:Int)) = false:=decide_eq_false (by omega)
    simp only [e0,cond_false]
    exact ⟨_,rfl,d,hdl,hdd,hinv,rfl⟩
theorem T339_eq (a:List Nat) (ha:∀ x ∈ a,x < 2 ^ 64) (hl:a.length ≤ 5000):∃ d:List Nat,d.length ≤ 10000 ∧ (∀ z ∈ d,z < 2 ^ 32) ∧ nv (2 ^ 32) d = nv (2 ^ 64) a ∧ T339 (Wd a,()) = some (Wd d,()):=by
  have hle:=(trim_len a).1
  obtain ⟨d,k1,k2,k3,k4⟩:=W339_eq a ha (by omega) hle
  rw [nv_take_trim (2 ^ 64) a a.length (trimL a).length (Nat.le_refl _) (by omega)] at k3
  refine ⟨d,by omega,k2,k3,?_⟩
  show t339 S163.pre S163.F W339_4 (Wd a) = _
  unfold t339
  have p0:=T163_eq a (by omega)
  generalize (trimL a).length = n at *
  have e0:IntKind.wrap .i64 (2 * (n:Int)) = ((2 * n:Nat):Int):=by rw [wrapI (by omega)]; omega
  have e1:(decide ((0:Int) ≤ ((2 * n:Nat):Int)) && decide (((2 * n:Nat):Int) * 8 ≤ 140737488355328)) = true:=by
    rw [decide_eq_true (by omega),decide_eq_true (by omega)]; rfl
  dsimp only
  simp only [pre163 p0,fun163 p0,cond_true,e0,e1,Int.toNat_natCast,Wd_rep]
  rw [k4]
theorem W340_eq (a:List Nat) (ha:∀ x ∈ a,x < 2 ^ 32) (hla:a.length ≤ 1000000) :
    ∃ out:List Nat,out.length = (a.length + 1) / 2 ∧ (∀ x ∈ out,x < 2 ^ 64) ∧ nv (2 ^ 64) out = nv (2 ^ 32) a ∧
    W340_3 ((Wd a,((0:Int),((),()))),(Wd (List.replicate ((a.length + 1) / 2) 0),())) = some (.inl (((),()),(Wd out,()))):=by
  have key:=lfix_ex (m340_3 S133.pre S133.F) (fun x=>a.length - x.1.2.1.toNat)
    (fun x=>∃ (i:Nat) (out:List Nat),i ≤ a.length ∧ out.length = (a.length + 1) / 2 ∧ (∀ x ∈ out,x < 2 ^ 64) ∧ nv (2 ^ 64) out = nv (2 ^ 32) (a.take i) ∧ (∀ j,i ≤ 2 * j → out.getD j 0 = 0) ∧ (i % 2 = 1 → out.getD (i / 2) 0 < 2 ^ 32) ∧
      x = ((Wd a,((i:Int),((),()))),(Wd out,())))
    (fun y=>∃ out:List Nat,out.length = (a.length + 1) / 2 ∧ (∀ x ∈ out,x < 2 ^ 64) ∧ nv (2 ^ 64) out = nv (2 ^ 32) a ∧ y = .inl (((),()),(Wd out,()))) ?_ ((Wd a,((0:Int),((),()))),(Wd (List.replicate ((a.length + 1) / 2) 0),()))
    ⟨0,List.replicate ((a.length + 1) / 2) 0,Nat.zero_le _,by simp,(fun x hx=>by have:=List.eq_of_mem_replicate hx; omega),by rw [nv_rep]; simp [nv],(fun j _=>rep_getD _ _),(fun h=>by omega),rfl⟩
  · obtain ⟨y,hy,p,k1,k2,k3,rfl⟩:=key
    exact ⟨p,k1,k2,k3,hy⟩
  intro L x hx hL
  obtain ⟨i,out,hi,hol,hod,hov,hz,ho,rfl⟩:=hx
  unfold h340_3
  rcases Nat.lt_or_ge i a.length with hlt | hge
  · have hxa:=getD_lt (by decide) ha i
    have hna:=nv_take_next (2 ^ 32) a i
    have hga:(Wd a).getD i 0 = ((a.getD i 0:Nat):Int):=Wd_getD a i
    have hgo:(Wd out).getD (i / 2) 0 = ((out.getD (i / 2) 0:Nat):Int):=Wd_getD out _
    generalize a.getD i 0 = da at *
    have e0:decide ((i:Int) < (a.length:Int)) = true:=decide_eq_true (by omega)
    have e1:decide ((0:Int) ≤ (i:Int)) = true:=decide_eq_true (by omega)
    have e2:=quo2i i (by omega)
    have e3:decide ((0:Int) ≤ ((i / 2:Nat):Int)) = true:=decide_eq_true (by omega)
    have e4:decide (((i / 2:Nat):Int) < (out.length:Int)) = true:=decide_eq_true (by omega)
    have e5:IntKind.wrap .i64 ((i:Int) + 1) = ((i + 1:Nat):Int):=by rw [wrapI (by omega)]; omega
    have e6:IntKind.wrap .u64 (IntKind.wrap .i64 (32 * Int.tmod (i:Int) 2)) = ((32 * (i % 2):Nat):Int):=by
      rw [tmod2,wrapI (by omega),wrapU (by omega)]; omega
    dsimp only
    simp only [e0,e1,e2,e3,e4,e5,e6,cond_true,Bool.and_self,Wd_len,Int.toNat_natCast,hga,hgo]
    rcases Nat.mod_two_eq_zero_or_one i with h2 | h2
    · have hz0:=hz (i / 2) (by omega)
      have hns:=nv_set' (2 ^ 64) out (i / 2) da da (by omega) (by omega)
      have s0:shlI .u64 (da:Int) ((32 * (i % 2):Nat):Int) = (da:Int):=by
        rw [h2,shlN _ _ (by decide)]
        congr 1
        omega
      have s1:orI .u64 ((0:Nat):Int) (da:Int) = (da:Int):=by
        rw [orN2 (by decide) (by omega),Nat.zero_or]
      rw [hz0,s0,s1,Wd_set]
      refine hL _ ⟨i + 1,out.set (i / 2) da,by omega,by rw [List.length_set]; exact hol,set_lt hod (by omega),?_,?_,?_,rfl⟩ (by simp only [Int.toNat_natCast]; omega)
      · rw [hns,hna,hov]
        have:(2 ^ 64) ^ (i / 2) = (2 ^ 32) ^ i:=by rw [← Nat.pow_mul,← Nat.pow_mul]; congr 1; omega
        rw [this]
      · intro j hj
        rw [getD_set_ne (by omega)]
        exact hz j (by omega)
      · intro _
        rw [show (i + 1) / 2 = i / 2 by omega,getD_set (by omega)]
        exact hxa
    · have hlo:=ho h2
      generalize hdo:out.getD (i / 2) 0 = lo at *
      have hns:=nv_set' (2 ^ 64) out (i / 2) (lo + da * 2 ^ 32) (da * 2 ^ 32) (by omega) (by omega)
      have s0:shlI .u64 (da:Int) ((32 * (i % 2):Nat):Int) = ((da * 2 ^ 32:Nat):Int):=by
        rw [h2,shlN _ _ (by decide)]
        congr 1
        omega
      rw [s0,orR32 hlo hxa,Wd_set]
      refine hL _ ⟨i + 1,out.set (i / 2) (lo + da * 2 ^ 32),by omega,by rw [List.length_set]; exact hol,set_lt hod (by omega),?_,?_,?_,rfl⟩ (by simp only [Int.toNat_natCast]; omega)
      · rw [hns,hna,hov,Nat.mul_comm da,← Nat.mul_assoc]
        have:(2 ^ 64) ^ (i / 2) * 2 ^ 32 = (2 ^ 32) ^ i:=by rw [← Nat.pow_mul,← Nat.pow_mul,← Nat.pow_add]; congr 1; omega
        rw [this]
      · intro j hj
        rw [getD_set_ne (by omega)]
        exact hz j (by omega)
      · intro h; omega
  · have e:i = a.length:=by omega
    subst e
    rw [List.take_length] at hov
    have e0:decide ((a.length:Int) < (a.length:Int)) = false:=decide_eq_false (by omega)
    dsimp only
    simp only [e0,cond_false,Wd_len]
    exact ⟨_,rfl,out,hol,hod,hov,rfl⟩
theorem T340_eq (a:List Nat) (ha:∀ x ∈ a,x < 2 ^ 32) (hla:a.length ≤ 1000000):T340 (Wd a,()) = some (Dw (nv (2 ^ 32) a),()):=by
  show t340 S133.pre S133.F W340_3 (Wd a) = _
  unfold t340
  obtain ⟨out,k1,k2,k3,k4⟩:=W340_eq a ha hla
  have p0:=T133_eq out (by omega)
  rw [trim_Dw k2,k3] at p0
  have e0:quoI .i64 (IntKind.wrap .i64 ((a.length:Int) + 1)) 2 = (((a.length + 1) / 2:Nat):Int):=by
    have e:IntKind.wrap .i64 ((a.length:Int) + 1) = ((a.length + 1:Nat):Int):=by rw [wrapI (by omega)]; omega
    rw [e,quo2i _ (by omega)]
  have e1:(decide ((0:Int) ≤ (((a.length + 1) / 2:Nat):Int)) && decide ((((a.length + 1) / 2:Nat):Int) * 8 ≤ 140737488355328)) = true:=by
    rw [decide_eq_true (by omega),decide_eq_true (by omega)]; rfl
  dsimp only
  rw [Wd_len,e0,e1,cond_true,Int.toNat_natCast,Wd_rep,k4]
  dsimp only [obind,obind2]
  simp only [pre133 p0,fun133 p0,cond_true]
theorem W341b_eq (a b p:List Nat) (ha:∀ x ∈ a,x < 2 ^ 32) (hb:∀ x ∈ b,x < 2 ^ 32) (hn:b.length ≤ 100000) {i:Nat} (hi:i < a.length) (hal:a.length ≤ 100000) (hpl:i + b.length ≤ p.length) (hpn:p.length ≤ 300000) (hpd:∀ z ∈ p,z < 2 ^ 32)
    (hz:∀ k,i + b.length ≤ k → p.getD k 0 = 0) :
    ∃ (p':List Nat) (c:Nat),p'.length = p.length ∧ (∀ z ∈ p',z < 2 ^ 32) ∧ c < 2 ^ 32 ∧ nv (2 ^ 32) p' + (2 ^ 32) ^ (i + b.length) * c = nv (2 ^ 32) p + (2 ^ 32) ^ i * (a.getD i 0 * nv (2 ^ 32) b) ∧ (∀ k,i + b.length ≤ k → p'.getD k 0 = 0) ∧
      W341_9 (((0:Int),((0:Int),((i:Int),(Wd a,(Wd b,((),())))))),(Wd p,())) = some (.inl (((c:Int),((i:Int),(Wd a,(Wd b,((),()))))),(Wd p',()))):=by
  have hx:=getD_lt (by decide) ha i
  have hga:(Wd a).getD i 0 = ((a.getD i 0:Nat):Int):=Wd_getD a i
  generalize a.getD i 0 = x at *
  have key:=lfix_ex (m341_9 S339.pre S339.F S340.pre S340.F) (fun s=>b.length - s.1.1.toNat)
    (fun s=>∃ (j:Nat) (p':List Nat) (c:Nat),j ≤ b.length ∧ p'.length = p.length ∧ (∀ z ∈ p',z < 2 ^ 32) ∧ c < 2 ^ 32 ∧ nv (2 ^ 32) p' + (2 ^ 32) ^ (i + j) * c = nv (2 ^ 32) p + (2 ^ 32) ^ i * (x * nv (2 ^ 32) (b.take j)) ∧ (∀ k,i + b.length ≤ k → p'.getD k 0 = 0) ∧
      s = (((j:Int),((c:Int),((i:Int),(Wd a,(Wd b,((),())))))),(Wd p',())))
    (fun y=>∃ (p':List Nat) (c:Nat),p'.length = p.length ∧ (∀ z ∈ p',z < 2 ^ 32) ∧ c < 2 ^ 32 ∧ nv (2 ^ 32) p' + (2 ^ 32) ^ (i + b.length) * c = nv (2 ^ 32) p + (2 ^ 32) ^ i * (x * nv (2 ^ 32) b) ∧ (∀ k,i + b.length ≤ k → p'.getD k 0 = 0) ∧
      y = .inl (((c:Int),((i:Int),(Wd a,(Wd b,((),()))))),(Wd p',()))) ?_
    (((0:Int),((0:Int),((i:Int),(Wd a,(Wd b,((),())))))),(Wd p,()))
    ⟨0,p,0,Nat.zero_le _,rfl,hpd,by decide,by simp [nv],hz,rfl⟩
  · obtain ⟨y,hy,p',c,k1,k2,k3,k4,k5,rfl⟩:=key
    exact ⟨p',c,k1,k2,k3,k4,k5,hy⟩
  intro L s hs hL
  obtain ⟨j,q,c,hj,hql,hqd,hc,hinv,hqz,rfl⟩:=hs
  unfold h341_9
  rcases Nat.lt_or_ge j b.length with hlt | hge
  · have hy:=getD_lt (by decide) hb j
    have hp:=getD_lt (by decide) hqd (i + j)
    have hnb:=nv_take_next (2 ^ 32) b j
    have hgb:(Wd b).getD j 0 = ((b.getD j 0:Nat):Int):=Wd_getD b j
    have hgq:(Wd q).getD (i + j) 0 = ((q.getD (i + j) 0:Nat):Int):=Wd_getD q _
    have hst:=fun z=>nv_set (2 ^ 32) q (i + j) z (by omega)
    generalize b.getD j 0 = y at *
    generalize hqe:q.getD (i + j) 0 = d at *
    have hxy:x * y ≤ (2 ^ 32 - 1) * (2 ^ 32 - 1):=Nat.mul_le_mul (by omega) (by omega)
    have f1:=wu_mul x y (by omega)
    have f2:=wu_add (x * y) d (by omega)
    have f3:=wu_add (x * y + d) c (by omega)
    have f4:shrI .u64 ((x * y + d + c:Nat):Int) 32 = (((x * y + d + c) / 2 ^ 32:Nat):Int):=shrN _ 32 (by decide)
    have f5:=a32 (x:=x * y + d + c) (by omega)
    have hl:(x * y + d + c) % 2 ^ 32 < 2 ^ 32:=Nat.mod_lt _ (by decide)
    have hh:(x * y + d + c) / 2 ^ 32 < 2 ^ 32:=by omega
    have e0:decide ((j:Int) < (b.length:Int)) = true:=decide_eq_true (by omega)
    have e1:decide ((0:Int) ≤ (j:Int)) = true:=decide_eq_true (by omega)
    have e2:IntKind.wrap .i64 ((i:Int) + (j:Int)) = ((i + j:Nat):Int):=by rw [wrapI (by omega)]; omega
    have e3:IntKind.wrap .i64 ((j:Int) + 1) = ((j + 1:Nat):Int):=by rw [wrapI (by omega)]; omega
    have e4:decide ((0:Int) ≤ ((i + j:Nat):Int)) = true:=decide_eq_true (by omega)
    have e5:decide ((0:Int) ≤ (i:Int)) = true:=decide_eq_true (by omega)
    have e6:decide ((i:Int) < (a.length:Int)) = true:=decide_eq_true (by omega)
    have e7:decide (((i + j:Nat):Int) < (q.length:Int)) = true:=decide_eq_true (by omega)
    dsimp only
    simp only [e0,e1,e2,e3,e4,e5,e6,e7,cond_true,Bool.and_self,Wd_len,Int.toNat_natCast,hga,hgb,hgq,f1,f2,f3,f4,f5,Wd_set]
    refine hL _ ⟨j + 1,q.set (i + j) ((x * y + d + c) % 2 ^ 32),(x * y + d + c) / 2 ^ 32,by omega,by rw [List.length_set]; exact hql,mem_set hqd hl,hh,?_,?_,rfl⟩ (by simp only [Int.toNat_natCast]; omega)
    · have h1:=hst ((x * y + d + c) % 2 ^ 32)
      rw [hnb,show i + (j + 1) = i + j + 1 by omega,pow_up32,Nat.mul_add x,Nat.mul_add ((2 ^ 32) ^ i),Nat.mul_left_comm x,← Nat.mul_assoc ((2 ^ 32) ^ i) ((2 ^ 32) ^ j),← Nat.pow_add]
      have h2:(2 ^ 32) ^ (i + j) * (x * y + d + c) = (2 ^ 32) ^ (i + j) * (2 ^ 32 * ((x * y + d + c) / 2 ^ 32) + (x * y + d + c) % 2 ^ 32):=by rw [Nat.div_add_mod]
      generalize (x * y + d + c) % 2 ^ 32 = o at *
      generalize (x * y + d + c) / 2 ^ 32 = c' at *
      generalize x * y = z at *
      rw [Nat.mul_add,Nat.mul_add,Nat.mul_add,← Nat.mul_assoc ((2 ^ 32) ^ (i + j)) (2 ^ 32)] at h2
      omega
    · intro k hk
      rw [getD_set_ne (by omega)]
      exact hqz k hk
  · have e:j = b.length:=by omega
    subst e
    have e0:decide ((b.length:Int) < (b.length:Int)) = false:=decide_eq_false (by omega)
    dsimp only
    simp only [Wd_len,e0,cond_false]
    rw [List.take_length] at hinv
    exact ⟨_,rfl,q,c,hql,hqd,hc,hinv,hqz,rfl⟩
theorem W341a_eq (a b:List Nat) (ha:∀ x ∈ a,x < 2 ^ 32) (hb:∀ x ∈ b,x < 2 ^ 32) (hna:a.length ≤ 100000) (hnb:b.length ≤ 100000) :
    ∃ p:List Nat,p.length = a.length + b.length ∧ (∀ z ∈ p,z < 2 ^ 32) ∧ nv (2 ^ 32) p = nv (2 ^ 32) a * nv (2 ^ 32) b ∧
      W341_5 (((Wd a,(Wd b,((0:Int),((),())))),(Wd (List.replicate (a.length + b.length) 0),())):P341_5.D) = some (.inl (((),()),(Wd p,()))):=by
  have key:=lfix_ex (m341_5 S339.pre S339.F S340.pre S340.F W341_9) (fun s=>a.length - s.1.2.2.1.toNat)
    (fun s=>∃ (i:Nat) (p:List Nat),i ≤ a.length ∧ p.length = a.length + b.length ∧ (∀ z ∈ p,z < 2 ^ 32) ∧ nv (2 ^ 32) p = nv (2 ^ 32) (a.take i) * nv (2 ^ 32) b ∧ (∀ k,i + b.length ≤ k → p.getD k 0 = 0) ∧
      s = ((Wd a,(Wd b,((i:Int),((),())))),(Wd p,())))
    (fun y=>∃ p:List Nat,p.length = a.length + b.length ∧ (∀ z ∈ p,z < 2 ^ 32) ∧ nv (2 ^ 32) p = nv (2 ^ 32) a * nv (2 ^ 32) b ∧ y = .inl (((),()),(Wd p,()))) ?_
    ((Wd a,(Wd b,((0:Int),((),())))),(Wd (List.replicate (a.length + b.length) 0),()))
    ⟨0,List.replicate (a.length + b.length) 0,Nat.zero_le _,by simp,(fun z hz=>by have:=(List.mem_replicate.1 hz).2; omega),by rw [nv_rep]; simp [nv],(fun k _=>rep_getD _ _),rfl⟩
  · obtain ⟨y,hy,p,k1,k2,k3,rfl⟩:=key
    exact ⟨p,k1,k2,k3,hy⟩
  intro L s hs hL
  obtain ⟨i,p,hi,hpl,hpd,hinv,hz,rfl⟩:=hs
  unfold h341_5
  rcases Nat.lt_or_ge i a.length with hlt | hge
  · have hna':=nv_take_next (2 ^ 32) a i
    obtain ⟨p',c,k1,k2,k3,k4,k5,k6⟩:=W341b_eq a b p ha hb hnb (i:=i) hlt hna (by omega) (by omega) hpd hz
    have e0:decide ((i:Int) < (a.length:Int)) = true:=decide_eq_true (by omega)
    have e2:IntKind.wrap .i64 ((i:Int) + (b.length:Int)) = ((i + b.length:Nat):Int):=by rw [wrapI (by omega)]; omega
    have e3:IntKind.wrap .i64 ((i:Int) + 1) = ((i + 1:Nat):Int):=by rw [wrapI (by omega)]; omega
    have e4:decide ((0:Int) ≤ ((i + b.length:Nat):Int)) = true:=decide_eq_true (by omega)
    have e5:decide (((i + b.length:Nat):Int) < (p'.length:Int)) = true:=decide_eq_true (by omega)
    dsimp only
    simp only [e0,cond_true,Wd_len]
    rw [k6]
    dsimp only [obind,obind2]
    simp only [e2,e3,e4,e5,Bool.and_self,cond_true,Wd_len,Int.toNat_natCast,Wd_set]
    rcases Nat.eq_zero_or_pos b.length with hb0 | hb0
    · have e6:decide ((b.length:Int) > 0) = false:=decide_eq_false (by omega)
      have hb1:b = []:=List.length_eq_zero_iff.1 hb0
      simp only [e6,cond_false]
      refine hL _ ⟨i + 1,p',by omega,by omega,k2,?_,(fun k hk=>k5 k (by omega)),rfl⟩ (by simp only [Int.toNat_natCast]; omega)
      have h0:nv (2 ^ 32) b = 0:=by rw [hb1]; rfl
      rw [h0,Nat.mul_zero] at hinv k4 ⊢
      rw [hinv,Nat.mul_zero] at k4
      omega
    · have e6:decide ((b.length:Int) > 0) = true:=decide_eq_true (by omega)
      simp only [e6,cond_true]
      refine hL _ ⟨i + 1,p'.set (i + b.length) c,by omega,by rw [List.length_set]; omega,mem_set k2 k3,?_,?_,rfl⟩ (by simp only [Int.toNat_natCast]; omega)
      · have h1:=nv_set (2 ^ 32) p' (i + b.length) c (by omega)
        rw [k5 _ (Nat.le_refl _),Nat.mul_zero,Nat.add_zero] at h1
        rw [h1,k4,hinv,hna',Nat.add_mul,Nat.mul_assoc]
      · intro k hk
        rw [getD_set_ne (by omega)]
        exact k5 k (by omega)
  · have e:i = a.length:=by omega
    subst e
    have e0:decide ((a.length:Int) < (a.length:Int)) = false:=decide_eq_false (by omega)
    simp only [Wd_len,e0,cond_false]
    rw [List.take_length] at hinv
    exact ⟨_,rfl,p,hpl,hpd,hinv,rfl⟩
theorem T342_eq (a b:List Nat) (ha:∀ x ∈ a,x < 2 ^ 64) (hb:∀ x ∈ b,x < 2 ^ 64) (hla:a.length ≤ 5000) (hlb:b.length ≤ 5000):T342 (Wd a,Wd b,()) = some (Dw (nv (2 ^ 64) a * nv (2 ^ 64) b),()):=by
  have key:T341 (Wd a,Wd b,()) = some (Dw (nv (2 ^ 64) a * nv (2 ^ 64) b),()):=by
    show t341 S339.pre S339.F S340.pre S340.F W341_5 W341_9 (Wd a) (Wd b) = _
    unfold t341
    obtain ⟨u,u1,u2,u3,pa⟩:=T339_eq a ha hla
    obtain ⟨v,v1,v2,v3,pb⟩:=T339_eq b hb hlb
    obtain ⟨p,k1,k2,k3,k4⟩:=W341a_eq u v u2 v2 (by omega) (by omega)
    rw [u3,v3] at k3
    have e0:IntKind.wrap .i64 ((u.length:Int) + (v.length:Int)) = ((u.length + v.length:Nat):Int):=by rw [wrapI (by omega)]; omega
    have e1:(decide ((0:Int) ≤ ((u.length + v.length:Nat):Int)) && decide (((u.length + v.length:Nat):Int) * 8 ≤ 140737488355328)) = true:=by
      rw [decide_eq_true (by omega),decide_eq_true (by omega)]; rfl
    have p0:=T340_eq p k2 (by omega)
    rw [k3] at p0
    dsimp only
    simp only [pre339 pa,fun339 pa,pre339 pb,fun339 pb,cond_true,Wd_len,e0,e1,Int.toNat_natCast,Wd_rep]
    rw [k4]
    dsimp only [obind,obind2]
    simp only [pre340 p0,fun340 p0,cond_true]
  show t342 S341.pre S341.F (Wd a) (Wd b) = _
  unfold t342
  simp only [pre341 key,fun341 key,cond_true]
theorem T342_dw {a b:Nat} (ha:a < (2 ^ 64) ^ 5000) (hb:b < (2 ^ 64) ^ 5000):T342 (Dw a,Dw b,()) = some (Dw (a * b),()):=by
  have:=T342_eq (dg (2 ^ 64) a) (dg (2 ^ 64) b) (dg_lt (by decide) _) (dg_lt (by decide) _) (dg_len_le (by decide) _ _ ha) (dg_len_le (by decide) _ _ hb)
  rw [nv_Dw,nv_Dw] at this
  exact this
end VL
namespace VL
open Go Vx
theorem W83_list {f:Int} (hf:Fm f) (l:List Nat) (hl:∀ a ∈ l,a < 2 ^ 64) (hlen:l.length < 1000) :
    W83_7 (((l.length:Int),(Wd l,(f,((0:Int),())))),()) = some (bif okL f l then .inl ((),()) else .inr (((4:Int),()),())):=by
  have key:=lfix_ind (m83_7 S131.pre S131.F S108.pre S108.F) (fun x=>l.length - x.1.2.2.2.1.toNat)
    (fun x=>∃ i:Nat,i ≤ l.length ∧ okL f (l.take i) = true ∧ x = (((l.length:Int),(Wd l,(f,((i:Int),())))),()))
    (fun _=>bif okL f l then .inl ((),()) else .inr (((4:Int),()),())) ?_ _ ⟨0,Nat.zero_le _,rfl,rfl⟩
  · exact key
  intro L x hx hL
  obtain ⟨i,hi,hok,rfl⟩:=hx
  unfold h83_7
  rcases Nat.lt_or_ge i l.length with hlt | hge
  · have hg:l.getD i 0 = l[i]:=by simp [List.getD_eq_getElem?_getD,hlt]
    have hmem:l[i] ∈ l:=List.getElem_mem hlt
    have ha:=hl _ hmem
    have p0:=T108_eq f l[i] ha
    have e0:decide ((i:Int) < (l.length:Int)) = true:=decide_eq_true (by omega)
    have e1:(decide ((0:Int) ≤ (i:Int)) && decide ((i:Int) < ((Wd l).length:Int))) = true:=by rw [Wd_len,decide_eq_true (by omega),decide_eq_true (by omega)]; rfl
    have e2:(Wd l).getD (Int.toNat (i:Int)) 0 = ((l[i]:Nat):Int):=by rw [Int.toNat_natCast,Wd_getD,hg]
    have e3:IntKind.wrap .i64 ((i:Int) + 1) = ((i + 1:Nat):Int):=by rw [wrapI (by omega)]; omega
    have htk:l.take (i + 1) = l.take i ++ [l[i]]:=by rw [List.take_succ_eq_append_getElem hlt]
    dsimp only
    simp only [e0,e1,e2,e3,cond_true,pre108 p0,fun108 p0]
    by_cases hc:chk f l[i] = 0
    · rw [hc,bne_self_eq_false,cond_false]
      refine hL _ ⟨i + 1,by omega,?_,rfl⟩ (by simp only [Int.toNat_natCast]; omega)
      unfold okL at hok ⊢
      rw [htk,List.all_append,hok,List.all_cons,hc]; rfl
    · have h4:chk f l[i] = 4:=(chk_cases hf _).resolve_left hc
      have hno:okL f l = false:=by
        unfold okL
        rw [List.all_eq_false]
        exact ⟨l[i],hmem,by rw [h4]; decide⟩
      rw [h4,hno]; rfl
  · have e:i = l.length:=by omega
    subst e
    rw [List.take_length] at hok
    have e0:decide ((l.length:Int) < (l.length:Int)) = false:=decide_eq_false (by omega)
    simp only [e0,cond_false]
    rw [hok]; rfl
theorem T83_list (f m:Int) (l:List Nat) (hl:∀ a ∈ l,a < 2 ^ 64) (hlen:l.length < 1000):T83 (f,m,Wd l,()) = some (chkL f m l,()):=by
  show t83 S131.pre S131.F S108.pre S108.F W83_7 f m (Wd l) = _
  unfold t83 chkL
  by_cases hf:Fm f
  · have p0:=T131_ok hf
    rw [if_neg (show ¬ ¬ Fm f from fun h=>h hf)]
    simp only [pre131 p0,fun131 p0,cond_true,Bool.not_true,cond_false]
    by_cases hm:m < 0 ∨ m > 5
    · rw [if_pos hm]
      have:(decide (m < 0) || decide (m > 5)) = true:=by rcases hm with h | h <;> simp [h]
      rw [this,cond_true]
    · rw [if_neg hm]
      have:(decide (m < 0) || decide (m > 5)) = false:=by
        rw [decide_eq_false (by omega),decide_eq_false (by omega)]; rfl
      rw [this,cond_false,Wd_len,W83_list hf l hl hlen]
      cases okL f l <;> rfl
  · have p0:=T131_bad hf
    rw [if_pos hf]
    simp only [pre131 p0,fun131 p0,cond_true,Bool.not_false]
end VL
namespace VL
open Go Vx
theorem cls_neg0 {f:Int} (hf:Fm f) (a:Nat):(cls f a == 5) = (zro f a && sF f a):=by
  have hfull:=full_pos hf
  unfold cls zro
  simp only [bne]
  cases h1:eF f a == fullF f <;> cases h2:mF f a == 0 <;> cases sF f a <;> cases h3:eF f a == 0 <;> cases mF f a / 2 ^ (fP f - 2) == 0 <;> first | rfl | (exfalso; rw [beq_iff_eq] at h1 h3; omega)
theorem cls_pos0 {f:Int} (hf:Fm f) (a:Nat):(cls f a == 6) = (zro f a && !sF f a):=by
  have hfull:=full_pos hf
  unfold cls zro
  simp only [bne]
  cases h1:eF f a == fullF f <;> cases h2:mF f a == 0 <;> cases sF f a <;> cases h3:eF f a == 0 <;> cases mF f a / 2 ^ (fP f - 2) == 0 <;> first | rfl | (exfalso; rw [beq_iff_eq] at h1 h3; omega)
theorem isq_quot (A n K:Nat) (hn:0 < n) (hK:0 < K):isq (A * (K * K) / n) / K = isq (A / n):=by
  symm
  have h1:=isq_le (A * (K * K) / n)
  have h3:∀ y,y * K ≤ isq (A * (K * K) / n) ↔ y * y ≤ A / n:=fun y=>by
    have e:y * K * (y * K) * n = y * y * n * (K * K):=by rw [mul_sq,Nat.mul_right_comm]
    constructor
    · intro h
      rw [Nat.le_div_iff_mul_le hn]
      have h4:=Nat.le_trans (sq_mono h) h1
      rw [Nat.le_div_iff_mul_le hn,e] at h4
      exact Nat.le_of_mul_le_mul_right h4 (Nat.mul_pos hK hK)
    · intro h
      rw [Nat.le_div_iff_mul_le hn] at h
      apply isq_ge
      rw [Nat.le_div_iff_mul_le hn,e]
      exact Nat.mul_le_mul_right _ h
  apply isq_of
  · exact (h3 _).1 (Nat.div_mul_le_self _ _)
  · rcases Nat.lt_or_ge (A / n) ((isq (A * (K * K) / n) / K + 1) * (isq (A * (K * K) / n) / K + 1)) with h | h
    · exact h
    · have:=(h3 _).2 h
      have h4:=Nat.lt_div_mul_add (a:=isq (A * (K * K) / n)) hK
      rw [Nat.add_mul,Nat.one_mul] at this
      omega
noncomputable def recB (f m:Int) (n:Nat) (e:Int):Nat × Nat:=rndM2 f m (isq (2 ^ 400 / n)) (-e - 200) (!decide (isq (2 ^ 400 / n) * isq (2 ^ 400 / n) * n = 2 ^ 400))
noncomputable def recX (f m:Int) (n:Nat) (e:Int):Nat × Nat:=if e % 2 = 1 then recB f m (2 * n) ((e - 1) / 2) else recB f m n (e / 2)
theorem rec_exact {n:Nat} (hn:0 < n):(isq (2 ^ 240 / n) * isq (2 ^ 240 / n) * n = 2 ^ 240) ↔ (isq (2 ^ 400 / n) * isq (2 ^ 400 / n) * n = 2 ^ 400 ∧ isq (2 ^ 400 / n) % 2 ^ 80 = 0):=by
  have hq:=isq_quot (2 ^ 240) n (2 ^ 80) hn (Nat.two_pow_pos _)
  rw [show 2 ^ 240 * (2 ^ 80 * 2 ^ 80) = 2 ^ 400 by decide +kernel] at hq
  have hdm:=Nat.div_add_mod (isq (2 ^ 400 / n)) (2 ^ 80)
  constructor
  · intro h
    have h2:isq (2 ^ 400 / n) = isq (2 ^ 240 / n) * 2 ^ 80:=by
      generalize isq (2 ^ 240 / n) = r at *
      have e:2 ^ 400 = (r * 2 ^ 80) * (r * 2 ^ 80) * n:=by
        rw [mul_sq,Nat.mul_right_comm,h] <;> decide +kernel
      rw [e,Nat.mul_div_cancel _ hn,isq_sq]
    rw [h2]
    refine ⟨?_,Nat.mul_mod_left _ _⟩
    rw [mul_sq,Nat.mul_right_comm,h] <;> decide +kernel
  · rintro ⟨h1,h2⟩
    rw [h2,Nat.add_zero,hq] at hdm
    rw [← hdm,Nat.mul_comm (2 ^ 80),mul_sq,Nat.mul_right_comm] at h1
    have e:2 ^ 400 = 2 ^ 240 * (2 ^ 80 * 2 ^ 80):=by decide +kernel
    rw [e] at h1
    exact Nat.eq_of_mul_eq_mul_right (by decide) h1
theorem blen_recip {n:Nat} (hn:0 < n) (h:n < 2 ^ 54):94 ≤ blen (isq (2 ^ 240 / n)):=by
  apply isq_blen
  rw [Nat.le_div_iff_mul_le hn]
  have:2 ^ (2 * 93) * n ≤ 2 ^ (2 * 93) * 2 ^ 54:=Nat.mul_le_mul_left _ (by omega)
  rw [← Nat.pow_add] at this
  exact this
theorem not_both (p:Prop) (y:Nat) [Decidable p] [Decidable (p ∧ y = 0)]:(!decide (p ∧ y = 0)) = (!decide p || decide (y ≠ 0)):=by
  by_cases h1:p <;> by_cases h2:y = 0 <;> simp [h1,h2]
theorem rec_prog {f m:Int} (hf:Fm f) {n:Nat} (hn:0 < n) (h:n < 2 ^ 54) (e:Int) :
    rndM2 f m (isq (2 ^ 240 / n)) (-e - 120) (!decide (isq (2 ^ 240 / n) * isq (2 ^ 240 / n) * n = 2 ^ 240)) = recB f m n e:=by
  have hPl:=fP_le hf
  have hb:=blen_recip hn h
  have hq:=isq_quot (2 ^ 240) n (2 ^ 80) hn (Nat.two_pow_pos _)
  rw [show 2 ^ 240 * (2 ^ 80 * 2 ^ 80) = 2 ^ 400 by decide +kernel] at hq
  have hx:=rec_exact hn
  have hc:=rndM2_cut (f:=f) (m:=m) (R:=isq (2 ^ 400 / n)) (k:=80) (E:=-e - 200) (more:=!decide (isq (2 ^ 400 / n) * isq (2 ^ 400 / n) * n = 2 ^ 400)) hf (by rw [hq]; omega)
  unfold recB
  rw [← hc,hq,← rndM2_mark hf (fun _=>by omega)]
  have e1:(!decide (isq (2 ^ 240 / n) * isq (2 ^ 240 / n) * n = 2 ^ 240)) = (!decide (isq (2 ^ 400 / n) * isq (2 ^ 400 / n) * n = 2 ^ 400) || decide (isq (2 ^ 400 / n) % 2 ^ 80 ≠ 0)):=by
    rw [decide_eq_decide.2 hx]
    exact not_both _ _
  rw [e1,show -e - 200 + ((80:Nat):Int) = -e - 120 by omega]
noncomputable def recipF (f m:Int) (a:Nat):Int × Int × Int × Unit :=
  if chkL f m [a] ≠ 0 then (0,0,chkL f m [a],())
  else bif nan f a then ((nanF f:Int),(bif snan f a then 1 else 0),0,())
  else bif sF f a && !zro f a then ((nanF f:Int),1,0,())
  else bif zro f a then ((infB f (sF f a):Int),2,0,())
  else bif isInf f a then ((sgnF f false:Int),0,0,())
  else (((recX f m (mant f a) (xpn f a)).1:Int),((recX f m (mant f a) (xpn f a)).2:Int),0,())
theorem T346_eq (f m:Int) {a:Nat} (ha:a < 2 ^ 64):T346 (f,m,(a:Int),()) = some (recipF f m a):=by
  show t346 S311.pre S311.F S65.pre S65.F S312.pre S312.F S118.pre S118.F S97.pre S97.F S313.pre S313.F S176.pre S176.F S345.pre S345.F S334.pre S334.F S335.pre S335.F f m a = _
  unfold t346 recipF
  rw [show ((a:Int) :: []) = Wd [a] from rfl]
  by_cases hf:Fm f
  case neg =>
    have p0:=T311_bad (m:=m) hf [a]
    have e0:chkL f m [a] = 2:=by unfold chkL; rw [if_pos hf]
    rw [e0]
    simp only [pre311 p0,fun311 p0,cond_true]
    rfl
  have p0:=T311_ok (m:=m) hf [a] (fun b hb=>by rw [List.mem_singleton] at hb; omega) (show (1:Nat) < 1000 by decide)
  by_cases hk:chkL f m [a] ≠ 0
  · rw [if_pos hk]
    have:(chkL f m [a] != 0) = true:=bne_iff_ne.2 hk
    simp only [pre311 p0,fun311 p0,cond_true,this]
  have hk:chkL f m [a] = 0:=Classical.not_not.1 hk
  obtain ⟨_,hm,hc⟩:=chkL_zero hk
  have h:=hc a (List.mem_singleton.2 rfl)
  rw [if_neg (show ¬ chkL f m [a] ≠ 0 from fun h=>h hk)]
  rw [hk] at p0
  have p1:=T65_ok ha h
  have p2:=T312_eq hf (cls f a)
  have hcn:=cls_nan f a
  have hcs:=cls_snan f a
  have hcb:=cls_below hf a
  have hcz:=cls_neg0 hf a
  have hcp:=cls_pos0 hf a
  have hcu:=cls_up hf a
  dsimp only
  simp only [pre311 p0,fun311 p0,cond_true,bne_self_eq_false,cond_false,pre65 p1,fun65 p1,pre312 p2,fun312 p2,hcu,hcz,hcp,pre97 (T97_ok hf _),fun97 (T97_ok hf _),pre118 (T118_ok hf _),fun118 (T118_ok hf _)]
  cases hn:nan f a
  case true =>
    cases hs:snan f a
    · rw [hs] at hcs
      rw [hn,hcs,Bool.or_false] at hcn
      rw [hcn]; rfl
    · rw [hs] at hcs
      have h1:(cls f a == 1) = false:=by
        rw [beq_iff_eq] at hcs
        rw [hcs]; rfl
      rw [h1,hcs]; rfl
  rw [hn,Bool.or_eq_false_iff] at hcn
  rw [hn,Bool.not_false,Bool.and_true] at hcb
  rw [hcn.1,hcn.2,Bool.false_or]
  simp only [cond_false]
  rw [hcb]
  cases hb:sF f a && !zro f a
  case true=>rfl
  simp only [cond_false]
  cases hz:zro f a
  case true =>
    have hi:isInf f a = false:=by
      have hfull:=full_pos hf
      unfold zro at hz
      rw [Bool.and_eq_true,beq_iff_eq] at hz
      unfold isInf
      rw [hz.1]
      have:(0 == fullF f) = false:=by
        rw [beq_eq_false_iff_ne]; omega
      rw [this]; rfl
    rw [hi]
    cases sF f a <;> rfl
  rw [hz,Bool.not_false,Bool.and_true] at hb
  rw [hb]
  cases hi:isInf f a
  case true=>rfl
  simp only [Bool.false_and,cond_false]
  have h0:=zro_mant hz
  have hml:=mant_lt hf a
  have hx:=xpn_bound hf a
  have p3:=T313_eq h
  have hw2:IntKind.wrap .u64 (2 * (mant f a:Int)) = ((2 * mant f a:Nat):Int):=by rw [wrapU (by omega)]; omega
  have p4:T176 (((1:Int) :: []),(240:Int),()) = some (Dw (2 ^ 240),0,()):=by
    have h1:Ws [1]:=⟨by simp,by simp⟩
    have:=T176_eq [1] h1 240 (by decide) (by rw [show nv (2 ^ 64) [1] = 1 by simp [nv],pow64_2,Nat.one_mul]; exact Nat.pow_lt_pow_right (by decide) (by decide))
    rw [show nv (2 ^ 64) [1] = 1 by simp [nv],Nat.one_mul] at this
    exact this
  have go:∀ (n:Nat) (e:Int),0 < n → n < 2 ^ 54 → -5000 ≤ e ∧ e ≤ 5000 →
      T345 (Dw (2 ^ 240),((n:Int) :: []),()) = some (Dw (2 ^ 240 / n),Dw (2 ^ 240 % n),0,()) ∧
      T334 (Dw (2 ^ 240 / n),()) = some (Dw (isq (2 ^ 240 / n)),decide (isq (2 ^ 240 / n) * isq (2 ^ 240 / n) = 2 ^ 240 / n),0,()) ∧
      T335 (f,m,Dw (isq (2 ^ 240 / n)),-e - 120,(!decide (isq (2 ^ 240 / n) * isq (2 ^ 240 / n) = 2 ^ 240 / n) || decide (((Dw (2 ^ 240 % n)).length:Int) > 0)),()) = some (((recB f m n e).1:Int),((recB f m n e).2:Int),0,()):=fun n e hn hn2 he=>by
    have hPl:=fP_le hf
    have hd1:((n:Int) :: []) = Dw n:=(Dw_small (by omega) (by omega)).symm
    have hq0:2 ^ 240 / n ≤ 2 ^ 240:=Nat.div_le_self _ _
    have h240:2 ^ 240 < (2 ^ 64) ^ 1024:=by rw [pow64_2]; exact Nat.pow_lt_pow_right (by decide) (by decide)
    have hb:=blen_recip hn hn2
    have hr:=isq_self (2 ^ 240 / n)
    have hr0:isq (2 ^ 240 / n) ≠ 0:=fun h=>by
      rw [h] at hb
      have:blen 0 = 0:=rfl
      omega
    have q1:=T345_eq h240 (b:=n) (by rw [pow64_2]; exact Nat.lt_of_lt_of_le hn2 (Nat.pow_le_pow_right (by decide) (by decide))) (by omega)
    rw [← hd1] at q1
    have q2:=T334_eq (A:=2 ^ 240 / n) (Nat.lt_of_le_of_lt hq0 h240)
    have q3:=T335_eq hf hm hr0 (Nat.lt_of_le_of_lt (Nat.le_trans hr hq0) (Nat.pow_lt_pow_right (by decide) (by decide))) (-e - 120) (by omega) (!decide (isq (2 ^ 240 / n) * isq (2 ^ 240 / n) * n = 2 ^ 240)) (fun _=>by omega)
    rw [rec_prog hf hn hn2] at q3
    have eB:(!decide (isq (2 ^ 240 / n) * isq (2 ^ 240 / n) = 2 ^ 240 / n) || decide (((Dw (2 ^ 240 % n)).length:Int) > 0)) = !decide (isq (2 ^ 240 / n) * isq (2 ^ 240 / n) * n = 2 ^ 240):=by
      have hl0:decide (((Dw (2 ^ 240 % n)).length:Int) > 0) = decide (2 ^ 240 % n ≠ 0):=by
        have:=Dw_len0 (2 ^ 240 % n)
        rw [Bool.eq_iff_iff,beq_iff_eq,decide_eq_true_eq] at this
        rw [decide_eq_decide]
        omega
      rw [hl0]
      have hdm:=Nat.div_add_mod (2 ^ 240) n
      have hml:=Nat.mod_lt (2 ^ 240) hn
      rw [Bool.eq_iff_iff,Bool.or_eq_true,Bool.not_eq_true',Bool.not_eq_true',decide_eq_false_iff_not,decide_eq_true_eq,decide_eq_false_iff_not]
      constructor
      · intro h3 h4
        have h5:2 ^ 240 / n = isq (2 ^ 240 / n) * isq (2 ^ 240 / n):=by
          generalize isq (2 ^ 240 / n) * isq (2 ^ 240 / n) = z at *
          rw [← h4,Nat.mul_div_cancel _ hn]
        rcases h3 with h3 | h3
        · exact h3 h5.symm
        · rw [h5,Nat.mul_comm n,h4] at hdm
          omega
      · intro h3
        by_cases h4:isq (2 ^ 240 / n) * isq (2 ^ 240 / n) = 2 ^ 240 / n
        · right
          intro h5
          rw [h5,Nat.add_zero,Nat.mul_comm] at hdm
          rw [h4] at h3
          exact h3 hdm
        · exact .inl h4
    rw [eB]
    exact ⟨q1,q2,q3⟩
  simp only [pre313 p3,fun313 p3,cond_true,tmodP,pre176 p4,fun176 p4,hw2]
  unfold recX
  by_cases ho:xpn f a % 2 = 1
  · obtain ⟨q1,q2,q3⟩:=go (2 * mant f a) ((xpn f a - 1) / 2) (by omega) (by omega) (by omega)
    have e1:IntKind.wrap .i64 (xpn f a - 1) = xpn f a - 1:=wrapI (by omega)
    have e2:quoI .i64 (xpn f a - 1) 2 = (xpn f a - 1) / 2:=by
      have:=quo2 ((xpn f a - 1) / 2) (by omega)
      rw [show 2 * ((xpn f a - 1) / 2) = xpn f a - 1 by omega] at this
      exact this
    have e3:IntKind.wrap .i64 (-120 - (xpn f a - 1) / 2) = -((xpn f a - 1) / 2) - 120:=by rw [wrapI (by omega)]; omega
    rw [decide_eq_true ho,if_pos ho]
    simp only [cond_true,e1,e2,e3,pre345 q1,fun345 q1,pre334 q2,fun334 q2,pre335 q3,fun335 q3]
  · obtain ⟨q1,q2,q3⟩:=go (mant f a) (xpn f a / 2) (by omega) (by omega) (by omega)
    have e2:quoI .i64 (xpn f a) 2 = xpn f a / 2:=by
      have:=quo2 (xpn f a / 2) (by omega)
      rw [show 2 * (xpn f a / 2) = xpn f a by omega] at this
      exact this
    have e3:IntKind.wrap .i64 (-120 - xpn f a / 2) = -(xpn f a / 2) - 120:=by rw [wrapI (by omega)]; omega
    rw [decide_eq_false ho,if_neg ho]
    simp only [cond_true,cond_false,e2,e3,pre345 q1,fun345 q1,pre334 q2,fun334 q2,pre335 q3,fun335 q3]
end VL
namespace VL
open Go Vx
theorem sgn_if {f:Int} {a:Nat} (h:chk f a = 0):(sgn f a:Int) = if sF f a then 1 else 0:=by
  have h1:=sgn_eq h
  have h2:sgn f a < 2:=Nat.mod_lt _ (by decide)
  cases hs:sF f a
  · rw [hs,beq_eq_false_iff_ne] at h1
    rw [if_neg (by decide)]; omega
  · rw [hs,beq_iff_eq] at h1
    rw [if_pos rfl]; omega
theorem T347_eq (f m:Int) {a:Nat} (ha:a < 2 ^ 64):T347 (f,m,(a:Int),()) = some (recipF f m a):=by
  show t347 S83.pre S83.F S56.pre S56.F S319.pre S319.F S84.pre S84.F S86.pre S86.F S59.pre S59.F S169.pre S169.F S85.pre S85.F S114.pre S114.F S87.pre S87.F S165.pre S165.F S320.pre S320.F S342.pre S342.F S166.pre S166.F S164.pre S164.F S168.pre S168.F S89.pre S89.F S88.pre S88.F f m a = _
  unfold t347 recipF
  have p0:=T83_list f m [a] (fun b hb=>by rw [List.mem_singleton] at hb; omega) (show (1:Nat) < 1000 by decide)
  have p0:T83 (f,m,((a:Int) :: []),()) = _:=p0
  by_cases hk:chkL f m [a] ≠ 0
  · rw [if_pos hk]
    have:(chkL f m [a] != 0) = true:=bne_iff_ne.2 hk
    simp only [pre83 p0,fun83 p0,cond_true,this]
  have hk:chkL f m [a] = 0:=Classical.not_not.1 hk
  obtain ⟨hf,hm,hc⟩:=chkL_zero hk
  have h:=hc a (List.mem_singleton.2 rfl)
  rw [if_neg (show ¬ chkL f m [a] ≠ 0 from fun h=>h hk)]
  rw [hk] at p0
  have p1:=nans1 hf ha
  have p2:=T84_ok hf
  have p3:=T85_eq hf ha
  have p4:=T86_eq hf ha
  have p5:=T87_eq hf ha
  have p6:=T319_eq h
  have p7:=T59_eq hf ha
  have p8:=T169_ok hf (sF f a)
  rw [← sgn_if h] at p8
  have p9:=T114_zero hf
  have hzf:zeroF f false = sgnF f false:=rfl
  rw [hzf] at p9
  have ez:(eF f a == 0 && mF f a == 0) = zro f a:=rfl
  rw [ez] at p4
  dsimp only
  simp only [pre83 p0,fun83 p0,cond_true,bne_self_eq_false,cond_false,pre56 p1,fun56 p1,pre84 p2,fun84 p2,pre319 p6,fun319 p6]
  cases hn:nan f a
  case true=>rfl
  simp only [cond_false]
  cases hb:sF f a && !zro f a
  case true=>rfl
  simp only [cond_false,pre86 p4,fun86 p4,pre59 p7,fun59 p7,pre169 p8,fun169 p8,pre85 p3,fun85 p3,pre114 p9,fun114 p9,cond_true]
  cases hz:zro f a
  case true=>rfl
  simp only [cond_false]
  cases hi:isInf f a
  case true=>rfl
  simp only [cond_false,pre87 p5,fun87 p5,cond_true,tmodP]
  have h0:=zro_mant hz
  have hml:=mant_lt hf a
  have hx:=xpn_tight hf a
  have hw2:IntKind.wrap .u64 ((mant f a:Int) * 2) = ((2 * mant f a:Nat):Int):=by rw [wrapU (by omega)]; omega
  have p10:T164 (((1:Int) :: []),(400:Int),()) = some (Dw (2 ^ 400),()):=by
    have:=T164_eq (x:=1) (by rw [pow64_2]; exact Nat.one_lt_two_pow (by decide)) 400 (by decide)
    rw [Dw_one,Nat.one_mul] at this
    exact this
  have p89:∀ (N:Nat) (E:Int),T89 (false,Dw N,E,()) = some (NumS false N E,()):=fun N E=>by
    unfold NumS
    rw [Dw_one]; rfl
  have go:∀ (n:Nat) (e:Int),0 < n → n < 2 ^ 54 → -1000 ≤ e ∧ e ≤ 1000 →
      T165 (Dw (2 ^ 400),((n:Int) :: []),()) = some (Dw (2 ^ 400 / n),Dw (2 ^ 400 % n),()) ∧
      T320 (Dw (2 ^ 400 / n),()) = some (Dw (isq (2 ^ 400 / n)),decide (isq (2 ^ 400 / n) * isq (2 ^ 400 / n) = 2 ^ 400 / n),0,()) ∧
      T342 (Dw (isq (2 ^ 400 / n)),Dw (isq (2 ^ 400 / n)),()) = some (Dw (isq (2 ^ 400 / n) * isq (2 ^ 400 / n)),()) ∧
      T342 (Dw (isq (2 ^ 400 / n) * isq (2 ^ 400 / n)),((n:Int) :: []),()) = some (Dw (isq (2 ^ 400 / n) * isq (2 ^ 400 / n) * n),()) ∧
      T166 (Dw (isq (2 ^ 400 / n) * isq (2 ^ 400 / n) * n),Dw (2 ^ 400),()) = some (if isq (2 ^ 400 / n) * isq (2 ^ 400 / n) * n = 2 ^ 400 then 0 else if isq (2 ^ 400 / n) * isq (2 ^ 400 / n) * n < 2 ^ 400 then -1 else 1,()) ∧
      T164 (Dw (isq (2 ^ 400 / n)),(1:Int),()) = some (Dw (isq (2 ^ 400 / n) * 2),()) ∧
      T168 (Dw (isq (2 ^ 400 / n) * 2),((1:Int) :: []),()) = some (Dw (isq (2 ^ 400 / n) * 2 + 1),()) ∧
      ((isq (2 ^ 400 / n) * isq (2 ^ 400 / n) * n = 2 ^ 400 → T88 (f,m,NumS false (isq (2 ^ 400 / n)) (-e - 200),()) = some (((recB f m n e).1:Int),((recB f m n e).2:Int),())) ∧
       (isq (2 ^ 400 / n) * isq (2 ^ 400 / n) * n ≠ 2 ^ 400 → T88 (f,m,NumS false (isq (2 ^ 400 / n) * 2 + 1) (-e - 200 - 1),()) = some (((recB f m n e).1:Int),((recB f m n e).2:Int),()))):=fun n e hn hn2 he=>by
    have hd1:((n:Int) :: []) = Dw n:=(Dw_small (by omega) (by omega)).symm
    have hq0:2 ^ 400 / n ≤ 2 ^ 400:=Nat.div_le_self _ _
    have hr:=isq_self (2 ^ 400 / n)
    have hq1:2 ^ 400 / n ≠ 0:=by
      have:1 ≤ 2 ^ 400 / n:=by
        rw [Nat.le_div_iff_mul_le hn,Nat.one_mul]
        exact Nat.le_trans (Nat.le_of_lt hn2) (Nat.pow_le_pow_right (by decide) (by decide))
      omega
    have hr0:=isq_pos hq1
    have hrr:=isq_le (2 ^ 400 / n)
    have hrrn:isq (2 ^ 400 / n) * isq (2 ^ 400 / n) * n ≤ 2 ^ 400:=Nat.le_trans (Nat.mul_le_mul_right n hrr) (Nat.div_mul_le_self _ _)
    have up4:∀ {x:Nat},x ≤ 2 ^ 400 → x < (2 ^ 64) ^ 4000:=fun h=>by
      rw [pow64_2]; exact Nat.lt_of_le_of_lt h (Nat.pow_lt_pow_right (by decide) (by decide))
    have up5:∀ {x:Nat},x ≤ 2 ^ 400 → x < (2 ^ 64) ^ 5000:=fun h=>by
      rw [pow64_2]; exact Nat.lt_of_le_of_lt h (Nat.pow_lt_pow_right (by decide) (by decide))
    have up49:∀ {x:Nat},x ≤ 2 ^ 401 → x < (2 ^ 64) ^ 4900:=fun h=>by
      rw [pow64_2]; exact Nat.lt_of_le_of_lt h (Nat.pow_lt_pow_right (by decide) (by decide))
    have hn4:n < 2 ^ 400:=Nat.lt_of_lt_of_le hn2 (Nat.pow_le_pow_right (by decide) (by decide))
    have q1:=T165_eq (x:=2 ^ 400) (y:=n) (up4 (Nat.le_refl _)) hn (up4 (Nat.le_of_lt hn4))
    have q2:=T320_eq (n:=2 ^ 400 / n) (Nat.lt_of_le_of_lt hq0 (Nat.pow_lt_pow_right (by decide) (by decide)))
    have q3:=T342_dw (up5 (Nat.le_trans hr hq0)) (up5 (Nat.le_trans hr hq0))
    have q4:=T342_dw (up5 (Nat.le_trans hrr hq0)) (up5 (Nat.le_of_lt hn4))
    have q5:=T166_eq (up5 hrrn) (up5 (Nat.le_refl (2 ^ 400)))
    have q6:=T164_eq (up5 (Nat.le_trans hr hq0)) 1 (by decide)
    rw [Nat.pow_one] at q6
    have hp:2 ^ 401 = 2 ^ 400 * 2:=Nat.pow_succ ..
    have q7:=add_word (x:=isq (2 ^ 400 / n) * 2) (w:=1) (up49 (by omega)) (by decide)
    rw [← hd1] at q1 q4
    refine ⟨q1,q2,q3,q4,q5,q6,q7,fun hx=>?_,fun hx=>?_⟩
    · have q8:=T88_eq hf hm false (N:=isq (2 ^ 400 / n)) (by omega) (Nat.lt_of_le_of_lt (Nat.le_trans hr hq0) (Nat.pow_lt_pow_right (by decide) (by decide))) (-e - 200) (by omega)
      unfold recB rndM2
      rw [decide_eq_true hx,Bool.not_true,if_neg (by decide)]
      exact q8
    · have h8:2 ^ 401 < 2 ^ 8000:=Nat.pow_lt_pow_right (by decide) (by decide)
      have q8:=T88_eq hf hm false (N:=isq (2 ^ 400 / n) * 2 + 1) (by omega) (by omega) (-e - 200 - 1) (by omega)
      unfold recB rndM2
      rw [decide_eq_false hx,Bool.not_false,if_pos rfl,Nat.mul_comm 2]
      exact q8
  unfold recX
  by_cases ho:xpn f a % 2 = 1
  · obtain ⟨q1,q2,q3,q4,q5,q6,q7,q8,q9⟩:=go (2 * mant f a) ((xpn f a - 1) / 2) (by omega) (by omega) (by omega)
    have e1:IntKind.wrap .i64 (xpn f a - 1) = xpn f a - 1:=wrapI (by omega)
    have e2:IntKind.wrap .i64 (0 - (xpn f a - 1)) = 2 * -((xpn f a - 1) / 2):=by rw [wrapI (by omega)]; omega
    have e3:=quo2 (-((xpn f a - 1) / 2)) (by omega)
    have e4:IntKind.wrap .i64 (-((xpn f a - 1) / 2) - 200) = -((xpn f a - 1) / 2) - 200:=wrapI (by omega)
    have e5:IntKind.wrap .i64 (-((xpn f a - 1) / 2) - 200 - 1) = -((xpn f a - 1) / 2) - 200 - 1:=wrapI (by omega)
    rw [decide_eq_true ho,if_pos ho]
    simp only [cond_true,hw2,e1,e2,e3,e4,e5,pre164 p10,fun164 p10,pre165 q1,fun165 q1,pre320 q2,fun320 q2,pre342 q3,fun342 q3,pre342 q4,fun342 q4,pre166 q5,fun166 q5,pre164 q6,fun164 q6,pre168 q7,fun168 q7,pre89 (p89 _ _),fun89 (p89 _ _)]
    by_cases hx:isq (2 ^ 400 / (2 * mant f a)) * isq (2 ^ 400 / (2 * mant f a)) * (2 * mant f a) = 2 ^ 400
    · have q8:=q8 hx
      rw [if_pos hx]
      simp only [bne_self_eq_false,cond_false,pre88 q8,fun88 q8,cond_true]
    · have q9:=q9 hx
      rw [if_neg hx]
      have:((if isq (2 ^ 400 / (2 * mant f a)) * isq (2 ^ 400 / (2 * mant f a)) * (2 * mant f a) < 2 ^ 400 then (-1:Int) else 1) != 0) = true:=by split <;> rfl
      simp only [this,pre88 q9,fun88 q9,cond_true]
  · obtain ⟨q1,q2,q3,q4,q5,q6,q7,q8,q9⟩:=go (mant f a) (xpn f a / 2) (by omega) (by omega) (by omega)
    have e2:IntKind.wrap .i64 (0 - xpn f a) = 2 * -(xpn f a / 2):=by rw [wrapI (by omega)]; omega
    have e3:=quo2 (-(xpn f a / 2)) (by omega)
    have e4:IntKind.wrap .i64 (-(xpn f a / 2) - 200) = -(xpn f a / 2) - 200:=wrapI (by omega)
    have e5:IntKind.wrap .i64 (-(xpn f a / 2) - 200 - 1) = -(xpn f a / 2) - 200 - 1:=wrapI (by omega)
    rw [decide_eq_false ho,if_neg ho]
    simp only [cond_true,cond_false,e2,e3,e4,e5,pre164 p10,fun164 p10,pre165 q1,fun165 q1,pre320 q2,fun320 q2,pre342 q3,fun342 q3,pre342 q4,fun342 q4,pre166 q5,fun166 q5,pre164 q6,fun164 q6,pre168 q7,fun168 q7,pre89 (p89 _ _),fun89 (p89 _ _)]
    by_cases hx:isq (2 ^ 400 / mant f a) * isq (2 ^ 400 / mant f a) * mant f a = 2 ^ 400
    · have q8:=q8 hx
      rw [if_pos hx]
      simp only [bne_self_eq_false,cond_false,pre88 q8,fun88 q8,cond_true]
    · have q9:=q9 hx
      rw [if_neg hx]
      have:((if isq (2 ^ 400 / mant f a) * isq (2 ^ 400 / mant f a) * mant f a < 2 ^ 400 then (-1:Int) else 1) != 0) = true:=by split <;> rfl
      simp only [this,pre88 q9,fun88 q9,cond_true]
theorem T348_true (f m:Int) {a:Nat} (ha:a < 2 ^ 64):T348 (f,m,(a:Int),()) = some (true,()):=by
  show t348 S346.pre S346.F S347.pre S347.F S337.pre S337.F f m (a:Int) = _
  unfold t348
  have p1:=T346_eq f m ha
  have p2:=T347_eq f m ha
  have p3:=T337_true
  simp only [pre346 p1,fun346 p1,pre347 p2,fun347 p2,pre337 p3,fun337 p3,cond_true,beq_self_eq_true,Bool.and_self]
end VL
namespace Vx
open Go Go.RowKit Go.ChangeShapes Go.WideShapes
def wfD:(τ:Shape) → Den τ → Prop
  | .int k,n=>k.min ≤ n ∧ n ≤ k.max
  | .flt _,_=>True
  | .slice e,xs=>xs.length < lim ∧ ∀ x ∈ xs,wfD e x
  | .pair a b,x=>wfD a x.1 ∧ wfD b x.2
  | .bool,_=>True
  | .str,_=>True
  | .fn,_=>True
  | .unit,_=>True
theorem DRep.wfD {w:World} {S:Nat → Prop}:∀ {τ:Shape} {x:Den τ} {cs:List Value},DRep w S τ x cs → wfD τ x
  | .int _,_,_,h=>h.2
  | .flt _,_,_,_=>trivial
  | .bool,_,_,_=>trivial
  | .str,_,_,_=>trivial
  | .fn,_,_,_=>trivial
  | .unit,_,_,_=>trivial
  | .slice _,xs,_,⟨A,c,_,h1,h2,h3⟩=>by
    refine ⟨Nat.lt_of_le_of_lt h1 h2,fun x hx=>?_⟩
    obtain ⟨r,o,vs,T,fz,_,_,_,h⟩:=h3 (List.ne_nil_of_mem hx)
    obtain ⟨i,hi⟩:=List.getElem?_of_mem hx
    obtain ⟨ds,hd,_⟩:=h i x hi
    exact hd.wfD
  | .pair _ _,_,_,⟨c1,c2,_,h1,h2⟩=>⟨h1.wfD,h2.wfD⟩
def wfS:(sg:Sig) → DenS sg → Prop
  | [],_=>True
  | (_,τ) :: r,x=>wfD τ x.1 ∧ wfS r x.2
def undat {H:Type}:(τ:Shape) → (DataW H → Option (Den τ)) × (List (DataW H) → Option (Den τ))
  | .int k=>(fun d=>match d with | .lit (.int k' n)=>if k' = k then some n else none | _=>none,fun _=>none)
  | .bool=>(fun d=>match d with | .lit (.bool b)=>some b | _=>none,fun _=>none)
  | .unit=>(fun d=>match d with | .agg []=>some () | _=>none,fun l=>match l with | []=>some () | _=>none)
  | .pair a b =>
    let f:=fun l=>match l with
      | d :: r=>(match (undat a).1 d,(undat b).2 r with | some x,some y=>some (x,y) | _,_=>none)
      | []=>none
    (fun d=>match d with | .agg l=>f l | _=>none,f)
  | .flt _=>(fun _=>none,fun _=>none)
  | .str=>(fun _=>none,fun _=>none)
  | .fn=>(fun _=>none,fun _=>none)
  | .slice _=>(fun _=>none,fun _=>none)
def fitF (P:Program) (g:TypeId → Shape → Bool):List Field → Nat → Shape → Bool
  | [],_,.unit=>true
  | f :: fs,o,.pair a b=>(f.offset == o) && (P.cellsOf f.type == a.width) && g f.type a && fitF P g fs (o + a.width) b
  | _,_,_=>false
def fitB (P:Program):Nat → TypeId → Shape → Bool
  | 0,_,_=>false
  | n + 1,t,τ=>match P.underlying t with
    | some (.int k)=>(match τ with | .int k'=>decide (k = k') | _=>false)
    | some .bool=>(match τ with | .bool=>true | _=>false)
    | some (.slice e)=>(match τ with | .slice σ=>(P.cellsOf e == σ.width) && decide (0 < σ.width) && fitB P n e σ | _=>false)
    | some (.struct fs)=>(P.cellsOf t == τ.width) && fitF P (fitB P n) fs.toList 0 τ
    | _=>false
theorem choose_list {A:Type} {Q:Nat → A → Prop}:∀ (n:Nat),(∀ i,i < n → ∃ x,Q i x) → ∃ xs:List A,xs.length = n ∧ ∀ i x,xs[i]? = some x → Q i x
  | 0,_=>⟨[],rfl,fun i x h=>by simp at h⟩
  | n + 1,h=>by
    obtain ⟨xs,h1,h2⟩:=choose_list n fun i hi=>h i (by omega)
    obtain ⟨x,hx⟩:=h n (by omega)
    refine ⟨xs ++ [x],by simp [h1],fun i y hy=>?_⟩
    rcases Nat.lt_or_ge i n with hi | hi
    · rw [List.getElem?_append_left (by omega)] at hy
      exact h2 i y hy
    · rw [List.getElem?_append_right (by omega)] at hy
      have:i = n:=by
        have:=(List.getElem?_eq_some_iff.1 hy).1
        simp at this; omega
      subst this
      simp [h1] at hy
      exact hy ▸ hx
theorem wf_int {k:IntKind} {n:Int} (h:(Lit.int k n).wf = true):k.min ≤ n ∧ n ≤ k.max:=by
  simpa [Lit.wf] using h
section
variable {H:Type} {enc:TypeId × Value → H} {P:Program} {W:World} {spare:Nat → Bool} {held:Bool}
theorem fitF_ok {n:Nat} {m:Nat} {cs:List Value} (ih:∀ (t:TypeId) (τ:Shape) (cs:List Value) (d:DataW H) (p:List MemPlace),fitB P n t τ = true → DataW.trod enc P W 0 spare held m t cs = some (d,p) → ∃ x:Den τ,DRep W (fun q=>q < W.heap.size) τ x cs ∧ ∀ y,(undat τ).1 d = some y → x = y) :
    ∀ (l:List Field) (o:Nat) (τ:Shape) (xs:List (DataW H × List MemPlace)),fitF P (fitB P n) l o τ = true → xs.length = l.length → cs.length = o + τ.width →
      (∀ (i:Nat) (f:Field),l[i]? = some f → DataW.trod enc P W 0 spare held m f.type ((cs.drop f.offset).take (P.cellsOf f.type)) = xs[i]?) →
      ∃ x:Den τ,DRep W (fun q=>q < W.heap.size) τ x (cs.drop o) ∧ ∀ y,(undat τ).2 (xs.map (·.1)) = some y → x = y
  | [],o,τ,xs,hf,hx,hl,_=>by
    cases τ <;> simp [fitF] at hf
    refine ⟨(),?_,fun _ _=>rfl⟩
    show cs.drop o = []
    apply List.drop_eq_nil_of_le
    simp [Shape.width] at hl
    omega
  | f :: fs,o,τ,xs,hf,hx,hl,h=>by
    cases τ with
    | pair a b =>
      simp only [fitF,Bool.and_eq_true,beq_iff_eq] at hf
      obtain ⟨⟨⟨ho,hc⟩,hg⟩,hr⟩:=hf
      cases xs with
      | nil=>simp at hx
      | cons x0 xs =>
        have h0:=h 0 f rfl
        rw [ho,hc] at h0
        simp only [List.getElem?_cons_zero] at h0
        obtain ⟨xa,ha,hua⟩:=ih f.type a _ x0.1 x0.2 hg h0
        simp only [Shape.width] at hl
        obtain ⟨xb,hb,hub⟩:=fitF_ok ih fs (o + a.width) b xs hr (by simpa using hx) (by rw [hl]; omega) fun i g hi=>by
          have:=h (i + 1) g (by simpa using hi)
          simpa using this
        refine ⟨(xa,xb),⟨(cs.drop o).take a.width,cs.drop (o + a.width),?_,ha,hb⟩,fun y hy=>?_⟩
        · rw [← List.drop_drop,List.take_append_drop]
        · simp only [undat,List.map_cons] at hy
          split at hy
          · rename_i e1 e2
            have:=hua _ e1; have:=hub _ e2
            subst_vars
            exact Option.some.inj hy
          · cases hy
    | _=>simp [fitF] at hf
theorem fit_ok:∀ (n:Nat) (m:Nat) (t:TypeId) (τ:Shape) (cs:List Value) (d:DataW H) (p:List MemPlace),fitB P n t τ = true → DataW.trod enc P W 0 spare held m t cs = some (d,p) →
    ∃ x:Den τ,DRep W (fun q=>q < W.heap.size) τ x cs ∧ ∀ y,(undat τ).1 d = some y → x = y
  | 0,_,_,_,_,_,_,h,_=>by simp [fitB] at h
  | n + 1,m,t,τ,cs,d,p,h,ht=>by
    unfold fitB at h
    split at h
    · rename_i k hk
      cases τ with
      | int k' =>
        simp only [decide_eq_true_eq] at h
        subst h
        obtain ⟨v,hv,hx,hw⟩:=DataW.trod_int hk ht
        simp only [Prod.mk.injEq] at hx
        refine ⟨v,⟨hv,wf_int hw⟩,fun y hy=>?_⟩
        rw [hx.1] at hy
        simp only [undat,if_true] at hy
        exact Option.some.inj hy
      | _=>cases h
    · rename_i hk
      cases τ with
      | bool =>
        obtain ⟨v,hv,hx⟩:=DataW.trod_bool hk ht
        simp only [Prod.mk.injEq] at hx
        refine ⟨v,hv,fun y hy=>?_⟩
        rw [hx.1] at hy
        simp only [undat] at hy
        exact Option.some.inj hy
      | _=>cases h
    · rename_i e hk
      cases τ with
      | slice σ =>
        simp only [Bool.and_eq_true,beq_iff_eq,decide_eq_true_eq] at h
        obtain ⟨⟨hc,hpos⟩,hf⟩:=h
        rcases DataW.trod_slice hk ht with ⟨hcs,hx⟩ | ⟨a,len,cap,elems,rest,m',rfl,hcs,hx,hb,hlc,hcap,hlen,hel,_⟩
        · exact ⟨[],⟨none,0,hcs,Nat.le_refl _,by decide,fun h=>absurd rfl h⟩,fun y hy=>by simp [undat] at hy⟩
        · have each:∀ i,i < len → ∃ x:Den σ,∃ ds,W.cells? 0 (a.add (i * P.cellsOf e)) (P.cellsOf e) = some ds ∧ DRep W (fun q=>q < W.heap.size) σ x ds:=fun i hi=>by
            have:=hel i hi
            rw [List.getElem?_eq_getElem (by omega),Option.bind_eq_some_iff] at this
            obtain ⟨ds,h1,h2⟩:=this
            obtain ⟨x,hx,_⟩:=fit_ok n m' e σ ds (elems[i]'(by omega)).1 (elems[i]'(by omega)).2 hf h2
            exact ⟨x,ds,h1,hx⟩
          obtain ⟨xs,hxl,hxs⟩:=choose_list len each
          refine ⟨xs,⟨some a,cap,by rw [hxl]; exact hcs,by omega,by unfold lim; unfold maxLen at hcap; omega,fun hne=>?_⟩,fun y hy=>by simp [undat] at hy⟩
          have h0:0 < xs.length:=List.length_pos_iff.2 hne
          obtain ⟨ds0,hd0,_⟩:=hxs 0 xs[0] (List.getElem?_eq_getElem h0)
          obtain ⟨_,hl0,hc0⟩:=World.cells?_some hd0
          have hz:a.add (0 * P.cellsOf e) = a:=by simp [Addr.add]
          have hz':a.add 0 = a:=by simp [Addr.add]
          rw [hz] at hc0
          have hc00:=hc0 0 (by omega)
          rw [hz',List.getElem?_eq_getElem (by omega)] at hc00
          unfold World.cell? at hc00
          split at hc00
          · rename_i c T fz hheap
            split at hc00
            · cases hc00
            · rename_i hspot
              have hs:a.spot = none:=by simpa using hspot
              have hadd:∀ q,a.add q = ⟨a.block,a.off + q,none⟩:=fun q=>by
                unfold Addr.add
                split
                · subst_vars; cases a; simp at hs; simp [hs]
                · rfl
              have ha:a = ⟨a.block,a.off,none⟩:=by cases a; simp at hs; simp [hs]
              refine ⟨a.block,a.off,c,T,fz,by rw [← ha],?_,hheap,fun i x hi=>?_⟩
              · exact (Array.getElem?_eq_some_iff.1 hheap).1
              · obtain ⟨ds,hd,hr⟩:=hxs i x hi
                refine ⟨ds,hr,fun j v hj=>?_⟩
                obtain ⟨_,hl,hcj⟩:=World.cells?_some hd
                have hjl:j < P.cellsOf e:=by rw [← hl]; exact (List.getElem?_eq_some_iff.1 hj).1
                have:=hcj j hjl
                rw [hadd,hj] at this
                have hadd2:(⟨a.block,a.off + i * P.cellsOf e,none⟩:Addr).add j = ⟨a.block,a.off + i * P.cellsOf e + j,none⟩:=by
                  unfold Addr.add
                  split
                  · subst_vars; rfl
                  · rfl
                rw [hadd2] at this
                unfold World.cell? at this
                simp only [hheap] at this
                rw [hc] at this
                exact this
          · cases hc00
      | _=>cases h
    · rename_i fs hk
      simp only [Bool.and_eq_true,beq_iff_eq] at h
      obtain ⟨hc,hf⟩:=h
      obtain ⟨xs,m',rfl,hx,hl,hxl,hel⟩:=DataW.trod_struct hk ht
      simp only [Prod.mk.injEq] at hx
      obtain ⟨x,h1,h2⟩:=fitF_ok (fun t τ cs d p=>fit_ok n m' t τ cs d p) fs.toList 0 τ xs hf (by simpa using hxl) (by rw [hl,hc]; omega) fun i f hi=>hel i f (by simpa using hi)
      refine ⟨x,by simpa using h1,fun y hy=>h2 y ?_⟩
      rw [hx.1] at hy
      cases τ with
      | pair a b=>exact hy
      | unit =>
        simp only [undat] at hy ⊢
        split at hy
        · rename_i e; simp only [DataW.agg.injEq] at e; rw [e]
        · cases hy
      | _=>simp [undat] at hy
    · cases h
end
end Vx
namespace Vx
open Go Go.RowKit Go.ChangeShapes Go.WideShapes
def isStruct (P:Program) (t:TypeId):Bool:=match P.underlying t with
  | some (.struct _)=>true
  | _=>false
def fitS (P:Program) (n:Nat):List TypeId → Sig → Bool
  | [],[]=>true
  | t :: ts,(a,τ) :: r=>fitB P n t τ && (a == isStruct P t) && fitS P n ts r
  | _,_=>false
section
variable {H:Type} {enc:TypeId × Value → H} {P:Program} {W:World}
theorem cells_one {n:Nat} {t:TypeId} {τ:Shape} {r:Reach} {b0:Nat} {v:Value} (hf:fitB P n t τ = true) (hs:isStruct P t = false) (hv:Value.okWide P W r b0 t v):v.cells.toList = [v]:=by
  cases n with
  | zero=>simp [fitB] at hf
  | succ n =>
    unfold fitB at hf
    split at hf
    · rename_i k hk; obtain ⟨_,rfl⟩:=okWide_int hk hv; rfl
    · rename_i hk; obtain ⟨_,rfl⟩:=okWide_bool hk hv; rfl
    · rename_i e hk; obtain ⟨_,_,_,rfl⟩:=okWide_slice hk hv; rfl
    · rename_i fs hk; simp [isStruct,hk] at hs
    · cases hf
theorem erep_plain {S:Nat → Prop} {a:Bool} {τ:Shape} {x:Den τ} {y:Value} (ho:ownE a τ = false) (h:PRep W S a τ x y):ERep W S a τ x y []:=by
  cases τ with
  | slice e =>
    cases a with
    | true=>cases ho
    | false=>exact ⟨rfl,h⟩
  | _=>exact ⟨rfl,h⟩
theorem args_ok {n:Nat} {sp:Nat → Bool} {held:Bool} {b0:Nat}:∀ (ts:List TypeId) (I:Sig) (vs:List Value) (ds:List (DataW H)) (ps:List MemPlace),fitS P n ts I = true →
    (∀ (j:Nat) (t:TypeId) (v:Value),ts[j]? = some t → vs[j]? = some v → Value.okWide P W .any b0 t v) → DataW.TrodAll enc P W 0 sp held ts vs ds ps → ∃ x:DenS I,SRep W (fun q=>q < W.heap.size) I x vs [] ∧ wfS I x ∧ ds.length = ts.length
  | [],[],vs,ds,ps,_,_,h=>by
    cases vs <;> cases ds <;> simp [DataW.TrodAll] at h
    exact ⟨(),⟨rfl,rfl⟩,trivial,rfl⟩
  | [],_ :: _,_,_,_,hf,_,_=>by simp [fitS] at hf
  | _ :: _,[],_,_,_,hf,_,_=>by simp [fitS] at hf
  | t :: ts,(a,τ) :: I,vs,ds,ps,hf,hv,h=>by
    cases vs with
    | nil=>simp [DataW.TrodAll] at h
    | cons v vs =>
      cases ds with
      | nil=>simp [DataW.TrodAll] at h
      | cons d ds =>
        obtain ⟨p,q,⟨m,hp⟩,hq,_⟩:=h
        simp only [fitS,Bool.and_eq_true,beq_iff_eq] at hf
        obtain ⟨⟨h1,h2⟩,h3⟩:=hf
        obtain ⟨x,hx,hw,hl⟩:=args_ok ts I vs ds q h3 (fun j t v ht hv'=>hv (j + 1) t v (by simpa using ht) (by simpa using hv')) hq
        obtain ⟨y,hy,_⟩:=fit_ok n m t τ _ d p h1 hp
        have hok:=hv 0 t v rfl rfl
        refine ⟨(y,x),⟨v,vs,[],[],rfl,rfl,erep_plain ?_ ?_,hx⟩,⟨hy.wfD,hw⟩,by simp [hl]⟩
        · cases τ with
          | slice σ =>
            show a = false
            rw [h2]
            cases n with
            | zero=>simp [fitB] at h1
            | succ n =>
              unfold fitB at h1
              unfold isStruct
              split at h1 <;> rename_i hk <;> first | (rw [hk]; done) | (simp only [hk]; done) | (simp [fitF] at h1; done) | skip
          | _=>rfl
        cases a with
        | true =>
          have hs:isStruct P t = true:=h2.symm
          unfold isStruct at hs
          split at hs
          · rename_i fs hk
            unfold Value.okWide at hok
            rw [hk] at hok
            obtain ⟨cs,rfl,_⟩:=hok
            exact ⟨cs.toList,by simp,hy⟩
          · cases hs
        | false =>
          have hs:isStruct P t = false:=h2.symm
          rw [cells_one h1 hs hok] at hy
          exact hy
theorem trodAll_below (hl:laidOutB P = true) {W':World} (hb:Below W.heap.size W W'):∀ (ts:List TypeId) (vs:List Value) (ds:List (DataW H)) (ps:List MemPlace),(ts.all fun t=>P.readableRec t && decide (t < P.types.size)) = true →
    DataW.TrodAll enc P W 0 (fun _=>true) true ts vs ds ps → (∀ x ∈ ps,x.block < W.heap.size) → DataW.TrodAll enc P W' 0 (fun b=>decide (b < W.heap.size)) true ts vs ds ps
  | [],vs,ds,ps,_,h,_=>by
    cases vs <;> cases ds <;> simp [DataW.TrodAll] at h ⊢
    exact h
  | t :: ts,vs,ds,ps,hr,h,hlt=>by
    cases vs with
    | nil=>simp [DataW.TrodAll] at h
    | cons v vs =>
      cases ds with
      | nil=>simp [DataW.TrodAll] at h
      | cons d ds =>
        obtain ⟨p,q,hp,hq,rfl⟩:=h
        simp only [List.all_cons,Bool.and_eq_true,decide_eq_true_eq] at hr
        exact ⟨p,q,Below.trod hl hr.1.1 hr.1.2 hp hb (fun x hx=>hlt x (List.mem_append.2 (.inl hx))),
          trodAll_below hl hb ts vs ds q hr.2 hq (fun x hx=>hlt x (List.mem_append.2 (.inr hx))),rfl⟩
theorem glob_of {n:String} {g:Nat} {t e:TypeId} {m k:Nat} {τ:Shape} {ds:List (DataW Unit)} {xs:List (Den τ)} {r:List (String × DataW Unit)} {ps:List MemPlace}
    (hL:DataW.LaidVars P W ((n,.agg ds) :: r) ps) (hg:P.globalNamed n = some g) (ht:(P.globals[g]?).map (·.type) = some t) (hu:P.underlying t = some (.array m e)) (hc:P.cellsOf e = τ.width) (hf:fitB P k e τ = true)
    (hx:ds.map (undat τ).1 = xs.map some) :
    (g < W.heap.size ∧ ∃ vs T fz,W.heap[g]? = some (.cells vs T fz) ∧ Rows W (fun q=>q < W.heap.size) τ vs 0 xs) ∧ ∃ ps',DataW.LaidVars P W r ps':=by
  obtain ⟨g',t',cs,fuel,p,q,h1,h2,h3,h4,h5,_⟩:=hL
  rw [hg] at h1; cases h1
  rw [ht] at h2; cases h2
  refine ⟨?_,q,h5⟩
  unfold World.var? at h3
  rw [hg] at h3
  simp only [Option.bind_some] at h3
  split at h3
  · rename_i c T fz hh
    cases h3
    refine ⟨(Array.getElem?_eq_some_iff.1 hh).1,cs,T,fz,hh,?_⟩
    obtain ⟨ys,m',rfl,hy,hl,hyl,hel⟩:=DataW.trod_array hu h4
    simp only [Prod.mk.injEq,DataW.agg.injEq] at hy
    intro i x hi
    have hxl:xs.length = m:=by
      have:=congrArg List.length hx
      simp [hy.1,hyl] at this
      omega
    have him:i < m:=by rw [← hxl]; exact (List.getElem?_eq_some_iff.1 hi).1
    have he:=hel i him
    have hyi:ys[i]? = some (ys[i]'(by omega)):=List.getElem?_eq_getElem (by omega)
    rw [hyi,hc] at he
    obtain ⟨x',h6,h7⟩:=fit_ok k m' e τ _ _ _ hf he
    have hd:(undat τ).1 (ys[i]'(by omega)).1 = some x:=by
      have:=congrArg (·[i]?) hx
      simp only [List.getElem?_map,hy.1,hyi,hi,Option.map_some] at this
      exact Option.some.inj this
    have:=h7 x hd
    subst this
    refine ⟨_,h6,fun j v hj=>?_⟩
    rw [List.getElem?_take] at hj
    split at hj
    · rw [List.getElem?_drop] at hj
      simpa using hj
    · cases hj
  · cases h3
theorem returns_true {G : List (Nat × Sigma fun τ => List (Den τ))} {f : FuncId} {I : Sig} {T : DenS I → Option (DenS [(false, .bool)])} {d : DenS [(false, .bool)]} (hS : Sound P G f (sumOf I [(false, .bool)] T d)) {x : DenS I} (hT : T x = some (true, ())) (hcal : ∃ fn, P.funcs[f]? = some fn ∧ fn.body.isNone = false ∧ (fn.name == "runtime.NumGoroutine") = false) {W : World} {args : Array Value}
    (hG:GlobsOk G W fun q=>q < W.heap.size) (ha:SRep W (fun q=>q < W.heap.size) I x args.toList []):Calls P f args W fun e W'=>e = .returned (.bool true) ∧ Below W.heap.size W W':=by
  have:=hS.calls x (by show (T x).isSome = true; rw [hT]; rfl) W (fun q=>q < W.heap.size) args.toList [] (fun q h=>h) hG ha List.nodup_nil (fun r h=>by simp at h)
  rw [Array.toArray_toList] at this
  have this:=this.resolve_right (fun ⟨v,hv,_⟩=>by rw [run_callFunc hcal] at hv; cases hv)
  refine this.2.mono fun e W' ⟨zs,rs',he,hb,_,_,hz⟩=>⟨?_,⟨hb.os,hb.tape,hb.output,hb.size,fun k hk=>hb.block k hk (fun h=>by simp at h)⟩⟩
  obtain ⟨y,ys,r1,r2,rfl,_,⟨_,h1⟩,rfl,_⟩:=hz
  have h2:[y] = [Value.bool ((T x).getD d).1]:=h1
  rw [hT] at h2
  cases h2
  exact he
theorem law_post {G:List (Nat × Sigma fun τ=>List (Den τ))} {f:FuncId} {fn:Func} {I:Sig} {T:DenS I → Option (DenS [(false,.bool)])} {d:DenS [(false,.bool)]} {s:ChangeSpec} {n:Nat} {tb:TypeId}
    (hS : Sound P G f (sumOf I [(false, .bool)] T d)) (hT : ∀ x, wfS I x → T x = some (true, ())) (hcal : ∃ fn, P.funcs[f]? = some fn ∧ fn.body.isNone = false ∧ (fn.name == "runtime.NumGoroutine") = false) (hlay : laidOutB P = true) (hfit : fitS P n fn.params.toList I = true)
    (hread:(fn.params.toList.all fun t=>P.readableRec t && decide (t < P.types.size)) = true) (hres:fn.resultTypes = #[tb]) (hbool:P.underlying tb = some .bool) (hvars:s.vars = [])
    (hspec:∀ ds:List (DataW H),ds.length = fn.params.toList.length → s.fn H ds = { results:=[.lit (.bool true)],args:=ds })
    {W:World} {base:Nat} {args:Array Value} {ds gs:List (DataW H)} {before:List MemPlace}
    (hval:∀ (j:Nat) (t:TypeId) (v:Value),fn.params[j]? = some t → args[j]? = some v → Value.okWide P W .any base t v)
    (hW:DataW.Whole enc P fn.params.toList s.vars false W args.toList ds gs before) (hG:GlobsOk G W fun q=>q < W.heap.size) :
    Calls P f args W fun e W'=>∃ v,e = .returned v ∧ ChangeSpec.post enc P fn s false true false false W args v W':=by
  have hW':=hW
  obtain ⟨p,q,hA,hV,rfl,_,_⟩:=hW
  rw [hvars] at hV
  obtain ⟨rfl,rfl⟩:=trodVars_none hV
  obtain ⟨x,hx,hw,hlen⟩:=args_ok (b0:=base) fn.params.toList I args.toList ds p hfit (fun j t v ht hv=>hval j t v (by simpa using ht) (by simpa using hv)) hA
  refine (returns_true hS (hT x hw) hcal hG hx).mono fun e W' ⟨he,hb⟩=>⟨.bool true,he,ds,[],p ++ [],[],p,[],hW',?_,?_,?_,hb.frame _,fun h=>by cases h⟩
  · rw [List.append_nil,hspec ds hlen,hres]
    exact trodAll_mk1 (shut_bool hbool true)
  · rw [List.append_nil,hspec ds hlen]
    exact trodAll_below hlay hb _ _ _ _ hread hA fun y hy=>by simpa using hW'.lt y (by simpa using hy)
  · rw [List.append_nil,hspec ds hlen,hvars]
    rfl
end
theorem globs_nil {W:World} {S:Nat → Prop}:GlobsOk [] W S:=fun _ _ _ h=>by simp [findGlob] at h
theorem globs_cons {W:World} {S:Nat → Prop} {g:Nat} {τ:Shape} {xs:List (Den τ)} {G:List (Nat × Sigma fun τ=>List (Den τ))} (h:S g ∧ ∃ vs T fz,W.heap[g]? = some (.cells vs T fz) ∧ Rows W S τ vs 0 xs) (r:GlobsOk G W S) :
    GlobsOk ((g,⟨τ,xs⟩) :: G) W S:=fun g' τ' xs' hf=>by
  simp only [findGlob] at hf
  cases hb:Nat.beq g g' with
  | true =>
    have:=Nat.eq_of_beq_eq_true hb
    subst this
    rw [hb] at hf
    simp only [cond_true,Option.some.injEq] at hf
    cases hf
    exact h
  | false =>
    rw [hb] at hf
    exact r g' τ' xs' hf
end Vx
