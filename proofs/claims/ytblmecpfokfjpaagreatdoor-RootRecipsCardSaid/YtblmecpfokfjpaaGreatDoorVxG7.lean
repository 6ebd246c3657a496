/- Part 7 of the proof. What is proved: symbolic execution of the functions, proved sound; what each function of the program computes, and that every run ends with it; what these functions compute, in plain numbers. Conditions: each theorem bears its own. -/
import Derived.Test.YtblmecpfokfjpaaGreatDoorVxG6
set_option linter.all false
set_option exponentiation.threshold 1000000
namespace VL
open Go Vx
theorem set_next {O:List Nat} {i v:Nat} (hi:i < O.length) (hv:O[i]? = some v):(O.take i ++ List.replicate (O.length - i) 0).set i v = O.take (i + 1) ++ List.replicate (O.length - (i + 1)) 0:=by
  have e:O.length - i = (O.length - (i + 1)) + 1:=by omega
  have hl:(O.take i).length = i:=by simp; omega
  rw [e,List.replicate_succ,List.set_append_right _ _ (by omega),hl,Nat.sub_self,List.set_cons_zero]
  rw [List.take_succ,hv]
  simp
theorem getD_set {l:List Nat} {i v:Nat} (hi:i < l.length):(l.set i v).getD i 0 = v:=by
  rw [List.getD_eq_getElem?_getD,List.getElem?_set_self hi]; rfl
theorem drop_getD (l:List Nat) (w i:Nat):(l.drop w).getD i 0 = l.getD (w + i) 0:=by
  rw [List.getD_eq_getElem?_getD,List.getD_eq_getElem?_getD,List.getElem?_drop]
theorem quoN (n:Nat) (hn:n ≤ 1000000000):quoI .i64 (n:Int) 64 = ((n / 64:Nat):Int):=by
  unfold quoI
  have e:(n:Int).tdiv 64 = ((n / 64:Nat):Int):=rfl
  rw [e,wrapI (by omega)]
theorem W1173_eq (l:List Nat) (hl:l.length ≤ 1000000) (n:Nat) (hn:n ≤ l.length) (ht:(trimL l).length ≤ n) :
    W1173_2 (((),((n:Int),())),(Wd l,())) = some (.inl (((),(((trimL l).length:Int),())),(Wd l,()))):=by
  have key:=lfix_ind m1173_2 (fun x=>x.1.2.1.toNat)
    (fun x=>∃ n:Nat,n ≤ l.length ∧ (trimL l).length ≤ n ∧ x = (((),((n:Int),())),(Wd l,())))
    (fun _=>.inl (((),(((trimL l).length:Int),())),(Wd l,()))) ?_ (((),((n:Int),())),(Wd l,())) ⟨n,hn,ht,rfl⟩
  · exact key
  intro L x hx hL
  obtain ⟨n,hn,ht,rfl⟩:=hx
  unfold h1173_2
  rcases Nat.eq_zero_or_pos n with rfl | hpos
  · have e1:decide (((0:Nat):Int) > 0) = false:=rfl
    simp only [e1,Bool.not_false,Bool.or_true,cond_true,Bool.false_and,cond_false]
    have:(trimL l).length = 0:=by omega
    rw [this]
  · have e0:IntKind.wrap .i64 ((n:Int) - 1) = ((n - 1:Nat):Int):=wsub n 1 (by omega) (by omega)
    have e1:decide ((n:Int) > 0) = true:=by simp; omega
    have e2:(decide ((0:Int) ≤ ((n - 1:Nat):Int)) && decide (((n - 1:Nat):Int) < ((Wd l).length:Int))) = true:=by
      rw [Wd_len]; simp; omega
    simp only [e0,e1,e2,Bool.true_or,cond_true,Bool.true_and,Int.toNat_natCast,Wd_getD,nbeq0]
    cases hz:(l.getD (n - 1) 0 == 0) with
    | true =>
      simp only [cond_true]
      refine hL _ ⟨n - 1,by omega,?_,rfl⟩ (by simp only [Int.toNat_natCast]; omega)
      rcases Nat.lt_or_ge (n - 1) (trimL l).length with h | h
      · exfalso
        have e:n = (trimL l).length:=by omega
        have:=trim_last l (by omega)
        rw [← e] at this
        exact this (by simpa using hz)
      · exact h
    | false =>
      simp only [cond_false]
      have:(trimL l).length = n:=by
        rcases Nat.lt_or_ge (n - 1) (trimL l).length with h | h
        · omega
        · exfalso
          have:=trim_out l (n - 1) h
          rw [this] at hz
          simp at hz
      rw [this]
theorem T1173_eq (l:List Nat) (hl:l.length ≤ 1000000):T1173 (Wd l,()) = some (Wd (trimL l),()):=by
  show t1173 W1173_2 (Wd l) = _
  unfold t1173
  have h:=W1173_eq l hl l.length (Nat.le_refl _) (trim_len l).1
  rw [Wd_len]
  rw [h]
  have e:(decide ((0:Int) ≤ ((trimL l).length:Int)) && decide (((trimL l).length:Int) ≤ ((Wd l).length:Int))) = true:=by
    rw [Wd_len]; have:=(trim_len l).1; simp; omega
  show (bif (decide ((0:Int) ≤ ((trimL l).length:Int)) && decide (((trimL l).length:Int) ≤ ((Wd l).length:Int))) then some (List.take (Int.toNat ((trimL l).length:Int)) (Wd l),()) else none) = _
  rw [e,cond_true,Int.toNat_natCast,Wd_take]
  have:=(trim_len l).2
  rw [← this]
theorem W171_eq (a:List Nat) (ha:∀ x ∈ a,x < 2 ^ 64) (hlen:a.length ≤ 1000000) (w s:Nat) (hs:s < 64) (hw:w ≤ a.length) (i:Nat) (hi:i ≤ (a.drop w).length) :
    W171_7 ((((a.drop w).length:Int),(Wd a,((w:Int),((s:Int),((i:Int),((),())))))),(Wd ((shrL s (a.drop w)).take i ++ List.replicate ((shrL s (a.drop w)).length - i) 0),())) = some (.inl (((),()),(Wd (shrL s (a.drop w)),()))):=by
  have key:=lfix_ind (m171_7 S173.pre S173.F) (fun x=>(a.drop w).length - x.1.2.2.2.2.1.toNat)
    (fun x=>∃ i:Nat,i ≤ (a.drop w).length ∧ x = ((((a.drop w).length:Int),(Wd a,((w:Int),((s:Int),((i:Int),((),())))))),(Wd ((shrL s (a.drop w)).take i ++ List.replicate ((shrL s (a.drop w)).length - i) 0),())))
    (fun _=>.inl (((),()),(Wd (shrL s (a.drop w)),()))) ?_ _ ⟨i,hi,rfl⟩
  · exact key
  intro L x hx hL
  obtain ⟨i,hi,rfl⟩:=hx
  unfold h171_7
  have hdl:(a.drop w).length = a.length - w:=by simp
  have hol:=shrL_len s (a.drop w)
  rcases Nat.lt_or_ge i (a.drop w).length with hlt | hge
  · have e1:decide ((i:Int) < ((a.drop w).length:Int)) = true:=by simp; omega
    have e2:IntKind.wrap .i64 ((w:Int) + (i:Int)) = ((w + i:Nat):Int):=by rw [wrapI (by omega)]; omega
    have e3:(decide ((0:Int) ≤ ((w + i:Nat):Int)) && decide (((w + i:Nat):Int) < ((Wd a).length:Int))) = true:=by
      rw [Wd_len]; simp only [Bool.and_eq_true,decide_eq_true_eq]; omega
    have e4:decide ((0:Int) ≤ (s:Int)) = true:=by simp
    have houtl:((shrL s (a.drop w)).take i ++ List.replicate ((shrL s (a.drop w)).length - i) 0).length = (a.drop w).length:=by simp; omega
    generalize hout:(shrL s (a.drop w)).take i ++ List.replicate ((shrL s (a.drop w)).length - i) 0 = out at houtl ⊢
    have e5:(decide ((0:Int) ≤ (i:Int)) && decide ((i:Int) < ((Wd out).length:Int))) = true:=by
      rw [Wd_len]; simp only [Bool.and_eq_true,decide_eq_true_eq]; omega
    have e6:IntKind.wrap .i64 (((w + i:Nat):Int) + 1) = ((w + i + 1:Nat):Int):=by rw [wrapI (by omega)]; omega
    have e7:IntKind.wrap .i64 ((i:Int) + 1) = ((i + 1:Nat):Int):=by rw [wrapI (by omega)]; omega
    have e8:IntKind.wrap .i64 (64 - (s:Int)) = ((64 - s:Nat):Int):=wsub 64 s (by omega) (by omega)
    have hx:=getD_lt (by decide) ha (w + i)
    have hget:=shrL_get s (a.drop w) i hlt
    rw [drop_getD,drop_getD,← Nat.add_assoc] at hget
    have hnext:=fun v (hv:(shrL s (a.drop w))[i]? = some v)=>set_next (by omega) hv
    rw [hout] at hnext
    have e9:∀ v:Nat,(decide ((0:Int) ≤ (i:Int)) && decide ((i:Int) < ((Wd (out.set i v)).length:Int))) = true:=fun v=>by
      rw [Wd_len,List.length_set]; simp only [Bool.and_eq_true,decide_eq_true_eq]; omega
    simp only [e1,e2,e3,e4,e5,e6,e7,e8,cond_true,Int.toNat_natCast,Wd_getD,shrN _ s (by omega),Wd_set,e9]
    rcases Nat.lt_or_ge (w + i + 1) a.length with h1 | h1
    · have f1:decide (((w + i + 1:Nat):Int) < ((Wd a).length:Int)) = true:=by rw [Wd_len]; exact decide_eq_true (by omega)
      have f2:decide ((0:Int) ≤ ((w + i + 1:Nat):Int)) = true:=decide_eq_true (by omega)
      have f3:decide ((0:Int) ≤ ((64 - s:Nat):Int)) = true:=decide_eq_true (by omega)
      simp only [f1,f2,f3,Bool.and_self,cond_true]
      have hw2:=shr_word (s:=s) (y:=a.getD (w + i + 1) 0) (by omega) hx
      have g1:a.getD (w + i + 1) 0 * 2 ^ (64 - s) % 2 ^ 64 = (a.getD (w + i + 1) 0 % 2 ^ s) * 2 ^ (64 - s):=by
        rw [pow_parts (s:=s) (by omega),Nat.mul_mod_mul_right]
      rw [getD_set (by omega),shlN _ _ (by omega),g1,orN hw2.1 hw2.2,Wd_set,List.set_set,hnext _ hget]
      exact hL _ ⟨i + 1,by omega,rfl⟩ (by simp only [Int.toNat_natCast]; omega)
    · have f1:decide (((w + i + 1:Nat):Int) < ((Wd a).length:Int)) = false:=by rw [Wd_len]; exact decide_eq_false (by omega)
      have hz:a.getD (w + i + 1) 0 = 0:=by rw [List.getD_eq_getElem?_getD,List.getElem?_eq_none h1]; rfl
      rw [hz,Nat.zero_mod,Nat.zero_mul,Nat.add_zero] at hget
      simp only [f1,cond_false]
      rw [hnext _ hget]
      exact hL _ ⟨i + 1,by omega,rfl⟩ (by simp only [Int.toNat_natCast]; omega)
  · have hie:i = (a.drop w).length:=by omega
    subst hie
    have e1:decide (((a.drop w).length:Int) < ((a.drop w).length:Int)) = false:=by simp
    simp only [e1,cond_false]
    have:(shrL s (a.drop w)).take (a.drop w).length ++ List.replicate ((shrL s (a.drop w)).length - (a.drop w).length) 0 = shrL s (a.drop w):=by
      rw [← hol,List.take_length,Nat.sub_self,List.replicate_zero,List.append_nil]
    rw [this]
theorem T171_eq (l:List Nat) (hl:Ws l) (n:Nat) (hn:n ≤ 100000000):T171 (Wd l,(n:Int),()) = some (Wd (dg (2 ^ 64) (nv (2 ^ 64) l / 2 ^ n)),()):=by
  obtain ⟨h,hlen⟩:=hl
  show t171 S173.pre S173.F W171_7 (Wd l) n = _
  unfold t171
  have p0:=T173_eq l hlen
  have hB:2 ≤ 2 ^ 64:=by decide
  have hle:=(trim_len l).1
  have hm:∀ x ∈ trimL l,x < 2 ^ 64:=fun x hx=>h x (trim_mem hx)
  have hv:=nv_trim hB h
  have hsplit:2 ^ n = (2 ^ 64) ^ (n / 64) * 2 ^ (n % 64):=by rw [pow64,← Nat.pow_add]; congr 1; omega
  simp only [pre173 p0,fun173 p0,cond_true,Wd_len,quoN n (by omega)]
  rcases Nat.lt_or_ge (n / 64) (trimL l).length with h1 | h1
  · have e1:decide (((n / 64:Nat):Int) ≥ ((trimL l).length:Int)) = false:=by simp; omega
    have e2:IntKind.wrap .i64 (((trimL l).length:Int) - ((n / 64:Nat):Int)) = (((trimL l).drop (n / 64)).length:Int):=by
      rw [wsub _ _ (by omega) (by omega)]; simp
    have hdl:((trimL l).drop (n / 64)).length ≤ 1000000:=by simp; omega
    have e3:(decide ((0:Int) ≤ (((trimL l).drop (n / 64)).length:Int)) && decide ((((trimL l).drop (n / 64)).length:Int) * 8 ≤ 140737488355328)) = true:=by
      simp only [Bool.and_eq_true,decide_eq_true_eq]; omega
    have e4:Int.tmod (n:Int) 64 = ((n % 64:Nat):Int):=rfl
    have hw:=W171_eq (trimL l) hm (by omega) (n / 64) (n % 64) (Nat.mod_lt _ (by decide)) (by omega) 0 (Nat.zero_le _)
    rw [List.take_zero,List.nil_append,Nat.sub_zero,shrL_len] at hw
    rw [e1,e2,e3,cond_false,cond_true,Int.toNat_natCast,e4,Wd_rep,Wd_len,List.length_replicate]
    rw [show ((0:Nat):Int) = 0 from rfl] at hw
    rw [hw]
    have hos:∀ x ∈ shrL (n % 64) ((trimL l).drop (n / 64)),x < 2 ^ 64:=fun x hx=>by
      obtain ⟨i,hi⟩:=List.getElem?_of_mem hx
      have hil:i < ((trimL l).drop (n / 64)).length:=by rw [← shrL_len (n % 64)]; exact (List.getElem?_eq_some_iff.1 hi).1
      rw [shrL_get _ _ i hil] at hi
      cases hi
      exact (shr_word (s:=n % 64) (by omega) (getD_lt (by decide) (fun y hy=>hm y (List.mem_of_mem_drop hy)) i)).2
    have p1:=T173_eq (shrL (n % 64) ((trimL l).drop (n / 64))) (by rw [shrL_len]; exact hdl)
    show (bif S173.pre (Wd (shrL (n % 64) ((trimL l).drop (n / 64))),()) then some (S173.F (Wd (shrL (n % 64) ((trimL l).drop (n / 64))),())) else none) = _
    rw [pre173 p1,fun173 p1,cond_true,trim_dg hB _ hos,nv_shrL (by omega)]
    have hd:nv (2 ^ 64) ((trimL l).drop (n / 64)) = nv (2 ^ 64) l / (2 ^ 64) ^ (n / 64):=by
      rw [← hv,nv_split _ (trimL l) (n / 64) (by omega)]
      have hlow:=nv_lt hB ((trimL l).take (n / 64)) fun x hx=>hm x (List.mem_of_mem_take hx)
      rw [List.length_take,Nat.min_eq_left (by omega)] at hlow
      rw [Nat.add_mul_div_left _ _ (Nat.pow_pos (by decide)),Nat.div_eq_of_lt hlow,Nat.zero_add]
    rw [hd,Nat.div_div_eq_div_mul,← hsplit]
    rfl
  · have e1:decide (((n / 64:Nat):Int) ≥ ((trimL l).length:Int)) = true:=by simp; omega
    rw [e1,cond_true]
    have hz:nv (2 ^ 64) l / 2 ^ n = 0:=by
      rw [← hv]
      have:=nv_lt hB (trimL l) hm
      apply Nat.div_eq_of_lt
      refine Nat.lt_of_lt_of_le this ?_
      rw [pow64]
      exact Nat.pow_le_pow_right (by decide) (by omega)
    rw [hz,dg_zero]; rfl
theorem W1171_eq (a:List Nat) (ha:∀ x ∈ a,x < 2 ^ 64) (hlen:a.length ≤ 1000000) (w s:Nat) (hs:s < 64) (hw:w ≤ a.length) (i:Nat) (hi:i ≤ (a.drop w).length) :
    W1171_7 ((((a.drop w).length:Int),(Wd a,((w:Int),((s:Int),((i:Int),((),())))))),(Wd ((shrL s (a.drop w)).take i ++ List.replicate ((shrL s (a.drop w)).length - i) 0),())) = some (.inl (((),()),(Wd (shrL s (a.drop w)),()))):=by
  have key:=lfix_ind (m1171_7 S1173.pre S1173.F S173.pre S173.F) (fun x=>(a.drop w).length - x.1.2.2.2.2.1.toNat)
    (fun x=>∃ i:Nat,i ≤ (a.drop w).length ∧ x = ((((a.drop w).length:Int),(Wd a,((w:Int),((s:Int),((i:Int),((),())))))),(Wd ((shrL s (a.drop w)).take i ++ List.replicate ((shrL s (a.drop w)).length - i) 0),())))
    (fun _=>.inl (((),()),(Wd (shrL s (a.drop w)),()))) ?_ _ ⟨i,hi,rfl⟩
  · exact key
  intro L x hx hL
  obtain ⟨i,hi,rfl⟩:=hx
  unfold h1171_7
  have hdl:(a.drop w).length = a.length - w:=by simp
  have hol:=shrL_len s (a.drop w)
  rcases Nat.lt_or_ge i (a.drop w).length with hlt | hge
  · have e1:decide ((i:Int) < ((a.drop w).length:Int)) = true:=by simp; omega
    have e2:IntKind.wrap .i64 ((w:Int) + (i:Int)) = ((w + i:Nat):Int):=by rw [wrapI (by omega)]; omega
    have e3:(decide ((0:Int) ≤ ((w + i:Nat):Int)) && decide (((w + i:Nat):Int) < ((Wd a).length:Int))) = true:=by
      rw [Wd_len]; simp only [Bool.and_eq_true,decide_eq_true_eq]; omega
    have e4:decide ((0:Int) ≤ (s:Int)) = true:=by simp
    have houtl:((shrL s (a.drop w)).take i ++ List.replicate ((shrL s (a.drop w)).length - i) 0).length = (a.drop w).length:=by simp; omega
    generalize hout:(shrL s (a.drop w)).take i ++ List.replicate ((shrL s (a.drop w)).length - i) 0 = out at houtl ⊢
    have e5:(decide ((0:Int) ≤ (i:Int)) && decide ((i:Int) < ((Wd out).length:Int))) = true:=by
      rw [Wd_len]; simp only [Bool.and_eq_true,decide_eq_true_eq]; omega
    have e6:IntKind.wrap .i64 (((w + i:Nat):Int) + 1) = ((w + i + 1:Nat):Int):=by rw [wrapI (by omega)]; omega
    have e7:IntKind.wrap .i64 ((i:Int) + 1) = ((i + 1:Nat):Int):=by rw [wrapI (by omega)]; omega
    have e8:IntKind.wrap .i64 (64 - (s:Int)) = ((64 - s:Nat):Int):=wsub 64 s (by omega) (by omega)
    have hx:=getD_lt (by decide) ha (w + i)
    have hget:=shrL_get s (a.drop w) i hlt
    rw [drop_getD,drop_getD,← Nat.add_assoc] at hget
    have hnext:=fun v (hv:(shrL s (a.drop w))[i]? = some v)=>set_next (by omega) hv
    rw [hout] at hnext
    have e9:∀ v:Nat,(decide ((0:Int) ≤ (i:Int)) && decide ((i:Int) < ((Wd (out.set i v)).length:Int))) = true:=fun v=>by
      rw [Wd_len,List.length_set]; simp only [Bool.and_eq_true,decide_eq_true_eq]; omega
    simp only [e1,e2,e3,e4,e5,e6,e7,e8,cond_true,Int.toNat_natCast,Wd_getD,shrN _ s (by omega),Wd_set,e9]
    rcases Nat.lt_or_ge (w + i + 1) a.length with h1 | h1
    · have f1:decide (((w + i + 1:Nat):Int) < ((Wd a).length:Int)) = true:=by rw [Wd_len]; exact decide_eq_true (by omega)
      have f2:decide ((0:Int) ≤ ((w + i + 1:Nat):Int)) = true:=decide_eq_true (by omega)
      have f3:decide ((0:Int) ≤ ((64 - s:Nat):Int)) = true:=decide_eq_true (by omega)
      simp only [f1,f2,f3,Bool.and_self,cond_true]
      have hw2:=shr_word (s:=s) (y:=a.getD (w + i + 1) 0) (by omega) hx
      have g1:a.getD (w + i + 1) 0 * 2 ^ (64 - s) % 2 ^ 64 = (a.getD (w + i + 1) 0 % 2 ^ s) * 2 ^ (64 - s):=by
        rw [pow_parts (s:=s) (by omega),Nat.mul_mod_mul_right]
      rw [getD_set (by omega),shlN _ _ (by omega),g1,orN hw2.1 hw2.2,Wd_set,List.set_set,hnext _ hget]
      exact hL _ ⟨i + 1,by omega,rfl⟩ (by simp only [Int.toNat_natCast]; omega)
    · have f1:decide (((w + i + 1:Nat):Int) < ((Wd a).length:Int)) = false:=by rw [Wd_len]; exact decide_eq_false (by omega)
      have hz:a.getD (w + i + 1) 0 = 0:=by rw [List.getD_eq_getElem?_getD,List.getElem?_eq_none h1]; rfl
      rw [hz,Nat.zero_mod,Nat.zero_mul,Nat.add_zero] at hget
      simp only [f1,cond_false]
      rw [hnext _ hget]
      exact hL _ ⟨i + 1,by omega,rfl⟩ (by simp only [Int.toNat_natCast]; omega)
  · have hie:i = (a.drop w).length:=by omega
    subst hie
    have e1:decide (((a.drop w).length:Int) < ((a.drop w).length:Int)) = false:=by simp
    simp only [e1,cond_false]
    have:(shrL s (a.drop w)).take (a.drop w).length ++ List.replicate ((shrL s (a.drop w)).length - (a.drop w).length) 0 = shrL s (a.drop w):=by
      rw [← hol,List.take_length,Nat.sub_self,List.replicate_zero,List.append_nil]
    rw [this]
theorem T1171_eq (l:List Nat) (hl:Ws l) (n:Nat) (hn:n ≤ 100000000):T1171 (Wd l,(n:Int),()) = some (Wd (dg (2 ^ 64) (nv (2 ^ 64) l / 2 ^ n)),()):=by
  obtain ⟨h,hlen⟩:=hl
  show t1171 S1173.pre S1173.F S173.pre S173.F W1171_7 (Wd l) n = _
  unfold t1171
  have p0:=T173_eq l hlen
  have hB:2 ≤ 2 ^ 64:=by decide
  have hle:=(trim_len l).1
  have hm:∀ x ∈ trimL l,x < 2 ^ 64:=fun x hx=>h x (trim_mem hx)
  have hv:=nv_trim hB h
  have hsplit:2 ^ n = (2 ^ 64) ^ (n / 64) * 2 ^ (n % 64):=by rw [pow64,← Nat.pow_add]; congr 1; omega
  simp only [pre173 p0,fun173 p0,cond_true,Wd_len,quoN n (by omega)]
  rcases Nat.lt_or_ge (n / 64) (trimL l).length with h1 | h1
  · have e1:decide (((n / 64:Nat):Int) ≥ ((trimL l).length:Int)) = false:=by simp; omega
    have e2:IntKind.wrap .i64 (((trimL l).length:Int) - ((n / 64:Nat):Int)) = (((trimL l).drop (n / 64)).length:Int):=by
      rw [wsub _ _ (by omega) (by omega)]; simp
    have hdl:((trimL l).drop (n / 64)).length ≤ 1000000:=by simp; omega
    have e3:(decide ((0:Int) ≤ (((trimL l).drop (n / 64)).length:Int)) && decide ((((trimL l).drop (n / 64)).length:Int) * 8 ≤ 140737488355328)) = true:=by
      simp only [Bool.and_eq_true,decide_eq_true_eq]; omega
    have e4:Int.tmod (n:Int) 64 = ((n % 64:Nat):Int):=rfl
    have hw:=W1171_eq (trimL l) hm (by omega) (n / 64) (n % 64) (Nat.mod_lt _ (by decide)) (by omega) 0 (Nat.zero_le _)
    rw [List.take_zero,List.nil_append,Nat.sub_zero,shrL_len] at hw
    rw [e1,e2,e3,cond_false,cond_true,Int.toNat_natCast,e4,Wd_rep,Wd_len,List.length_replicate]
    rw [show ((0:Nat):Int) = 0 from rfl] at hw
    rw [hw]
    have hos:∀ x ∈ shrL (n % 64) ((trimL l).drop (n / 64)),x < 2 ^ 64:=fun x hx=>by
      obtain ⟨i,hi⟩:=List.getElem?_of_mem hx
      have hil:i < ((trimL l).drop (n / 64)).length:=by rw [← shrL_len (n % 64)]; exact (List.getElem?_eq_some_iff.1 hi).1
      rw [shrL_get _ _ i hil] at hi
      cases hi
      exact (shr_word (s:=n % 64) (by omega) (getD_lt (by decide) (fun y hy=>hm y (List.mem_of_mem_drop hy)) i)).2
    have p1:=T1173_eq (shrL (n % 64) ((trimL l).drop (n / 64))) (by rw [shrL_len]; exact hdl)
    show (bif S1173.pre (Wd (shrL (n % 64) ((trimL l).drop (n / 64))),()) then some (S1173.F (Wd (shrL (n % 64) ((trimL l).drop (n / 64))),())) else none) = _
    rw [pre1173 p1,fun1173 p1,cond_true,trim_dg hB _ hos,nv_shrL (by omega)]
    have hd:nv (2 ^ 64) ((trimL l).drop (n / 64)) = nv (2 ^ 64) l / (2 ^ 64) ^ (n / 64):=by
      rw [← hv,nv_split _ (trimL l) (n / 64) (by omega)]
      have hlow:=nv_lt hB ((trimL l).take (n / 64)) fun x hx=>hm x (List.mem_of_mem_take hx)
      rw [List.length_take,Nat.min_eq_left (by omega)] at hlow
      rw [Nat.add_mul_div_left _ _ (Nat.pow_pos (by decide)),Nat.div_eq_of_lt hlow,Nat.zero_add]
    rw [hd,Nat.div_div_eq_div_mul,← hsplit]
    rfl
  · have e1:decide (((n / 64:Nat):Int) ≥ ((trimL l).length:Int)) = true:=by simp; omega
    rw [e1,cond_true]
    have hz:nv (2 ^ 64) l / 2 ^ n = 0:=by
      rw [← hv]
      have:=nv_lt hB (trimL l) hm
      apply Nat.div_eq_of_lt
      refine Nat.lt_of_lt_of_le this ?_
      rw [pow64]
      exact Nat.pow_le_pow_right (by decide) (by omega)
    rw [hz,dg_zero]; rfl
end VL
namespace VL
open Go Vx
theorem wadd (a b:Nat) (h:a + b < 2 ^ 62):IntKind.wrap .i64 ((a:Int) + (b:Int)) = ((a + b:Nat):Int):=by rw [wrapI (by omega)]; omega
theorem wadd1 (a:Nat) (h:a < 2 ^ 62):IntKind.wrap .i64 ((a:Int) + 1) = ((a + 1:Nat):Int):=by rw [wrapI (by omega)]; omega
theorem wadd64 (a:Nat) (h:a < 2 ^ 56):IntKind.wrap .i64 (64 * (a:Int)) = ((64 * a:Nat):Int):=by rw [wrapI (by omega)]; omega
theorem wmul64 (a:Nat) (h:a < 2 ^ 56):IntKind.wrap .i64 ((a:Int) * 64) = ((64 * a:Nat):Int):=by rw [wrapI (by omega)]; omega
theorem wsubn (m n:Nat) (h:n ≤ m ∧ m < 2 ^ 62):IntKind.wrap .i64 ((m:Int) - (n:Int)) = ((m - n:Nat):Int):=by rw [wrapI (by omega)]; omega
theorem wsub1 (m:Nat) (h:1 ≤ m ∧ m < 2 ^ 62):IntKind.wrap .i64 ((m:Int) - 1) = ((m - 1:Nat):Int):=by rw [wrapI (by omega)]; omega
theorem ilt_t (a b:Nat) (h:a < b):decide ((a:Int) < (b:Int)) = true:=decide_eq_true (by omega)
theorem ilt_f (a b:Nat) (h:b ≤ a):decide ((a:Int) < (b:Int)) = false:=decide_eq_false (by omega)
theorem ile_t (a b:Nat) (h:a ≤ b):decide ((a:Int) ≤ (b:Int)) = true:=decide_eq_true (by omega)
theorem ile_f (a b:Nat) (h:b < a):decide ((a:Int) ≤ (b:Int)) = false:=decide_eq_false (by omega)
theorem igt_t (a b:Nat) (h:b < a):decide ((a:Int) > (b:Int)) = true:=decide_eq_true (by omega)
theorem igt_f (a b:Nat) (h:a ≤ b):decide ((a:Int) > (b:Int)) = false:=decide_eq_false (by omega)
theorem ige_t (a b:Nat) (h:b ≤ a):decide ((a:Int) ≥ (b:Int)) = true:=decide_eq_true (by omega)
theorem ige_f (a b:Nat) (h:a < b):decide ((a:Int) ≥ (b:Int)) = false:=decide_eq_false (by omega)
theorem ipos_t (a:Nat) (h:0 < a):decide ((0:Int) < (a:Int)) = true:=decide_eq_true (by omega)
theorem ipos_f (a:Nat) (h:a = 0):decide ((0:Int) < (a:Int)) = false:=decide_eq_false (by omega)
theorem igt0_t (a:Nat) (h:0 < a):decide ((a:Int) > 0) = true:=decide_eq_true (by omega)
theorem igt0_f (a:Nat) (h:a = 0):decide ((a:Int) > 0) = false:=decide_eq_false (by omega)
theorem ineg_f (a:Nat):decide ((a:Int) < 0) = false:=decide_eq_false (by omega)
theorem beq0_t (a:Nat) (h:a = 0):((a:Int) == 0) = true:=by rw [nbeq0]; simp [h]
theorem beq0_f (a:Nat) (h:a ≠ 0):((a:Int) == 0) = false:=by rw [nbeq0]; simp [h]
theorem bne0_t (a:Nat) (h:a ≠ 0):((a:Int) != 0) = true:=by rw [nbne0]; simp [h]
theorem bne0_f (a:Nat) (h:a = 0):((a:Int) != 0) = false:=by rw [nbne0]; simp [h]
def pd (B:Nat):Nat → Nat → List Nat
  | 0,_=>[]
  | k + 1,v=>v % B :: pd B k (v / B)
theorem pd_len (B:Nat):∀ k v,(pd B k v).length = k
  | 0,_=>rfl
  | k + 1,v=>by simp [pd,pd_len B k]
theorem pd_lt {B:Nat} (hB:0 < B):∀ k v,∀ x ∈ pd B k v,x < B
  | 0,_,x,hx=>by simp [pd] at hx
  | k + 1,v,x,hx=>by
    simp only [pd,List.mem_cons] at hx
    rcases hx with rfl | hx
    · exact Nat.mod_lt _ hB
    · exact pd_lt hB k _ x hx
theorem pd_of {B:Nat} (hB:0 < B):∀ (l:List Nat),(∀ x ∈ l,x < B) → l = pd B l.length (nv B l)
  | [],_=>rfl
  | x :: r,h=>by
    have hx:=h x (by simp)
    simp only [List.length_cons,pd,nv]
    rw [Nat.add_mul_mod_self_left,Nat.mod_eq_of_lt hx,Nat.add_mul_div_left _ _ hB,Nat.div_eq_of_lt hx,Nat.zero_add,← pd_of hB r fun y hy=>h y (by simp [hy])]
theorem pd_at {B:Nat} (hB:0 < B) {l:List Nat} {k v:Nat} (h:∀ x ∈ l,x < B) (hl:l.length = k) (hv:nv B l = v):l = pd B k v:=by
  have:=pd_of hB l h
  rw [hl,hv] at this
  exact this
theorem pd_nv {B:Nat} (hB:0 < B):∀ k v,v < B ^ k → nv B (pd B k v) = v
  | 0,v,h=>by simp at h; subst h; rfl
  | k + 1,v,h=>by
    simp only [pd,nv]
    rw [pd_nv hB k (v / B) (by rw [Nat.div_lt_iff_lt_mul hB,← Nat.pow_succ]; exact h)]
    exact Nat.mod_add_div v B
theorem pd_get (B:Nat):∀ k v i,i < k → (pd B k v).getD i 0 = v / B ^ i % B
  | 0,_,_,h=>by omega
  | k + 1,v,0,_=>by simp [pd]
  | k + 1,v,i + 1,h=>by
    simp only [pd,List.getD_cons_succ]
    rw [pd_get B k (v / B) i (by omega),Nat.div_div_eq_div_mul,← Nat.pow_succ']
theorem pd_zero (B:Nat):∀ k,pd B k 0 = List.replicate k 0
  | 0=>rfl
  | k + 1=>by simp [pd,pd_zero B k,List.replicate_succ]
theorem nv_set (B:Nat):∀ (l:List Nat) (i x:Nat),i < l.length → nv B (l.set i x) + B ^ i * l.getD i 0 = nv B l + B ^ i * x
  | [],_,_,h=>by simp at h
  | y :: r,0,x,_=>by simp [nv]; omega
  | y :: r,i + 1,x,h=>by
    have:=nv_set B r i x (by simpa using h)
    simp only [List.set_cons_succ,nv,List.getD_cons_succ,Nat.pow_succ']
    rw [Nat.mul_assoc,Nat.mul_assoc,Nat.add_assoc,Nat.add_assoc,← Nat.mul_add,← Nat.mul_add,this]
theorem set_lt {B:Nat} {l:List Nat} (h:∀ x ∈ l,x < B) {i v:Nat} (hv:v < B):∀ x ∈ l.set i v,x < B:=fun x hx=>by
  rcases List.mem_or_eq_of_mem_set hx with h1 | h1
  · exact h x h1
  · rw [h1]; exact hv
theorem dg_trim {B:Nat} (hB:2 ≤ B) (n:Nat):trimL (dg B n) = dg B n:=by
  rw [trim_dg hB _ (dg_lt hB n),nv_dg hB]
theorem nv_take_succ (B:Nat) (l:List Nat) (i:Nat) (h:i < l.length):nv B (l.take (i + 1)) = nv B (l.take i) + B ^ i * l.getD i 0:=by
  have hs:=nv_split B (l.take (i + 1)) i (by simp; omega)
  rw [hs,List.take_take,Nat.min_eq_left (by omega)]
  congr 2
  rw [List.drop_take,Nat.add_sub_cancel_left,List.getD_eq_getElem?_getD]
  rw [List.drop_eq_getElem_cons h,List.getElem?_eq_getElem h]
  show l[i] + B * 0 = l[i]
  rw [Nat.mul_zero,Nat.add_zero]
theorem two_split {x:Nat} (h:0 < x):∃ t k,x = 2 ^ t * (2 * k + 1):=by
  induction x using Nat.strongRecOn with
  | ind x ih =>
    rcases Nat.mod_two_eq_zero_or_one x with h0 | h1
    · obtain ⟨t,k,e⟩:=ih (x / 2) (by omega) (by omega)
      refine ⟨t + 1,k,?_⟩
      rw [Nat.pow_succ,Nat.mul_comm (2 ^ t) 2,Nat.mul_assoc,← e]
      omega
    · exact ⟨0,x / 2,by simp; omega⟩
theorem odd_pow {t k n:Nat}:(2 ^ t * (2 * k + 1)) % 2 ^ n = 0 ↔ n ≤ t:=by
  constructor
  · intro h
    rcases Nat.lt_or_ge t n with hlt | hge
    · exfalso
      have e:n = t + (n - t - 1) + 1:=by omega
      rw [e,Nat.add_assoc,Nat.pow_add,Nat.mul_mod_mul_left,Nat.pow_succ] at h
      have hp:=Nat.two_pow_pos t
      have h2:(2 * k + 1) % (2 ^ (n - t - 1) * 2) = 0:=by
        rcases Nat.mul_eq_zero.1 h with h | h
        · omega
        · exact h
      have:(2 * k + 1) % 2 = 0:=by
        have:=Nat.mod_mod_of_dvd (2 * k + 1) (show 2 ∣ 2 ^ (n - t - 1) * 2 from ⟨_,Nat.mul_comm _ _⟩)
        rw [h2] at this
        omega
      omega
    · exact hge
  · intro h
    have e:t = n + (t - n):=by omega
    rw [e,Nat.pow_add,Nat.mul_assoc]
    exact Nat.mul_mod_right _ _
theorem and_neg {t k:Nat} (h:2 ^ t * (2 * k + 1) < 2 ^ 64):2 ^ t * (2 * k + 1) &&& (2 ^ 64 - 2 ^ t * (2 * k + 1)) = 2 ^ t:=by
  have hp:=Nat.two_pow_pos t
  have ht:t < 64:=by
    have:2 ^ t * 1 ≤ 2 ^ t * (2 * k + 1):=Nat.mul_le_mul_left _ (by omega)
    exact (Nat.pow_lt_pow_iff_right (a:=2) (by decide)).1 (by omega)
  have hz:2 ^ t * (2 * k) + (2 ^ t - 1) + 1 = 2 ^ t * (2 * k + 1):=by rw [Nat.mul_add,Nat.mul_one]; omega
  have hb:∀ i,(2 ^ 64 - 2 ^ t * (2 * k + 1)).testBit i = (decide (i < 64) && !(2 ^ t * (2 * k) + (2 ^ t - 1)).testBit i):=fun i=>by
    rw [← hz,Nat.testBit_two_pow_sub_succ (by omega)]
  apply Nat.eq_of_testBit_eq
  intro i
  rw [Nat.testBit_and,hb,Nat.testBit_two_pow]
  have h1:(2 ^ t * (2 * k + 1)).testBit i = (decide (t ≤ i) && (2 * k + 1).testBit (i - t)):=by
    have:=Nat.testBit_two_pow_mul_add (2 * k + 1) hp i
    rw [Nat.add_zero] at this
    rw [this]
    by_cases hi:i < t
    · simp [hi]; omega
    · simp [hi]; omega
  rw [h1,Nat.testBit_two_pow_mul_add (2 * k) (show 2 ^ t - 1 < 2 ^ t by omega) i]
  rcases Nat.lt_trichotomy i t with hi | hi | hi
  · simp [show ¬ t ≤ i by omega,show ¬ t = i by omega]
  · subst hi
    simp [ht]
  · have e:i - t = (i - t - 1) + 1:=by omega
    simp only [show ¬ i < t by omega,if_false,show ¬ t = i by omega,decide_false]
    rw [e,Nat.testBit_succ,Nat.testBit_succ,show (2 * k + 1) / 2 = k by omega,show 2 * k / 2 = k by omega]
    cases k.testBit (i - t - 1) <;> simp
theorem andN {a b:Nat} (ha:a < 2 ^ 64) (hb:b < 2 ^ 64):andI .u64 (a:Int) (b:Int) = ((a &&& b:Nat):Int):=by
  have key:(BitVec.ofInt 64 (a:Int) &&& BitVec.ofInt 64 (b:Int)).toNat = a &&& b:=by
    rw [BitVec.toNat_and,ofInt_u64 ha,ofInt_u64 hb]
  show IntKind.u64.wrap (((BitVec.ofInt 64 (a:Int) &&& BitVec.ofInt 64 (b:Int)).toNat:Nat):Int) = _
  rw [key]
  have:=Nat.and_le_left (n:=a) (m:=b)
  exact wrapU (by omega)
theorem orN2 {a b:Nat} (ha:a < 2 ^ 64) (hb:b < 2 ^ 64):orI .u64 (a:Int) (b:Int) = ((a ||| b:Nat):Int):=by
  have key:(BitVec.ofInt 64 (a:Int) ||| BitVec.ofInt 64 (b:Int)).toNat = a ||| b:=by
    rw [BitVec.toNat_or,ofInt_u64 ha,ofInt_u64 hb]
  show IntKind.u64.wrap (((BitVec.ofInt 64 (a:Int) ||| BitVec.ofInt 64 (b:Int)).toNat:Nat):Int) = _
  rw [key]
  have:=Nat.or_lt_two_pow ha hb
  exact wrapU (by omega)
theorem deb:∀ t:Nat,t < 64 → IntKind.wrap .i64 (k_deb.getD (2 ^ t * 285870213051353865 % 2 ^ 64 / 2 ^ 58) 0) = (t:Int):=by
  have h:((List.range 64).all fun t=>decide (IntKind.wrap .i64 (k_deb.getD (2 ^ t * 285870213051353865 % 2 ^ 64 / 2 ^ 58) (0:Int)) = (t:Int))) = true:=by decide +kernel
  intro t ht
  have:=List.all_eq_true.1 h t (List.mem_range.2 ht)
  simpa using this
theorem T92_eq {t k:Nat} (h:2 ^ t * (2 * k + 1) < 2 ^ 64):T92 (((2 ^ t * (2 * k + 1):Nat):Int),()) = some ((t:Int),()):=by
  have hp:=Nat.two_pow_pos t
  have h1:2 ^ t * 1 ≤ 2 ^ t * (2 * k + 1):=Nat.mul_le_mul_left _ (by omega)
  have ht:t < 64:=(Nat.pow_lt_pow_iff_right (a:=2) (by decide)).1 (by omega)
  have han:=and_neg h
  show t92 ((2 ^ t * (2 * k + 1):Nat):Int) = _
  generalize hx:2 ^ t * (2 * k + 1) = x at *
  unfold t92
  have e1:IntKind.wrap .u64 ((0:Int) - (x:Int)) = ((2 ^ 64 - x:Nat):Int):=by
    have:∀ y:Int,IntKind.wrap .u64 y = y % 18446744073709551616:=fun y=>by
      simp [IntKind.wrap,IntKind.bits,IntKind.signed]
    rw [this]; omega
  have e2:IntKind.wrap .u64 (((2 ^ t:Nat):Int) * 285870213051353865) = ((2 ^ t * 285870213051353865 % 2 ^ 64:Nat):Int):=wrapN (2 ^ t * 285870213051353865)
  have e3:shrI .u64 ((2 ^ t * 285870213051353865 % 2 ^ 64:Nat):Int) 58 = ((2 ^ t * 285870213051353865 % 2 ^ 64 / 2 ^ 58:Nat):Int):=shrN _ 58 (by decide)
  have e4:2 ^ t * 285870213051353865 % 2 ^ 64 / 2 ^ 58 < 64:=by omega
  have e5:(decide ((0:Int) ≤ ((2 ^ t * 285870213051353865 % 2 ^ 64 / 2 ^ 58:Nat):Int)) && decide (((2 ^ t * 285870213051353865 % 2 ^ 64 / 2 ^ 58:Nat):Int) < (64:Nat))) = true:=by
    rw [decide_eq_true (by omega),decide_eq_true (by omega)]; rfl
  rw [e1,andN h (by omega),han,e2,e3,e5,sealB_eq,cond_true,beq0_f x (by omega),cond_false,Int.toNat_natCast,deb t ht]
end VL
namespace VL
open Go Vx
def Dw (n:Nat):List Int:=Wd (dg (2 ^ 64) n)
theorem dg_ws (n:Nat) (h:(dg (2 ^ 64) n).length ≤ 1000000):Ws (dg (2 ^ 64) n):=⟨dg_lt (by decide) n,h⟩
theorem dg_len_le {B:Nat} (hB:2 ≤ B):∀ (k n:Nat),n < B ^ k → (dg B n).length ≤ k
  | 0,n,h=>by simp at h; subst h; rw [dg_zero]; simp
  | k + 1,n,h=>by
    rcases Nat.eq_zero_or_pos n with rfl | hn
    · rw [dg_zero]; simp
    · rw [dg_pos hB hn]
      have:=dg_len_le hB k (n / B) (by rw [Nat.div_lt_iff_lt_mul (by omega),← Nat.pow_succ]; exact h)
      simp; omega
theorem dg_len_gt {B:Nat} (hB:2 ≤ B) (n:Nat):n < B ^ (dg B n).length:=by
  have:=nv_lt hB _ (dg_lt hB n)
  rwa [nv_dg hB] at this
theorem div_word {x i t k r n:Nat} (hx:x = 2 ^ t * (2 * k + 1)) (ht:t < 64):((2 ^ 64) ^ i * (x + 2 ^ 64 * r)) % 2 ^ n = 0 ↔ n ≤ 64 * i + t:=by
  have e:(2 ^ 64) ^ i * (x + 2 ^ 64 * r) = 2 ^ (64 * i + t) * (2 * (k + 2 ^ (64 - t - 1) * r) + 1):=by
    have h1:2 ^ 64 = 2 ^ t * (2 ^ (64 - t - 1) * 2):=by rw [← Nat.pow_succ,← Nat.pow_add]; congr 1; omega
    rw [pow64,hx,Nat.pow_add,Nat.mul_assoc]
    congr 1
    rw [h1,Nat.mul_assoc,← Nat.mul_add]
    congr 1
    rw [Nat.mul_assoc,Nat.mul_left_comm]
    omega
  rw [e]
  exact odd_pow
theorem W184_eq (a:List Nat) (ha:∀ x ∈ a,x < 2 ^ 64) (hlen:a.length ≤ 1000000) (n:Nat) (hn:n ≤ 1000000000) (i:Nat) (hi:i ≤ a.length) (hz:nv (2 ^ 64) (a.take i) = 0) :
    W184_2 (((a.length:Int),(Wd a,((n:Int),((i:Int),())))),()) = some (if nv (2 ^ 64) a = 0 then .inl ((),()) else .inr ((decide (nv (2 ^ 64) a % 2 ^ n = 0),()),())):=by
  have key:=lfix_ind (m184_2 S173.pre S173.F S92.pre S92.F) (fun x=>a.length - x.1.2.2.2.1.toNat)
    (fun x=>∃ i:Nat,i ≤ a.length ∧ nv (2 ^ 64) (a.take i) = 0 ∧ x = (((a.length:Int),(Wd a,((n:Int),((i:Int),())))),()))
    (fun _=>if nv (2 ^ 64) a = 0 then .inl ((),()) else .inr ((decide (nv (2 ^ 64) a % 2 ^ n = 0),()),())) ?_ _ ⟨i,hi,hz,rfl⟩
  · exact key
  intro L x hx hL
  obtain ⟨i,hi,hz,rfl⟩:=hx
  unfold h184_2
  rcases Nat.lt_or_ge i a.length with hlt | hge
  · simp (disch:=omega) only [wadd,wadd1,wadd64,wsubn,wsub1,wmul64,ilt_t,ilt_f,ile_t,ile_f,igt_t,igt_f,ige_t,ige_f,ipos_t,ipos_f,igt0_t,igt0_f,nnn,beq0_t,beq0_f,bne0_t,bne0_f,Int.toNat_natCast,Int.toNat_zero,cond_true,cond_false,Bool.and_self,Bool.true_and,Bool.and_true,Bool.false_and,Bool.and_false,Bool.not_true,Bool.not_false,Bool.or_self,Bool.true_or,Bool.or_true,Bool.false_or,Bool.or_false,Wd_len,Wd_getD]
    have hxl:=getD_lt (by decide) ha i
    rcases Nat.eq_zero_or_pos (a.getD i 0) with h0 | h0
    · simp (disch:=omega) only [wadd,wadd1,wadd64,wsubn,wsub1,wmul64,ilt_t,ilt_f,ile_t,ile_f,igt_t,igt_f,ige_t,ige_f,ipos_t,ipos_f,igt0_t,igt0_f,nnn,beq0_t,beq0_f,bne0_t,bne0_f,Int.toNat_natCast,Int.toNat_zero,cond_true,cond_false,Bool.and_self,Bool.true_and,Bool.and_true,Bool.false_and,Bool.and_false,Bool.not_true,Bool.not_false,Bool.or_self,Bool.true_or,Bool.or_true,Bool.false_or,Bool.or_false]
      refine hL _ ⟨i + 1,by omega,?_,rfl⟩ (by simp only [Int.toNat_natCast]; omega)
      rw [nv_take_succ _ _ _ hlt,hz,h0,Nat.mul_zero]
    · obtain ⟨t,k,e⟩:=two_split h0
      have ht:t < 64:=by
        have hp:=Nat.two_pow_pos t
        have h1:2 ^ t * 1 ≤ 2 ^ t * (2 * k + 1):=Nat.mul_le_mul_left _ (by omega)
        exact (Nat.pow_lt_pow_iff_right (a:=2) (by decide)).1 (by omega)
      have p0:=T92_eq (t:=t) (k:=k) (by omega)
      rw [← e] at p0
      have hv:nv (2 ^ 64) a = (2 ^ 64) ^ i * (a.getD i 0 + 2 ^ 64 * nv (2 ^ 64) (a.drop (i + 1))):=by
        rw [nv_split _ a i hi,hz,Nat.zero_add,List.drop_eq_getElem_cons hlt]
        simp only [nv]
        rw [List.getD_eq_getElem?_getD,List.getElem?_eq_getElem hlt]
        rfl
      have hne:nv (2 ^ 64) a ≠ 0:=by
        rw [hv]
        have:0 < (2 ^ 64) ^ i:=Nat.pow_pos (by decide)
        exact Nat.ne_of_gt (Nat.mul_pos this (by omega))
      have hd:=div_word (i:=i) (r:=nv (2 ^ 64) (a.drop (i + 1))) (n:=n) e ht
      rw [← hv] at hd
      simp (disch:=omega) only [wadd,wadd1,wadd64,wsubn,wsub1,wmul64,ilt_t,ilt_f,ile_t,ile_f,igt_t,igt_f,ige_t,ige_f,ipos_t,ipos_f,igt0_t,igt0_f,nnn,beq0_t,beq0_f,bne0_t,bne0_f,Int.toNat_natCast,Int.toNat_zero,cond_true,cond_false,Bool.and_self,Bool.true_and,Bool.and_true,Bool.false_and,Bool.and_false,Bool.not_true,Bool.not_false,Bool.or_self,Bool.true_or,Bool.or_true,Bool.false_or,Bool.or_false,pre92 p0,fun92 p0,if_neg hne]
      have:decide (((64 * i + t:Nat):Int) ≥ (n:Int)) = decide (nv (2 ^ 64) a % 2 ^ n = 0):=by
        rw [Bool.eq_iff_iff,decide_eq_true_eq,decide_eq_true_eq,hd]; omega
      rw [this]
  · have e:i = a.length:=by omega
    subst e
    rw [List.take_length] at hz
    simp (disch:=omega) only [wadd,wadd1,wadd64,wsubn,wsub1,wmul64,ilt_t,ilt_f,ile_t,ile_f,igt_t,igt_f,ige_t,ige_f,ipos_t,ipos_f,igt0_t,igt0_f,nnn,beq0_t,beq0_f,bne0_t,bne0_f,Int.toNat_natCast,Int.toNat_zero,cond_true,cond_false,Bool.and_self,Bool.true_and,Bool.and_true,Bool.false_and,Bool.and_false,Bool.not_true,Bool.not_false,Bool.or_self,Bool.true_or,Bool.or_true,Bool.false_or,Bool.or_false,if_pos hz]
theorem T184_eq (l:List Nat) (hl:Ws l) (n:Nat) (hn:n ≤ 1000000000):T184 (Wd l,(n:Int),()) = some (decide (nv (2 ^ 64) l % 2 ^ n = 0),()):=by
  obtain ⟨h,hlen⟩:=hl
  show t184 S173.pre S173.F S92.pre S92.F W184_2 (Wd l) n = _
  unfold t184
  have p0:=T173_eq l hlen
  have hm:∀ x ∈ trimL l,x < 2 ^ 64:=fun x hx=>h x (trim_mem hx)
  have hle:=(trim_len l).1
  have hw:=W184_eq (trimL l) hm (by omega) n hn 0 (Nat.zero_le _) rfl
  rw [nv_trim (by decide) h] at hw
  simp only [pre173 p0,fun173 p0,cond_true,Wd_len]
  rw [show ((0:Nat):Int) = 0 from rfl] at hw
  rw [hw]
  by_cases h0:nv (2 ^ 64) l = 0
  · rw [if_pos h0,h0,Nat.zero_mod]; rfl
  · rw [if_neg h0]
def jamN (v n:Nat):Nat:=if v % 2 ^ n = 0 then v / 2 ^ n else v / 2 ^ n / 2 * 2 + 1
theorem or_one (w:Nat):w ||| 1 = w / 2 * 2 + 1:=by
  apply Nat.eq_of_testBit_eq
  intro i
  rw [Nat.testBit_or]
  cases i with
  | zero=>simp [Nat.testBit_zero]
  | succ i =>
    rw [Nat.testBit_succ,Nat.testBit_succ,Nat.testBit_succ,show (w / 2 * 2 + 1) / 2 = w / 2 by omega,show 1 / 2 = 0 by rfl]
    simp
theorem T175_eq (l:List Nat) (hl:Ws l) (n:Nat) (hn:n ≤ 100000000):T175 (Wd l,(n:Int),()) = some (Dw (jamN (nv (2 ^ 64) l) n),0,()):=by
  show t175 S1171.pre S1171.F S171.pre S171.F S184.pre S184.F (Wd l) n = _
  unfold t175
  have p0:=T1171_eq l hl n hn
  have p1:=T184_eq l hl n (by omega)
  simp only [ineg_f,cond_false,pre1171 p0,fun1171 p0,pre184 p1,fun184 p1,cond_true,Wd_len]
  unfold jamN
  by_cases h0:nv (2 ^ 64) l % 2 ^ n = 0
  · rw [if_pos h0,decide_eq_true h0]; rfl
  · rw [if_neg h0,decide_eq_false h0]
    generalize nv (2 ^ 64) l / 2 ^ n = q
    rcases Nat.eq_zero_or_pos q with rfl | hq
    · have e:Dw (0 / 2 * 2 + 1) = [1]:=by
        show Wd (dg (2 ^ 64) 1) = [1]
        rw [dg_pos (by decide) (by decide),dg_zero]; rfl
      rw [e,dg_zero]; rfl
    · have hB:2 ≤ 2 ^ 64:=by decide
      have e:Dw (q / 2 * 2 + 1) = Wd ((q % 2 ^ 64 / 2 * 2 + 1) :: dg (2 ^ 64) (q / 2 ^ 64)):=by
        show Wd (dg (2 ^ 64) (q / 2 * 2 + 1)) = _
        rw [dg_pos hB (by omega)]
        have e1:(q / 2 * 2 + 1) % 2 ^ 64 = q % 2 ^ 64 / 2 * 2 + 1:=by omega
        have e2:(q / 2 * 2 + 1) / 2 ^ 64 = q / 2 ^ 64:=by omega
        rw [e1,e2]
      have e2:orI .u64 ((q % 2 ^ 64:Nat):Int) 1 = ((q % 2 ^ 64 / 2 * 2 + 1:Nat):Int):=by
        have:=orN2 (a:=q % 2 ^ 64) (b:=1) (by omega) (by decide)
        rw [or_one] at this
        exact this
      rw [e,dg_pos hB hq]
      simp (disch:=omega) only [wadd,wadd1,wadd64,wsubn,wsub1,wmul64,ilt_t,ilt_f,ile_t,ile_f,igt_t,igt_f,ige_t,ige_f,ipos_t,ipos_f,igt0_t,igt0_f,nnn,beq0_t,beq0_f,bne0_t,bne0_f,Int.toNat_natCast,Int.toNat_zero,cond_true,cond_false,Bool.and_self,Bool.true_and,Bool.and_true,Bool.false_and,Bool.and_false,Bool.not_true,Bool.not_false,Bool.or_self,Bool.true_or,Bool.or_true,Bool.false_or,Bool.or_false,List.length_cons,Wd_getD,List.getD_cons_zero,e2,Wd_set,List.set_cons_zero]
theorem T141_eq (l:List Nat) (hl:Ws l) (n:Nat) (hn:n ≤ 100000000):T141 (Wd l,(n:Int),()) = some (Dw (nv (2 ^ 64) l / 2 ^ n),0,()):=by
  show t141 S171.pre S171.F (Wd l) n = _
  unfold t141
  have p0:=T171_eq l hl n hn
  simp only [ineg_f,cond_false,pre171 p0,fun171 p0,cond_true]
  rfl
end VL
namespace VL
open Go Vx
theorem getD_set_ne {l:List Nat} {i j v:Nat} (h:i ≠ j):(l.set i v).getD j 0 = l.getD j 0:=by
  rw [List.getD_eq_getElem?_getD,List.getD_eq_getElem?_getD,List.getElem?_set_ne h]
theorem left_step {out:List Nat} {K V k s x:Nat} (hs:s < 64) (ho:out = pd (2 ^ 64) K V) (hk:k + 1 < K) (hV:V < 2 ^ (64 * k + s)) (hx:x < 2 ^ 64) :
    (out.getD k 0 < 2 ^ s) ∧ (out.getD k 0 + x % 2 ^ (64 - s) * 2 ^ s < 2 ^ 64) ∧ ((out.set k (out.getD k 0 + x % 2 ^ (64 - s) * 2 ^ s)).set (k + 1) (x / 2 ^ (64 - s)) = pd (2 ^ 64) K (V + 2 ^ (64 * k + s) * x)):=by
  have hB:0 < 2 ^ 64:=by decide
  have hps:=Nat.two_pow_pos s
  have hpk:=Nat.two_pow_pos (64 * k)
  have hlen:out.length = K:=by rw [ho,pd_len]
  have hc:out.getD k 0 = V / (2 ^ 64) ^ k % 2 ^ 64:=by rw [ho,pd_get _ _ _ _ (by omega)]
  have hc2:V / (2 ^ 64) ^ k < 2 ^ s:=by
    rw [pow64,Nat.div_lt_iff_lt_mul hpk,Nat.mul_comm,← Nat.pow_add]; exact hV
  have hc1:out.getD (k + 1) 0 = 0:=by
    rw [ho,pd_get _ _ _ _ hk,pow64]
    have:V < 2 ^ (64 * (k + 1)):=Nat.lt_of_lt_of_le hV (Nat.pow_le_pow_right (by decide) (by omega))
    rw [Nat.div_eq_of_lt this]
  have h64:2 ^ 64 = 2 ^ (64 - s) * 2 ^ s:=by rw [← Nat.pow_add]; congr 1; omega
  have hs64:2 ^ s ≤ 2 ^ 64:=Nat.pow_le_pow_right (by decide) (by omega)
  have hce:V / (2 ^ 64) ^ k % 2 ^ 64 = V / (2 ^ 64) ^ k:=Nat.mod_eq_of_lt (by omega)
  have hcl:out.getD k 0 < 2 ^ s:=by rw [hc,hce]; exact hc2
  have hp1:=Nat.two_pow_pos (64 - s)
  have hm:x % 2 ^ (64 - s) + 1 ≤ 2 ^ (64 - s):=Nat.mod_lt _ hp1
  have hm2:=Nat.mul_le_mul_right (2 ^ s) hm
  rw [← h64,Nat.add_mul,Nat.one_mul] at hm2
  have hsum:out.getD k 0 + x % 2 ^ (64 - s) * 2 ^ s < 2 ^ 64:=by omega
  refine ⟨hcl,hsum,?_⟩
  have hall:∀ y ∈ out,y < 2 ^ 64:=by rw [ho]; exact pd_lt hB _ _
  have hxd:x / 2 ^ (64 - s) < 2 ^ 64:=Nat.lt_of_le_of_lt (Nat.div_le_self _ _) hx
  refine pd_at hB (set_lt (set_lt hall hsum) hxd) (by simp [hlen]) ?_
  have g1:=nv_set (2 ^ 64) out k (out.getD k 0 + x % 2 ^ (64 - s) * 2 ^ s) (by omega)
  have g2:=nv_set (2 ^ 64) (out.set k (out.getD k 0 + x % 2 ^ (64 - s) * 2 ^ s)) (k + 1) (x / 2 ^ (64 - s)) (by rw [List.length_set]; omega)
  rw [getD_set_ne (by omega),hc1,Nat.mul_zero,Nat.add_zero] at g2
  have hVK:V < (2 ^ 64) ^ K:=by
    rw [pow64]; exact Nat.lt_of_lt_of_le hV (Nat.pow_le_pow_right (by decide) (by omega))
  have hnv:nv (2 ^ 64) out = V:=by rw [ho,pd_nv hB _ _ hVK]
  rw [hnv,Nat.mul_add] at g1
  rw [g2]
  have hx2:2 ^ (64 * k + s) * x = (2 ^ 64) ^ k * (x % 2 ^ (64 - s) * 2 ^ s) + (2 ^ 64) ^ (k + 1) * (x / 2 ^ (64 - s)):=by
    have hdm:=Nat.div_add_mod x (2 ^ (64 - s))
    generalize x / 2 ^ (64 - s) = q at *
    generalize x % 2 ^ (64 - s) = r at *
    rw [Nat.pow_add 2 (64 * k) s,← pow64,show (2 ^ 64) ^ (k + 1) = (2 ^ 64) ^ k * 2 ^ 64 from Nat.pow_succ _ _,Nat.mul_assoc ((2 ^ 64) ^ k),Nat.mul_assoc ((2 ^ 64) ^ k),← Nat.mul_add,← hdm]
    congr 1
    rw [Nat.mul_add,Nat.mul_comm r,Nat.add_comm]
    congr 1
    rw [← Nat.mul_assoc,Nat.mul_comm (2 ^ s),← h64]
  omega
theorem W186_eq (a:List Nat) (ha:∀ x ∈ a,x < 2 ^ 64) (hlen:a.length ≤ 1000000) (w s:Nat) (hs:s < 64) (hw:w ≤ 10000000) (i:Nat) (hi:i ≤ a.length) :
    W186_7 (((a.length:Int),(Wd a,((w:Int),((s:Int),((i:Int),((),())))))),(Wd (pd (2 ^ 64) (w + a.length + 1) (2 ^ (64 * w + s) * nv (2 ^ 64) (a.take i))),())) = some (.inl (((),()),(Wd (pd (2 ^ 64) (w + a.length + 1) (2 ^ (64 * w + s) * nv (2 ^ 64) a)),()))):=by
  have key:=lfix_ind (m186_7 S173.pre S173.F) (fun x=>a.length - x.1.2.2.2.2.1.toNat)
    (fun x=>∃ i:Nat,i ≤ a.length ∧ x = (((a.length:Int),(Wd a,((w:Int),((s:Int),((i:Int),((),())))))),(Wd (pd (2 ^ 64) (w + a.length + 1) (2 ^ (64 * w + s) * nv (2 ^ 64) (a.take i))),())))
    (fun _=>.inl (((),()),(Wd (pd (2 ^ 64) (w + a.length + 1) (2 ^ (64 * w + s) * nv (2 ^ 64) a)),()))) ?_ _ ⟨i,hi,rfl⟩
  · exact key
  intro L x hx hL
  obtain ⟨i,hi,rfl⟩:=hx
  unfold h186_7
  rcases Nat.lt_or_ge i a.length with hlt | hge
  · have hxl:=getD_lt (by decide) ha i
    have ht:=nv_lt (B:=2 ^ 64) (by decide) (a.take i) fun x hx=>ha x (List.mem_of_mem_take hx)
    rw [List.length_take,Nat.min_eq_left (by omega),pow64] at ht
    have hV:2 ^ (64 * w + s) * nv (2 ^ 64) (a.take i) < 2 ^ (64 * (w + i) + s):=by
      have e:64 * (w + i) + s = (64 * w + s) + 64 * i:=by omega
      rw [e,Nat.pow_add _ (64 * w + s)]
      exact Nat.mul_lt_mul_of_pos_left ht (Nat.two_pow_pos _)
    have hnext:=nv_take_succ (2 ^ 64) a i hlt
    have hgo:=hL (((a.length:Int),(Wd a,((w:Int),((s:Int),(((i + 1:Nat):Int),((),())))))),(Wd (pd (2 ^ 64) (w + a.length + 1) (2 ^ (64 * w + s) * nv (2 ^ 64) (a.take (i + 1)))),())) ⟨i + 1,by omega,rfl⟩ (by simp only [Int.toNat_natCast]; omega)
    rw [hnext,Nat.mul_add,← Nat.mul_assoc,show 2 ^ (64 * w + s) * (2 ^ 64) ^ i = 2 ^ (64 * (w + i) + s) by rw [pow64,← Nat.pow_add]; congr 1; omega] at hgo
    generalize hout:pd (2 ^ 64) (w + a.length + 1) (2 ^ (64 * w + s) * nv (2 ^ 64) (a.take i)) = out at *
    obtain ⟨q1,q2,q3⟩:=left_step (k:=w + i) hs hout.symm (by omega) hV hxl
    have hol:out.length = w + a.length + 1:=by rw [← hout,pd_len]
    have g1:a.getD i 0 * 2 ^ s % 2 ^ 64 = (a.getD i 0 % 2 ^ (64 - s)) * 2 ^ s:=by
      have:2 ^ 64 = 2 ^ (64 - s) * 2 ^ s:=by rw [← Nat.pow_add]; congr 1; omega
      rw [this,Nat.mul_mod_mul_right]
    have e8:IntKind.wrap .i64 (64 - (s:Int)) = ((64 - s:Nat):Int):=wsub 64 s (by omega) (by omega)
    simp (disch:=omega) only [wadd,wadd1,wadd64,wsubn,wsub1,wmul64,ilt_t,ilt_f,ile_t,ile_f,igt_t,igt_f,ige_t,ige_f,ipos_t,ipos_f,igt0_t,igt0_f,nnn,beq0_t,beq0_f,bne0_t,bne0_f,Int.toNat_natCast,Int.toNat_zero,cond_true,cond_false,Bool.and_self,Bool.true_and,Bool.and_true,Bool.false_and,Bool.and_false,Bool.not_true,Bool.not_false,Bool.or_self,Bool.true_or,Bool.or_true,Bool.false_or,Bool.or_false,Wd_len,Wd_getD,e8,shlN _ s (by omega),shrN _ (64 - s) (by omega),g1,orN q1 q2,Wd_set,List.length_set,q3]
    exact hgo
  · have e:i = a.length:=by omega
    subst e
    rw [List.take_length]
    simp (disch:=omega) only [wadd,wadd1,wadd64,wsubn,wsub1,wmul64,ilt_t,ilt_f,ile_t,ile_f,igt_t,igt_f,ige_t,ige_f,ipos_t,ipos_f,igt0_t,igt0_f,nnn,beq0_t,beq0_f,bne0_t,bne0_f,Int.toNat_natCast,Int.toNat_zero,cond_true,cond_false,Bool.and_self,Bool.true_and,Bool.and_true,Bool.false_and,Bool.and_false,Bool.not_true,Bool.not_false,Bool.or_self,Bool.true_or,Bool.or_true,Bool.false_or,Bool.or_false]
theorem T186_eq (l:List Nat) (hl:Ws l) (n:Nat) (hn:n / 64 + (trimL l).length + 1 ≤ 1000000):T186 (Wd l,(n:Int),()) = some (Dw (nv (2 ^ 64) l * 2 ^ n),()):=by
  obtain ⟨h,hlen⟩:=hl
  show t186 S173.pre S173.F W186_7 (Wd l) n = _
  unfold t186
  have hB:2 ≤ 2 ^ 64:=by decide
  have p0:=T173_eq l hlen
  have hm:∀ x ∈ trimL l,x < 2 ^ 64:=fun x hx=>h x (trim_mem hx)
  have hle:=(trim_len l).1
  have hv:=nv_trim hB h
  simp only [pre173 p0,fun173 p0,cond_true,Wd_len]
  rcases Nat.eq_zero_or_pos (trimL l).length with h0 | h0
  · rw [h0,trim_nil h h0,Nat.zero_mul]
    unfold Dw
    rw [dg_zero]; rfl
  · have e4:Int.tmod (n:Int) 64 = ((n % 64:Nat):Int):=rfl
    have e3:decide (((n / 64 + (trimL l).length + 1:Nat):Int) * 8 ≤ 140737488355328) = true:=decide_eq_true (by omega)
    have hw:=W186_eq (trimL l) hm (by omega) (n / 64) (n % 64) (Nat.mod_lt _ (by decide)) (by omega) 0 (Nat.zero_le _)
    rw [show nv (2 ^ 64) ((trimL l).take 0) = 0 by rfl,Nat.mul_zero,pd_zero,show 64 * (n / 64) + n % 64 = n by omega,show ((0:Nat):Int) = 0 from rfl] at hw
    simp (disch:=omega) only [wadd,wadd1,wadd64,wsubn,wsub1,wmul64,ilt_t,ilt_f,ile_t,ile_f,igt_t,igt_f,ige_t,ige_f,ipos_t,ipos_f,igt0_t,igt0_f,nnn,beq0_t,beq0_f,bne0_t,bne0_f,Int.toNat_natCast,Int.toNat_zero,cond_true,cond_false,Bool.and_self,Bool.true_and,Bool.and_true,Bool.false_and,Bool.and_false,Bool.not_true,Bool.not_false,Bool.or_self,Bool.true_or,Bool.or_true,Bool.false_or,Bool.or_false,quoN n (by omega),e4,e3,Wd_rep,hw]
    have hV:2 ^ n * nv (2 ^ 64) (trimL l) < (2 ^ 64) ^ (n / 64 + (trimL l).length + 1):=by
      have:=nv_lt hB (trimL l) hm
      rw [pow64] at this ⊢
      have h1:2 ^ n * nv (2 ^ 64) (trimL l) < 2 ^ n * 2 ^ (64 * (trimL l).length):=Nat.mul_lt_mul_of_pos_left this (Nat.two_pow_pos _)
      rw [← Nat.pow_add] at h1
      exact Nat.lt_of_lt_of_le h1 (Nat.pow_le_pow_right (by decide) (by omega))
    have p1:=T173_eq (pd (2 ^ 64) (n / 64 + (trimL l).length + 1) (2 ^ n * nv (2 ^ 64) (trimL l))) (by rw [pd_len]; omega)
    rw [trim_dg hB _ (pd_lt (by decide) _ _),pd_nv (by decide) _ _ hV,hv,Nat.mul_comm (2 ^ n)] at p1
    rw [hv,Nat.mul_comm (2 ^ n)]
    generalize pd (2 ^ 64) (n / 64 + (trimL l).length + 1) (nv (2 ^ 64) l * 2 ^ n) = out at *
    show (bif S173.pre (Wd out,()) then some (S173.F (Wd out,())) else none) = _
    rw [pre173 p1,fun173 p1]
    rfl
theorem W185_eq (ls:List (List Nat)) (hls:∀ l ∈ ls,l.length ≤ 1000000) (hn:ls.length ≤ 1000000) (i:Nat) (hi:i ≤ ls.length) (hz:∀ l ∈ ls.take i,(trimL l).length ≤ 1024) :
    W185_2 (((ls.length:Int),(ls.map Wd,((i:Int),()))),()) = some (if (∀ l ∈ ls,(trimL l).length ≤ 1024) then .inl ((),()) else .inr ((true,()),())):=by
  have key:=lfix_ind (m185_2 S173.pre S173.F) (fun x=>ls.length - x.1.2.2.1.toNat)
    (fun x=>∃ i:Nat,i ≤ ls.length ∧ (∀ l ∈ ls.take i,(trimL l).length ≤ 1024) ∧ x = (((ls.length:Int),(ls.map Wd,((i:Int),()))),()))
    (fun _=>if (∀ l ∈ ls,(trimL l).length ≤ 1024) then .inl ((),()) else .inr ((true,()),())) ?_ _ ⟨i,hi,hz,rfl⟩
  · exact key
  intro L x hx hL
  obtain ⟨i,hi,hz,rfl⟩:=hx
  unfold h185_2
  rcases Nat.lt_or_ge i ls.length with hlt | hge
  · have eg:(ls.map Wd).getD i [] = Wd (ls[i]):=by
      rw [List.getD_eq_getElem?_getD,List.getElem?_map,List.getElem?_eq_getElem hlt]; rfl
    have hil:ls[i] ∈ ls:=List.getElem_mem hlt
    have p0:=T173_eq ls[i] (hls _ hil)
    simp (disch:=omega) only [wadd,wadd1,wadd64,wsubn,wsub1,wmul64,ilt_t,ilt_f,ile_t,ile_f,igt_t,igt_f,ige_t,ige_f,ipos_t,ipos_f,igt0_t,igt0_f,nnn,beq0_t,beq0_f,bne0_t,bne0_f,Int.toNat_natCast,Int.toNat_zero,cond_true,cond_false,Bool.and_self,Bool.true_and,Bool.and_true,Bool.false_and,Bool.and_false,Bool.not_true,Bool.not_false,Bool.or_self,Bool.true_or,Bool.or_true,Bool.false_or,Bool.or_false,List.length_map,eg,pre173 p0,fun173 p0,Wd_len]
    rcases Nat.lt_or_ge 1024 (trimL ls[i]).length with hg | hg
    · have e:decide (((trimL ls[i]).length:Int) > 1024) = true:=decide_eq_true (by omega)
      have hnot:¬ ∀ l ∈ ls,(trimL l).length ≤ 1024:=fun hh=>by have:=hh _ hil; omega
      rw [e,cond_true,if_neg hnot]
    · have e:decide (((trimL ls[i]).length:Int) > 1024) = false:=decide_eq_false (by omega)
      rw [e,cond_false]
      refine hL _ ⟨i + 1,by omega,?_,rfl⟩ (by simp only [Int.toNat_natCast]; omega)
      intro l hl
      rw [List.take_succ,List.getElem?_eq_getElem hlt] at hl
      rcases List.mem_append.1 hl with hl | hl
      · exact hz l hl
      · have:l = ls[i]:=by simpa using hl
        rw [this]; exact hg
  · have e:i = ls.length:=by omega
    subst e
    rw [List.take_length] at hz
    simp (disch:=omega) only [wadd,wadd1,wadd64,wsubn,wsub1,wmul64,ilt_t,ilt_f,ile_t,ile_f,igt_t,igt_f,ige_t,ige_f,ipos_t,ipos_f,igt0_t,igt0_f,nnn,beq0_t,beq0_f,bne0_t,bne0_f,Int.toNat_natCast,Int.toNat_zero,cond_true,cond_false,Bool.and_self,Bool.true_and,Bool.and_true,Bool.false_and,Bool.and_false,Bool.not_true,Bool.not_false,Bool.or_self,Bool.true_or,Bool.or_true,Bool.false_or,Bool.or_false,if_pos hz]
theorem T185_eq (ls:List (List Nat)) (hls:∀ l ∈ ls,l.length ≤ 1000000) (hn:ls.length ≤ 1000000) :
    T185 (ls.map Wd,()) = some (!decide (∀ l ∈ ls,(trimL l).length ≤ 1024),()):=by
  show t185 S173.pre S173.F W185_2 (ls.map Wd) = _
  unfold t185
  have hw:=W185_eq ls hls hn 0 (Nat.zero_le _) (fun l hl=>by simp at hl)
  rw [show ((0:Nat):Int) = 0 from rfl] at hw
  rw [List.length_map,hw]
  by_cases h:∀ l ∈ ls,(trimL l).length ≤ 1024
  · rw [if_pos h,decide_eq_true h]; rfl
  · rw [if_neg h,decide_eq_false h]; rfl
theorem T185_one (l:List Nat) (hl:l.length ≤ 1000000):T185 ((Wd l :: []),()) = some (!decide ((trimL l).length ≤ 1024),()):=by
  have:=T185_eq [l] (by simp; exact hl) (by simp)
  rw [show [l].map Wd = Wd l :: [] from rfl] at this
  rw [this]
  simp
theorem T176_eq (l:List Nat) (hl:Ws l) (n:Nat) (hn:n ≤ 65536) (hv:nv (2 ^ 64) l * 2 ^ n < (2 ^ 64) ^ 1024):T176 (Wd l,(n:Int),()) = some (Dw (nv (2 ^ 64) l * 2 ^ n),0,()):=by
  show t176 S186.pre S186.F S185.pre S185.F (Wd l) n = _
  unfold t176
  have p0:=T185_one l hl.2
  have hB:2 ≤ 2 ^ 64:=by decide
  have h1:=dg_len_le hB 1024 _ hv
  have h0:(trimL l).length ≤ 1024:=by
    rw [trim_dg hB _ hl.1]
    apply dg_len_le hB
    exact Nat.lt_of_le_of_lt (Nat.le_mul_of_pos_right _ (Nat.two_pow_pos _)) hv
  have p1:=T186_eq l hl n (by omega)
  have p2:=T185_one (dg (2 ^ 64) (nv (2 ^ 64) l * 2 ^ n)) (by omega)
  rw [dg_trim hB] at p2
  rw [decide_eq_true h0] at p0
  rw [decide_eq_true h1] at p2
  have e2:decide ((n:Int) > 65536) = false:=decide_eq_false (by omega)
  simp only [ineg_f,e2,Bool.or_self,cond_false,pre185 p0,fun185 p0,cond_true,Bool.not_true,pre186 p1,fun186 p1]
  unfold Dw
  simp only [pre185 p2,fun185 p2,cond_true,Bool.not_true,cond_false]
end VL
namespace VL
open Go Vx
theorem nv_take_next (B:Nat) (l:List Nat) (i:Nat):nv B (l.take (i + 1)) = nv B (l.take i) + B ^ i * l.getD i 0:=by
  rcases Nat.lt_or_ge i l.length with h | h
  · exact nv_take_succ B l i h
  · rw [List.take_of_length_le (by omega),List.take_of_length_le h,List.getD_eq_getElem?_getD,List.getElem?_eq_none h]
    simp
def sumAt (a b:List Nat) (i:Nat):Nat:=nv (2 ^ 64) (a.take i) + nv (2 ^ 64) (b.take i)
def outAt (a b:List Nat) (i:Nat):List Nat:=pd (2 ^ 64) i (sumAt a b i % (2 ^ 64) ^ i) ++ (a ++ [0]).drop i
theorem nv_take_lt {l:List Nat} (h:∀ x ∈ l,x < 2 ^ 64) (i:Nat):nv (2 ^ 64) (l.take i) < (2 ^ 64) ^ i:=by
  have:=nv_lt (B:=2 ^ 64) (by decide) (l.take i) fun x hx=>h x (List.mem_of_mem_take hx)
  refine Nat.lt_of_lt_of_le this (Nat.pow_le_pow_right (by decide) ?_)
  rw [List.length_take]
  exact Nat.min_le_left _ _
theorem carry_le {a b:List Nat} (ha:∀ x ∈ a,x < 2 ^ 64) (hb:∀ x ∈ b,x < 2 ^ 64) (i:Nat):sumAt a b i / (2 ^ 64) ^ i ≤ 1:=by
  have h1:=nv_take_lt ha i
  have h2:=nv_take_lt hb i
  have hp:0 < (2 ^ 64) ^ i:=Nat.pow_pos (by decide)
  unfold sumAt
  have:(nv (2 ^ 64) (a.take i) + nv (2 ^ 64) (b.take i)) / (2 ^ 64) ^ i < 2:=by
    rw [Nat.div_lt_iff_lt_mul hp]; omega
  omega
theorem sum_next (a b:List Nat) (i:Nat):sumAt a b (i + 1) = sumAt a b i % (2 ^ 64) ^ i + (2 ^ 64) ^ i * (a.getD i 0 + b.getD i 0 + sumAt a b i / (2 ^ 64) ^ i):=by
  have hdm:=Nat.div_add_mod (sumAt a b i) ((2 ^ 64) ^ i)
  have h1:sumAt a b (i + 1) = sumAt a b i + (2 ^ 64) ^ i * (a.getD i 0 + b.getD i 0):=by
    unfold sumAt
    rw [nv_take_next,nv_take_next,Nat.mul_add]
    omega
  rw [h1,Nat.mul_add ((2 ^ 64) ^ i) (a.getD i 0 + b.getD i 0)]
  omega
theorem sum_next_div (a b:List Nat) (i:Nat):sumAt a b (i + 1) / (2 ^ 64) ^ (i + 1) = (a.getD i 0 + b.getD i 0 + sumAt a b i / (2 ^ 64) ^ i) / 2 ^ 64:=by
  have hp:0 < (2 ^ 64) ^ i:=Nat.pow_pos (by decide)
  rw [sum_next,Nat.pow_succ (2 ^ 64) i,← Nat.div_div_eq_div_mul,Nat.add_mul_div_left _ _ hp,Nat.div_eq_of_lt (Nat.mod_lt _ hp),Nat.zero_add]
theorem sum_next_mod (a b:List Nat) (i:Nat):sumAt a b (i + 1) % (2 ^ 64) ^ (i + 1) = sumAt a b i % (2 ^ 64) ^ i + (2 ^ 64) ^ i * ((a.getD i 0 + b.getD i 0 + sumAt a b i / (2 ^ 64) ^ i) % 2 ^ 64):=by
  have hp:0 < (2 ^ 64) ^ i:=Nat.pow_pos (by decide)
  rw [sum_next a b i,Nat.pow_succ (2 ^ 64) i,Nat.mod_mul,Nat.add_mul_mod_self_left,Nat.mod_mod,Nat.add_mul_div_left _ _ hp,Nat.div_eq_of_lt (Nat.mod_lt _ hp),Nat.zero_add]
theorem pd_snoc {k r v:Nat} (hr:r < (2 ^ 64) ^ k) (hv:v < 2 ^ 64):pd (2 ^ 64) k r ++ [v] = pd (2 ^ 64) (k + 1) (r + (2 ^ 64) ^ k * v):=by
  refine pd_at (by decide) ?_ (by simp [pd_len]) ?_
  · intro x hx
    rcases List.mem_append.1 hx with hx | hx
    · exact pd_lt (by decide) _ _ x hx
    · have:x = v:=by simpa using hx
      rw [this]; exact hv
  · rw [nv_append,pd_len,pd_nv (by decide) _ _ hr]
    simp [nv]
theorem out_set (a b:List Nat) (i:Nat) (hi:i < a.length):(outAt a b i).set i ((a.getD i 0 + b.getD i 0 + sumAt a b i / (2 ^ 64) ^ i) % 2 ^ 64) = outAt a b (i + 1):=by
  have hp:0 < (2 ^ 64) ^ i:=Nat.pow_pos (by decide)
  unfold outAt
  rw [sum_next_mod,← pd_snoc (Nat.mod_lt _ hp) (Nat.mod_lt _ (by decide)),List.set_append_right _ _ (by rw [pd_len]; exact Nat.le_refl _),pd_len,Nat.sub_self,
    List.drop_eq_getElem_cons (l:=a ++ [0]) (i:=i) (by simp; omega),List.set_cons_zero,List.append_assoc]
  rfl
theorem out_len (a b:List Nat) (i:Nat) (hi:i ≤ a.length):(outAt a b i).length = a.length + 1:=by
  unfold outAt; rw [List.length_append,pd_len]; simp; omega
theorem W143_eq (a b:List Nat) (ha:∀ x ∈ a,x < 2 ^ 64) (hb:∀ x ∈ b,x < 2 ^ 64) (hlen:a.length ≤ 1000000) (i:Nat) (hi:i ≤ a.length) :
    W143_8 (((a.length:Int),(Wd b,((i:Int),(Wd a,(((sumAt a b i / (2 ^ 64) ^ i:Nat):Int),((),())))))),(Wd (outAt a b i),())) = some (.inl ((Wd a,(((sumAt a b a.length / (2 ^ 64) ^ a.length:Nat):Int),((),()))),(Wd (outAt a b a.length),()))):=by
  have key:=lfix_ind (m143_8 S155.pre S155.F S173.pre S173.F) (fun x=>a.length - x.1.2.2.1.toNat)
    (fun x=>∃ i:Nat,i ≤ a.length ∧ x = (((a.length:Int),(Wd b,((i:Int),(Wd a,(((sumAt a b i / (2 ^ 64) ^ i:Nat):Int),((),())))))),(Wd (outAt a b i),())))
    (fun _=>.inl ((Wd a,(((sumAt a b a.length / (2 ^ 64) ^ a.length:Nat):Int),((),()))),(Wd (outAt a b a.length),()))) ?_ _ ⟨i,hi,rfl⟩
  · exact key
  intro L x hx hL
  obtain ⟨i,hi,rfl⟩:=hx
  unfold h143_8
  rcases Nat.lt_or_ge i a.length with hlt | hge
  · have hc:=carry_le ha hb i
    have hol:=out_len a b i hi
    have hset:=out_set a b i hlt
    have hgo:=hL (((a.length:Int),(Wd b,(((i + 1:Nat):Int),(Wd a,(((sumAt a b (i + 1) / (2 ^ 64) ^ (i + 1):Nat):Int),((),())))))),(Wd (outAt a b (i + 1)),())) ⟨i + 1,by omega,rfl⟩ (by simp only [Int.toNat_natCast]; omega)
    rw [sum_next_div,← hset] at hgo
    have hF:∀ x y c:Nat,S155.F ((x:Int),((y:Int),((c:Int),()))) = (((((x + y + c) % 2 ^ 64:Nat):Int)),((((x + y + c) / 2 ^ 64:Nat):Int)),()):=fun x y c=>rfl
    have hP:∀ (x y:Int) (c:Nat),c ≤ 1 → S155.pre (x,(y,((c:Int),()))) = true:=fun x y c h=>by
      show (decide ((0:Int) ≤ (c:Int)) && decide ((c:Int) ≤ 1)) = true
      rw [decide_eq_true (by omega),decide_eq_true (by omega)]; rfl
    generalize sumAt a b i / (2 ^ 64) ^ i = c at *
    generalize outAt a b i = out at *
    rcases Nat.lt_or_ge i b.length with hbl | hbl
    · simp (disch:=omega) only [wadd,wadd1,wadd64,wsubn,wsub1,wmul64,ilt_t,ilt_f,ile_t,ile_f,igt_t,igt_f,ige_t,ige_f,ipos_t,ipos_f,igt0_t,igt0_f,nnn,beq0_t,beq0_f,bne0_t,bne0_f,Int.toNat_natCast,Int.toNat_zero,cond_true,cond_false,Bool.and_self,Bool.true_and,Bool.and_true,Bool.false_and,Bool.and_false,Bool.not_true,Bool.not_false,Bool.or_self,Bool.true_or,Bool.or_true,Bool.false_or,Bool.or_false,Wd_len,Wd_getD,hP _ _ c hc,hF,Wd_set]
      exact hgo
    · have hbz:b.getD i 0 = 0:=by rw [List.getD_eq_getElem?_getD,List.getElem?_eq_none hbl]; rfl
      have hF0:S155.F (((a.getD i 0:Nat):Int),((0:Int),((c:Int),()))) = ((((a.getD i 0 + b.getD i 0 + c) % 2 ^ 64:Nat):Int),(((a.getD i 0 + b.getD i 0 + c) / 2 ^ 64:Nat):Int),()):=by rw [hbz]; rfl
      simp (disch:=omega) only [wadd,wadd1,wadd64,wsubn,wsub1,wmul64,ilt_t,ilt_f,ile_t,ile_f,igt_t,igt_f,ige_t,ige_f,ipos_t,ipos_f,igt0_t,igt0_f,nnn,beq0_t,beq0_f,bne0_t,bne0_f,Int.toNat_natCast,Int.toNat_zero,cond_true,cond_false,Bool.and_self,Bool.true_and,Bool.and_true,Bool.false_and,Bool.and_false,Bool.not_true,Bool.not_false,Bool.or_self,Bool.true_or,Bool.or_true,Bool.false_or,Bool.or_false,Wd_len,Wd_getD,hP _ _ c hc,hF0,Wd_set]
      exact hgo
  · have e:i = a.length:=by omega
    subst e
    simp (disch:=omega) only [wadd,wadd1,wadd64,wsubn,wsub1,wmul64,ilt_t,ilt_f,ile_t,ile_f,igt_t,igt_f,ige_t,ige_f,ipos_t,ipos_f,igt0_t,igt0_f,nnn,beq0_t,beq0_f,bne0_t,bne0_f,Int.toNat_natCast,Int.toNat_zero,cond_true,cond_false,Bool.and_self,Bool.true_and,Bool.and_true,Bool.false_and,Bool.and_false,Bool.not_true,Bool.not_false,Bool.or_self,Bool.true_or,Bool.or_true,Bool.false_or,Bool.or_false]
theorem sum_end (a b:List Nat) (ha:∀ x ∈ a,x < 2 ^ 64) (hb:∀ x ∈ b,x < 2 ^ 64) (hab:b.length ≤ a.length) :
    (outAt a b a.length).set a.length (sumAt a b a.length / (2 ^ 64) ^ a.length) = pd (2 ^ 64) (a.length + 1) (nv (2 ^ 64) a + nv (2 ^ 64) b) ∧ nv (2 ^ 64) a + nv (2 ^ 64) b < (2 ^ 64) ^ (a.length + 1):=by
  have hp:0 < (2 ^ 64) ^ a.length:=Nat.pow_pos (by decide)
  have hc:=carry_le ha hb a.length
  have hs:sumAt a b a.length = nv (2 ^ 64) a + nv (2 ^ 64) b:=by
    unfold sumAt; rw [List.take_length,List.take_of_length_le hab]
  have hdm:=Nat.div_add_mod (sumAt a b a.length) ((2 ^ 64) ^ a.length)
  refine ⟨?_,?_⟩
  · have hd:(a ++ [0]).drop a.length = [0]:=by simp
    unfold outAt
    rw [hd,List.set_append_right _ _ (by rw [pd_len]; exact Nat.le_refl _),pd_len,Nat.sub_self,List.set_cons_zero,pd_snoc (Nat.mod_lt _ hp) (by omega),Nat.add_comm (sumAt a b a.length % (2 ^ 64) ^ a.length),hdm,hs]
  · rw [← hs]
    have h1:=nv_take_lt ha a.length
    have h2:=nv_take_lt hb a.length
    unfold sumAt
    rw [Nat.pow_succ (2 ^ 64) a.length]
    omega
theorem add_len {a:List Nat}:List.take (List.replicate (a.length + 1) (0:Int)).length (Wd a) ++ List.drop a.length (List.replicate (a.length + 1) (0:Int)) = Wd (outAt a ([]:List Nat) 0):=by
  rw [List.length_replicate,List.drop_replicate,Nat.add_sub_cancel_left,List.take_of_length_le (by rw [Wd_len]; omega)]
  unfold outAt
  simp [Wd,pd]
theorem out_zero (a b c:List Nat):outAt a b 0 = outAt a c 0:=by unfold outAt; simp [pd]
theorem add_main (a b:List Nat) (ha:∀ x ∈ a,x < 2 ^ 64) (hb:∀ x ∈ b,x < 2 ^ 64) (hlen:a.length + 1 ≤ 1000000) (hab:b.length ≤ a.length) :
    (bif decide (0 ≤ IntKind.wrap .i64 ((a.length:Int) + 1)) && decide (IntKind.wrap .i64 ((a.length:Int) + 1) * 8 ≤ 140737488355328) then
      obind (W143_8 (((a.length:Int),(Wd b,((0:Int),(Wd a,((0:Int),((),())))))),(List.take (List.replicate (Int.toNat (IntKind.wrap .i64 ((a.length:Int) + 1))) (0:Int)).length (Wd a) ++ List.drop a.length (List.replicate (Int.toNat (IntKind.wrap .i64 ((a.length:Int) + 1))) (0:Int)),()))) fun y4 =>
        obind2 y4 (fun y5=>bif decide (0 ≤ ((y5.1.1.length:Nat):Int)) && decide (((y5.1.1.length:Nat):Int) < ((y5.2.1.length:Nat):Int)) then
          (bif S173.pre ((y5.2.1.set (Int.toNat ((y5.1.1.length:Nat):Int)) y5.1.2.1),()) then some (S173.F ((y5.2.1.set (Int.toNat ((y5.1.1.length:Nat):Int)) y5.1.2.1),())) else none) else none) fun _=>none
    else none:Option (DenS O143)) = some (Dw (nv (2 ^ 64) a + nv (2 ^ 64) b),()):=by
  have hw:=W143_eq a b ha hb (by omega) 0 (Nat.zero_le _)
  have h0:sumAt a b 0 / (2 ^ 64) ^ 0 = 0:=by unfold sumAt; simp [nv]
  rw [h0,show ((0:Nat):Int) = 0 from rfl,out_zero a b [],← add_len] at hw
  have e3:decide (((a.length + 1:Nat):Int) * 8 ≤ 140737488355328) = true:=decide_eq_true (by omega)
  rw [wadd1 _ (by omega),e3,nnn,Int.toNat_natCast,hw]
  obtain ⟨g1,g2⟩:=sum_end a b ha hb hab
  have hol:=out_len a b a.length (Nat.le_refl _)
  have p1:=T173_eq (pd (2 ^ 64) (a.length + 1) (nv (2 ^ 64) a + nv (2 ^ 64) b)) (by rw [pd_len]; exact hlen)
  rw [trim_dg (by decide) _ (pd_lt (by decide) _ _),pd_nv (by decide) _ _ g2,← g1,← Wd_set] at p1
  generalize sumAt a b a.length / (2 ^ 64) ^ a.length = c at *
  generalize outAt a b a.length = out at *
  show (bif decide (0 ≤ (((Wd a).length:Nat):Int)) && decide ((((Wd a).length:Nat):Int) < (((Wd out).length:Nat):Int)) then
          (bif S173.pre ((Wd out).set (Wd a).length (c:Int),()) then some (S173.F ((Wd out).set (Wd a).length (c:Int),())) else none) else none) = _
  simp (disch:=omega) only [wadd,wadd1,wadd64,wsubn,wsub1,wmul64,ilt_t,ilt_f,ile_t,ile_f,igt_t,igt_f,ige_t,ige_f,ipos_t,ipos_f,igt0_t,igt0_f,nnn,beq0_t,beq0_f,bne0_t,bne0_f,Int.toNat_natCast,Int.toNat_zero,cond_true,cond_false,Bool.and_self,Bool.true_and,Bool.and_true,Bool.false_and,Bool.and_false,Bool.not_true,Bool.not_false,Bool.or_self,Bool.true_or,Bool.or_true,Bool.false_or,Bool.or_false,Wd_len,pre173 p1,fun173 p1]
  rfl
theorem T143_eq (l m:List Nat) (hl:Ws l) (hm:Ws m) (hl2:(trimL l).length < 1000000) (hm2:(trimL m).length < 1000000):T143 (Wd l,Wd m,()) = some (Dw (nv (2 ^ 64) l + nv (2 ^ 64) m),()):=by
  show t143 S155.pre S155.F S173.pre S173.F W143_8 (Wd l) (Wd m) = _
  unfold t143
  have p0:=T173_eq l hl.2
  have p1:=T173_eq m hm.2
  have h1:∀ x ∈ trimL l,x < 2 ^ 64:=fun x hx=>hl.1 x (trim_mem hx)
  have h2:∀ x ∈ trimL m,x < 2 ^ 64:=fun x hx=>hm.1 x (trim_mem hx)
  simp only [pre173 p0,fun173 p0,pre173 p1,fun173 p1,cond_true]
  rcases Nat.lt_or_ge (trimL l).length (trimL m).length with h | h
  · rw [Wd_len,Wd_len,ilt_t _ _ h,cond_true]
    have:=add_main (trimL m) (trimL l) h2 h1 hm2 (by omega)
    rw [nv_trim (by decide) hl.1,nv_trim (by decide) hm.1,Nat.add_comm] at this
    exact this
  · rw [Wd_len,Wd_len,ilt_f _ _ h,cond_false]
    have:=add_main (trimL l) (trimL m) h1 h2 hl2 (by omega)
    rw [nv_trim (by decide) hl.1,nv_trim (by decide) hm.1] at this
    exact this
theorem T146_eq (l:List Nat) (hl:Ws l):T146 (Wd l,()) = some (Dw (nv (2 ^ 64) l),()):=by
  show t146 S173.pre S173.F (Wd l) = _
  unfold t146
  have p0:=T173_eq l hl.2
  have hle:=(trim_len l).1
  have h2:=hl.2
  have e3:decide ((((trimL l).length:Nat):Int) * 8 ≤ 140737488355328) = true:=decide_eq_true (by omega)
  simp (disch:=omega) only [wadd,wadd1,wadd64,wsubn,wsub1,wmul64,ilt_t,ilt_f,ile_t,ile_f,igt_t,igt_f,ige_t,ige_f,ipos_t,ipos_f,igt0_t,igt0_f,nnn,beq0_t,beq0_f,bne0_t,bne0_f,Int.toNat_natCast,Int.toNat_zero,cond_true,cond_false,Bool.and_self,Bool.true_and,Bool.and_true,Bool.false_and,Bool.and_false,Bool.not_true,Bool.not_false,Bool.or_self,Bool.true_or,Bool.or_true,Bool.false_or,Bool.or_false,pre173 p0,fun173 p0,Wd_len,e3,List.length_replicate,List.drop_replicate,Nat.sub_self]
  rw [List.take_of_length_le (by rw [Wd_len]; exact Nat.le_refl _),List.replicate_zero,List.append_nil,trim_dg (by decide) l hl.1]
  rfl
theorem T102_eq (l:List Nat) (hl:Ws l):T102 (Wd l,()) = some (Dw (nv (2 ^ 64) l),()):=by
  show t102 S146.pre S146.F (Wd l) = _
  unfold t102
  have p0:=T146_eq l hl
  simp only [pre146 p0,fun146 p0,cond_true]
end VL
namespace VL
open Go Vx
def Wi (n:Nat):Den (.pair (.int .u64) (.pair (.int .u64) .unit)):=(((n / 2 ^ 64:Nat):Int),(((n % 2 ^ 64:Nat):Int),()))
theorem W_le0 (k:Nat) (h:0 < k):decide ((k:Int) ≤ 0) = false:=decide_eq_false (by omega)
theorem aux1 {A q R P:Nat} (g1:A % 2 ^ 64 = R) (g2:q < P) (g4:R + P ≤ 2 ^ 64):(A + q) % 2 ^ 64 = q + R:=by omega
theorem aux2 {X Y r:Nat} (h:X % 2 ^ 64 = Y) (hr:r < 2 ^ 64):(2 ^ 64 * X + r) % 2 ^ 128 = 2 ^ 64 * Y + r:=by omega
theorem T119_eq (n k:Nat) (hn:n < 2 ^ 128):T119 (Wi n,(k:Int),()) = some (Wi (n * 2 ^ k % 2 ^ 128),()):=by
  show t119 (Wi n) k = _
  unfold t119
  rcases Nat.eq_zero_or_pos k with rfl | hk
  · have e:n * 2 ^ 0 % 2 ^ 128 = n:=by rw [Nat.pow_zero,Nat.mul_one,Nat.mod_eq_of_lt hn]
    rw [e]; rfl
  rw [W_le0 k hk,cond_false]
  rcases Nat.lt_or_ge k 128 with h128 | h128
  · rw [show decide ((k:Int) ≥ 128) = false from decide_eq_false (by omega),cond_false]
    have hlo:(n % 2 ^ 64) < 2 ^ 64:=Nat.mod_lt _ (by decide)
    have hhi:n / 2 ^ 64 < 2 ^ 64:=by omega
    have hsplit:n = 2 ^ 64 * (n / 2 ^ 64) + n % 2 ^ 64:=(Nat.div_add_mod n (2 ^ 64)).symm
    rcases Nat.lt_or_ge k 64 with h64 | h64
    · have e8:IntKind.wrap .i64 (64 - (k:Int)) = ((64 - k:Nat):Int):=wsub 64 k (by omega) (by omega)
      rw [show decide ((k:Int) ≥ 64) = false from decide_eq_false (by omega),cond_false,nnn,cond_true,e8,nnn,cond_true,cond_true]
      show some ((orI .u64 (shlI .u64 ((n / 2 ^ 64:Nat):Int) k) (shrI .u64 ((n % 2 ^ 64:Nat):Int) ((64 - k:Nat):Int)),(shlI .u64 ((n % 2 ^ 64:Nat):Int) k,())),()) = _
      rw [shlN _ k (by omega),shlN _ k (by omega),shrN _ (64 - k) (by omega)]
      have hp:=Nat.two_pow_pos k
      have hp2:=Nat.two_pow_pos (64 - k)
      have h2:2 ^ 64 = 2 ^ (64 - k) * 2 ^ k:=by rw [← Nat.pow_add]; congr 1; omega
      generalize n / 2 ^ 64 = hi at *
      generalize n % 2 ^ 64 = lo at *
      have g1:hi * 2 ^ k % 2 ^ 64 = (hi % 2 ^ (64 - k)) * 2 ^ k:=by rw [h2,Nat.mul_mod_mul_right]
      have g2:lo / 2 ^ (64 - k) < 2 ^ k:=by rw [Nat.div_lt_iff_lt_mul hp2,Nat.mul_comm,← h2]; exact hlo
      have g3:hi % 2 ^ (64 - k) + 1 ≤ 2 ^ (64 - k):=Nat.mod_lt _ hp2
      have g4:=Nat.mul_le_mul_right (2 ^ k) g3
      rw [← h2,Nat.add_mul,Nat.one_mul] at g4
      have hor:orI .u64 ((hi * 2 ^ k % 2 ^ 64:Nat):Int) ((lo / 2 ^ (64 - k):Nat):Int) = ((lo / 2 ^ (64 - k) + (hi % 2 ^ (64 - k)) * 2 ^ k:Nat):Int):=by
        have:=orN g2 (b:=hi % 2 ^ (64 - k)) (by omega)
        rw [g1]
        have hc:∀ a b:Nat,a < 2 ^ 64 → b < 2 ^ 64 → orI .u64 (a:Int) (b:Int) = orI .u64 (b:Int) (a:Int):=fun a b ha hb=>by
          rw [orN2 ha hb,orN2 hb ha,Nat.or_comm]
        rw [hc _ _ (by omega) (by omega)]
        exact this
      rw [hor]
      have hdm:=Nat.div_add_mod lo (2 ^ (64 - k))
      have v1:n * 2 ^ k = 2 ^ 64 * (hi * 2 ^ k + lo / 2 ^ (64 - k)) + lo * 2 ^ k % 2 ^ 64:=by
        have g5:lo * 2 ^ k % 2 ^ 64 = (lo % 2 ^ (64 - k)) * 2 ^ k:=by rw [h2,Nat.mul_mod_mul_right]
        have g6:2 ^ 64 * (lo / 2 ^ (64 - k)) = 2 ^ (64 - k) * (lo / 2 ^ (64 - k)) * 2 ^ k:=by
          rw [Nat.mul_right_comm,← h2]
        rw [hsplit,Nat.add_mul,Nat.mul_add,Nat.mul_assoc,Nat.add_assoc,g6,g5,← Nat.add_mul,hdm]
      have v2:n * 2 ^ k % 2 ^ 128 = 2 ^ 64 * (lo / 2 ^ (64 - k) + (hi % 2 ^ (64 - k)) * 2 ^ k) + lo * 2 ^ k % 2 ^ 64:=by
        rw [v1]
        have hlo2:lo * 2 ^ k % 2 ^ 64 < 2 ^ 64:=Nat.mod_lt _ (by decide)
        exact aux2 (aux1 g1 g2 g4) hlo2
      have hlo2:lo * 2 ^ k % 2 ^ 64 < 2 ^ 64:=Nat.mod_lt _ (by decide)
      have e1:n * 2 ^ k % 2 ^ 128 / 2 ^ 64 = lo / 2 ^ (64 - k) + (hi % 2 ^ (64 - k)) * 2 ^ k:=by rw [v2]; omega
      have e2:n * 2 ^ k % 2 ^ 128 % 2 ^ 64 = lo * 2 ^ k % 2 ^ 64:=by rw [v2]; omega
      unfold Wi
      rw [e1,e2]
    · have e8:IntKind.wrap .i64 ((k:Int) - 64) = ((k - 64:Nat):Int):=wsub k 64 (by omega) (by omega)
      rw [show decide ((k:Int) ≥ 64) = true from decide_eq_true (by omega),cond_true,e8,nnn,cond_true]
      show some ((shlI .u64 ((n % 2 ^ 64:Nat):Int) ((k - 64:Nat):Int),((0:Int),())),()) = _
      rw [shlN _ (k - 64) (by omega)]
      have v1:n * 2 ^ k % 2 ^ 128 = 2 ^ 64 * (n % 2 ^ 64 * 2 ^ (k - 64) % 2 ^ 64):=by
        have h2:2 ^ k = 2 ^ (k - 64) * 2 ^ 64:=by rw [← Nat.pow_add]; congr 1; omega
        rw [h2,← Nat.mul_assoc,show 2 ^ 128 = 2 ^ 64 * 2 ^ 64 by decide,Nat.mul_mod_mul_right,Nat.mul_comm _ (2 ^ 64),Nat.mul_mod n (2 ^ (k - 64)),Nat.mul_mod (n % 2 ^ 64) (2 ^ (k - 64)),Nat.mod_mod]
      have e1:n * 2 ^ k % 2 ^ 128 / 2 ^ 64 = n % 2 ^ 64 * 2 ^ (k - 64) % 2 ^ 64:=by rw [v1]; omega
      have e2:n * 2 ^ k % 2 ^ 128 % 2 ^ 64 = 0:=by rw [v1]; omega
      unfold Wi
      rw [e1,e2]
      rfl
  · rw [show decide ((k:Int) ≥ 128) = true from decide_eq_true (by omega),cond_true]
    have e:n * 2 ^ k % 2 ^ 128 = 0:=by
      rw [show k = (k - 128) + 128 by omega,Nat.pow_add,← Nat.mul_assoc]
      exact Nat.mul_mod_left _ _
    rw [e]
    rfl
theorem addF (x y c:Nat):S155.F ((x:Int),((y:Int),((c:Int),()))) = (((((x + y + c) % 2 ^ 64:Nat):Int)),((((x + y + c) / 2 ^ 64:Nat):Int)),()):=rfl
theorem addP (x y:Int) (c:Nat) (h:c ≤ 1):S155.pre (x,(y,((c:Int),()))) = true:=by
  show (decide ((0:Int) ≤ (c:Int)) && decide ((c:Int) ≤ 1)) = true
  rw [decide_eq_true (by omega),decide_eq_true (by omega)]; rfl
theorem subF (x y c:Nat) (h:c ≤ 1) (hx:x < 2 ^ 64) (hy:y < 2 ^ 64):S157.F ((x:Int),((y:Int),((c:Int),()))) = (((((x + 2 ^ 64 - y - c) % 2 ^ 64:Nat):Int)),((if x < y + c then 1 else 0:Nat):Int),()):=by
  show ((((x:Int) - y - c) % 18446744073709551616:Int),((if (x:Int) < y + c then 1 else 0:Int)),()) = _
  have e1:((x:Int) - y - c) % 18446744073709551616 = ((x + 2 ^ 64 - y - c) % 2 ^ 64:Nat):=by omega
  rw [e1]
  by_cases h:x < y + c
  · rw [if_pos h,if_pos (by omega)]; rfl
  · rw [if_neg h,if_neg (by omega)]; rfl
theorem subP (x y:Int) (c:Nat) (h:c ≤ 1):S157.pre (x,(y,((c:Int),()))) = true:=by
  show (decide ((0:Int) ≤ (c:Int)) && decide ((c:Int) ≤ 1)) = true
  rw [decide_eq_true (by omega),decide_eq_true (by omega)]; rfl
theorem T123_eq (n m:Nat):T123 (Wi n,Wi m,()) = some (if n = m then 0 else if n < m then -1 else 1,()):=by
  show t123 (Wi n) (Wi m) = _
  unfold t123
  show (bif (((n / 2 ^ 64:Nat):Int) == ((m / 2 ^ 64:Nat):Int) && ((n % 2 ^ 64:Nat):Int) == ((m % 2 ^ 64:Nat):Int)) then some ((0:Int),())
    else bif (decide (((n / 2 ^ 64:Nat):Int) < ((m / 2 ^ 64:Nat):Int)) || (((n / 2 ^ 64:Nat):Int) == ((m / 2 ^ 64:Nat):Int) && decide (((n % 2 ^ 64:Nat):Int) < ((m % 2 ^ 64:Nat):Int)))) then some ((-1:Int),()) else some ((1:Int),()):Option (Int × Unit)) = _
  rw [nbeq,nbeq,nlt,nlt]
  rcases Nat.lt_trichotomy n m with h | h | h
  · have e1:(n / 2 ^ 64 == m / 2 ^ 64 && n % 2 ^ 64 == m % 2 ^ 64) = false:=by
      rw [Bool.and_eq_false_iff,beq_eq_false_iff_ne,beq_eq_false_iff_ne]; omega
    have e2:(decide (n / 2 ^ 64 < m / 2 ^ 64) || (n / 2 ^ 64 == m / 2 ^ 64 && decide (n % 2 ^ 64 < m % 2 ^ 64))) = true:=by
      rw [Bool.or_eq_true,Bool.and_eq_true,decide_eq_true_eq,decide_eq_true_eq,beq_iff_eq]; omega
    rw [e1,e2,if_neg (by omega),if_pos h]; rfl
  · subst h
    rw [if_pos rfl]
    simp
  · have e1:(n / 2 ^ 64 == m / 2 ^ 64 && n % 2 ^ 64 == m % 2 ^ 64) = false:=by
      rw [Bool.and_eq_false_iff,beq_eq_false_iff_ne,beq_eq_false_iff_ne]; omega
    have e2:(decide (n / 2 ^ 64 < m / 2 ^ 64) || (n / 2 ^ 64 == m / 2 ^ 64 && decide (n % 2 ^ 64 < m % 2 ^ 64))) = false:=by
      rw [Bool.or_eq_false_iff,Bool.and_eq_false_iff,decide_eq_false_iff_not,decide_eq_false_iff_not,beq_eq_false_iff_ne]; omega
    rw [e1,e2,if_neg (by omega),if_neg (by omega)]; rfl
end VL
namespace VL
open Go Vx
def furM (m:Int) (neg odd:Bool) (rest:Nat):Bool :=
  if m = 4 then neg else if m = 3 then !neg else if m = 0 then (if rest = 2 then odd else decide (2 ≤ rest)) else if m = 1 then decide (2 ≤ rest) else if m = 5 then !odd else false
theorem ibeq_f (a b:Int) (h:a ≠ b):(a == b) = false:=by simp [h]
theorem T177_eq (m:Int) (neg odd:Bool) (rest:Nat):T177 (m,neg,odd,(rest:Int),()) = some (furM m neg odd rest,()):=by
  show t177 m neg odd (rest:Int) = _
  have e2:decide ((rest:Int) ≥ 2) = decide (2 ≤ rest):=by rw [Bool.eq_iff_iff,decide_eq_true_eq,decide_eq_true_eq]; omega
  have e3:((rest:Int) == 2) = decide (rest = 2):=by rw [Bool.eq_iff_iff,decide_eq_true_eq,beq_iff_eq]; omega
  unfold t177 furM
  rw [e2,e3]
  by_cases h4:m = 4
  · subst h4; cases neg <;> rfl
  rw [ibeq_f m 4 h4,cond_false,if_neg h4]
  by_cases h3:m = 3
  · subst h3; rfl
  rw [ibeq_f m 3 h3,cond_false,if_neg h3]
  by_cases h0:m = 0
  · subst h0
    by_cases hr:rest = 2
    · subst hr; rfl
    · rw [decide_eq_false hr,if_pos rfl,if_neg hr]; rfl
  rw [ibeq_f m 0 h0,cond_false,if_neg h0]
  by_cases h1:m = 1
  · subst h1; rfl
  rw [ibeq_f m 1 h1,cond_false,if_neg h1]
  by_cases h5:m = 5
  · subst h5; rfl
  rw [ibeq_f m 5 h5,cond_false,if_neg h5]
def quoE (n:Nat) (e q:Int):Nat:=if q ≤ e then n * 2 ^ (e - q).toNat else n / 2 ^ (q - e).toNat
def clsR (r s:Nat):Nat:=if r = 0 then 0 else if r < 2 ^ (s - 1) then 1 else if r = 2 ^ (s - 1) then 2 else 3
def rstE (n:Nat) (e q:Int):Nat:=if q ≤ e then 0 else clsR (n % 2 ^ (q - e).toNat) (q - e).toNat
def j4 (n:Nat) (e q:Int):Nat:=if 2 ≤ q - e then jamN n (q - e - 2).toNat else n * 2 ^ (2 - (q - e)).toNat
theorem j4_eq (n:Nat) (e q:Int):j4 n e q / 4 = quoE n e q ∧ j4 n e q % 4 = rstE n e q:=by
  unfold j4 quoE rstE
  by_cases h2:2 ≤ q - e
  · rw [if_pos h2,if_neg (by omega),if_neg (by omega)]
    have es:(q - e).toNat = (q - e - 2).toNat + 2:=by omega
    rw [es]
    generalize (q - e - 2).toNat = s
    have hp:=Nat.two_pow_pos s
    have e1:2 ^ (s + 2) = 2 ^ s * 4:=by rw [Nat.pow_add]
    have e2:2 ^ (s + 2 - 1) = 2 ^ s * 2:=by rw [show s + 2 - 1 = s + 1 by omega,Nat.pow_succ]
    unfold jamN clsR
    rw [e2,e1,← Nat.div_div_eq_div_mul,Nat.mod_mul]
    have hr:=Nat.mod_lt n hp
    generalize n % 2 ^ s = r at *
    generalize n / 2 ^ s = u at *
    have h4:u % 4 = 0 ∨ u % 4 = 1 ∨ u % 4 = 2 ∨ u % 4 = 3:=by omega
    constructor
    · split <;> omega
    · rcases h4 with h | h | h | h <;> rw [h] <;> by_cases hz:r = 0
      · rw [if_pos hz,if_pos (by omega)]; exact h
      · rw [if_neg hz,if_neg (by omega),if_pos (by omega)]; omega
      · rw [if_pos hz,if_neg (by omega),if_pos (by omega)]; exact h
      · rw [if_neg hz,if_neg (by omega),if_pos (by omega)]; omega
      · rw [if_pos hz,if_neg (by omega),if_neg (by omega),if_pos (by omega)]; exact h
      · rw [if_neg hz,if_neg (by omega),if_neg (by omega),if_neg (by omega)]; omega
      · rw [if_pos hz,if_neg (by omega),if_neg (by omega),if_neg (by omega)]; exact h
      · rw [if_neg hz,if_neg (by omega),if_neg (by omega),if_neg (by omega)]; omega
  · rw [if_neg h2]
    by_cases h1:q ≤ e
    · rw [if_pos h1,if_pos h1,show (2 - (q - e)).toNat = (e - q).toNat + 2 by omega,Nat.pow_add,← Nat.mul_assoc]
      generalize n * 2 ^ (e - q).toNat = x
      omega
    · rw [if_neg h1,if_neg h1,show (2 - (q - e)).toNat = 1 by omega,show (q - e).toNat = 1 by omega]
      unfold clsR
      rcases Nat.mod_two_eq_zero_or_one n with h | h
      · rw [show n % 2 ^ 1 = 0 from h,if_pos rfl]; omega
      · rw [show n % 2 ^ 1 = 1 from h,if_neg (by omega),if_neg (by decide),if_pos (by decide)]; omega
def cutR (n:Nat) (e q:Int) (more:Bool):Nat:=if more then rstE n e q / 2 * 2 + 1 else rstE n e q
def cutN (m:Int) (neg:Bool) (n:Nat) (e q:Int) (more:Bool):Nat :=
  if cutR n e q more ≠ 0 ∧ furM m neg (decide (quoE n e q % 2 = 1)) (cutR n e q more) = true then quoE n e q + 1 else quoE n e q
theorem Dw_zero:Dw 0 = []:=by unfold Dw; rw [dg_zero]; rfl
theorem Dw_len {n:Nat} (h:n ≠ 0):0 < (Dw n).length:=by
  unfold Dw; rw [Wd_len,dg_pos (by decide) (by omega)]; simp
theorem Dw_len_gt {n:Nat} (h:n ≠ 0):decide ((((Dw n).length:Nat):Int) > 0) = true:=decide_eq_true (by have:=Dw_len h; omega)
theorem Dw_len_pos {n:Nat} (h:n ≠ 0):decide ((0:Int) < (((Dw n).length:Nat):Int)) = true:=decide_eq_true (by have:=Dw_len h; omega)
theorem Dw_get (n:Nat):(Dw n).getD 0 0 = ((n % 2 ^ 64:Nat):Int):=by
  unfold Dw; rw [Wd_getD]
  rcases Nat.eq_zero_or_pos n with rfl | h
  · rw [dg_zero]; rfl
  · rw [dg_pos (by decide) h]; rfl
theorem Dw_one:Dw 1 = (1:Int) :: []:=by
  unfold Dw; rw [dg_pos (by decide) (by decide),dg_zero]; rfl
theorem Dw_guard (n:Nat):(decide ((0:Int) < (((Dw n).length:Nat):Int)) || !decide ((((Dw n).length:Nat):Int) > 0)) = true:=by
  by_cases h:0 < (Dw n).length
  · rw [decide_eq_true (by omega)]; rfl
  · rw [decide_eq_false (p:=(((Dw n).length:Nat):Int) > 0) (by omega)]; simp
theorem and3 (n:Nat):andI .u64 ((n % 2 ^ 64:Nat):Int) 3 = ((n % 4:Nat):Int):=by
  have:=andI_mask (m:=n % 2 ^ 64) (n:=2) (Nat.mod_lt _ (by decide)) (by decide)
  rw [show n % 2 ^ 64 % 2 ^ 2 = n % 4 by omega] at this
  exact this
theorem and1 (n:Nat):andI .u64 ((n % 2 ^ 64:Nat):Int) 1 = ((n % 2:Nat):Int):=by
  have:=andI_mask (m:=n % 2 ^ 64) (n:=1) (Nat.mod_lt _ (by decide)) (by decide)
  rw [show n % 2 ^ 64 % 2 ^ 1 = n % 2 by omega] at this
  exact this
theorem or1 (n:Nat) (h:n < 2 ^ 64):orI .u64 (n:Int) 1 = ((n / 2 * 2 + 1:Nat):Int):=by
  have:=orN2 (a:=n) (b:=1) h (by decide)
  rw [or_one] at this
  exact this
theorem or01:orI .u64 0 1 = 1:=by decide
theorem odd_guard (u:Nat):(decide ((((Dw u).length:Nat):Int) > 0) && (andI .u64 ((Dw u).getD 0 0) 1 == 1)) = decide (u % 2 = 1):=by
  rw [Dw_get,and1]
  rcases Nat.eq_zero_or_pos u with rfl | h
  · rw [Dw_zero]; rfl
  · rw [Dw_len_gt (by omega),Bool.true_and,Bool.eq_iff_iff,decide_eq_true_eq,beq_iff_eq]; omega
theorem Dw_ws {n:Nat} (h:n < (2 ^ 64) ^ 5000):Ws (dg (2 ^ 64) n):=by
  have:=dg_len_le (B:=2 ^ 64) (by decide) 5000 n h
  exact dg_ws n (by omega)
theorem nv_Dw (n:Nat):nv (2 ^ 64) (dg (2 ^ 64) n) = n:=nv_dg (by decide) n
theorem shr2 {j:Nat} (hj:Ws (dg (2 ^ 64) j)):T141 (Dw j,(2:Int),()) = some (Dw (j / 4),0,()):=by
  have:=T141_eq (dg (2 ^ 64) j) hj 2 (by decide)
  rw [nv_Dw] at this
  exact this
theorem add1 {u:Nat} (hu:Ws (dg (2 ^ 64) u)) (hl:(dg (2 ^ 64) u).length < 1000000):T143 (Dw u,((1:Int) :: []),()) = some (Dw (u + 1),()):=by
  have:=T143_eq (dg (2 ^ 64) u) [1] hu ⟨by simp,by simp⟩ (by rw [dg_trim (by decide)]; exact hl) (by simp [trimL])
  rw [nv_Dw,show nv (2 ^ 64) [1] = 1 by rfl] at this
  exact this
theorem rest_lt (n:Nat) (e q:Int):rstE n e q < 4:=by rw [← (j4_eq n e q).2]; exact Nat.mod_lt _ (by decide)
end VL
namespace VL
open Go Vx
theorem gt00:decide ((0:Int) > 0) = false:=rfl
theorem T150_eq (m:Int) (neg:Bool) (n:Nat) (e q:Int) (more:Bool) (hn:n < (2 ^ 64) ^ 2000) (hq:q - e ≤ 10000000) (he:-1000000000 ≤ e ∧ e ≤ 1000000000) (hqb:-1000000000 ≤ q ∧ q ≤ 1000000000)
    (hs:q - e < 2 → 2 - (q - e) ≤ 65536 ∧ n * 2 ^ (2 - (q - e)).toNat < (2 ^ 64) ^ 1024) :
    T150 ((neg,Dw n,e,more,()),m,q,()) = some (Dw (cutN m neg n e q more),decide (cutR n e q more ≠ 0),()):=by
  show t150 _ _ _ _ _ _ _ _ _ _ (neg,Dw n,e,more,()) m q = _
  unfold t150
  have hnw:Ws (dg (2 ^ 64) n):=Dw_ws (Nat.lt_trans hn (Nat.pow_lt_pow_right (by decide) (by decide)))
  have e0:IntKind.wrap .i64 (q - e) = q - e:=wrapI (by omega)
  have hj4:=j4_eq n e q
  dsimp only
  rw [e0]
  by_cases h2:2 ≤ q - e
  · rw [show decide (q - e ≥ 2) = true from decide_eq_true h2,cond_true]
    obtain ⟨s,hs⟩:=Int.eq_ofNat_of_zero_le (show 0 ≤ q - e - 2 by omega)
    have e1:IntKind.wrap .i64 (q - e - 2) = (s:Int):=by rw [wrapI (by omega)]; exact hs
    have hj:j4 n e q = jamN n s:=by unfold j4; rw [if_pos h2]; congr 1; omega
    rw [hj] at hj4
    have hjn:jamN n s ≤ n + 1:=by
      unfold jamN
      have:=Nat.div_le_self n (2 ^ s)
      split <;> omega
    have p0:=T175_eq (dg (2 ^ 64) n) hnw s (by omega)
    rw [nv_Dw] at p0
    have hjl:jamN n s < (2 ^ 64) ^ 5000:=by
      have h1:(2 ^ 64) ^ 2000 < (2 ^ 64) ^ 5000:=Nat.pow_lt_pow_right (by decide) (by decide)
      generalize (2 ^ 64) ^ 2000 = A at *
      generalize (2 ^ 64) ^ 5000 = B at *
      omega
    clear hj
    generalize jamN n s = j at *
    have hj:Ws (dg (2 ^ 64) j):=Dw_ws hjl
    rw [e1]
    have p0:T175 (Dw n,(s:Int),()) = some (Dw j,0,()):=p0

    have p1:=shr2 hj
    have hu:Ws (dg (2 ^ 64) (j / 4)):=Dw_ws (Nat.lt_of_le_of_lt (Nat.div_le_self _ _) hjl)
    have hul:=dg_len_le (B:=2 ^ 64) (by decide) 5000 (j / 4) (Nat.lt_of_le_of_lt (Nat.div_le_self _ _) hjl)
    have p3:=add1 hu (by omega)
    have h4:j % 4 < 4:=Nat.mod_lt _ (by decide)
    unfold cutN cutR
    rw [← hj4.1,← hj4.2]
    rcases Nat.eq_zero_or_pos j with hj0 | hj0
    · subst hj0
      have pz:T141 ([],(2:Int),()) = some (Dw (0 / 4),0,()):=by rw [← Dw_zero]; exact p1
      cases more with
      | true =>
        have p2:T177 (m,neg,decide (0 / 4 % 2 = 1),(1:Int),()) = some (furM m neg (decide (0 / 4 % 2 = 1)) 1,()):=T177_eq m neg _ 1
        simp only [pre175 p0,fun175 p0,cond_true,Dw_zero,List.length_nil,igt0_f,Int.natCast_zero,cond_false,Int.toNat_zero,gt00,or01,pre141 pz,fun141 pz,Dw_guard,odd_guard,pre177 p2,fun177 p2,Bool.true_or,Bool.or_true,Bool.true_and]
        cases hf:furM m neg (decide (0 / 4 % 2 = 1)) 1 with
        | true=>simp only [cond_true,pre143 p3,fun143 p3]; have hf:furM m neg false 1 = true:=hf; simp [hf]
        | false=>simp only [cond_false]; have hf:furM m neg false 1 = false:=hf; simp [hf]
      | false =>
        simp only [pre175 p0,fun175 p0,cond_true,Dw_zero,List.length_nil,Int.natCast_zero,cond_false,Int.toNat_zero,gt00,pre141 pz,fun141 pz,Dw_guard,Bool.or_true]
        simp
    · have hjn:j ≠ 0:=by omega
      cases more with
      | true =>
        have p2:=T177_eq m neg (decide (j / 4 % 2 = 1)) (j % 4 / 2 * 2 + 1)
        have hr:j % 4 / 2 * 2 + 1 ≠ 0:=by omega
        simp only [pre175 p0,fun175 p0,cond_true,Dw_len_gt hjn,Dw_len_pos hjn,Int.toNat_zero,Dw_get j,and3,or1 (j % 4) (by omega),pre141 p1,fun141 p1,Dw_guard,odd_guard,pre177 p2,fun177 p2,Bool.true_or,Bool.or_true,bne0_t _ hr,Bool.true_and]
        cases hf:furM m neg (decide (j / 4 % 2 = 1)) (j % 4 / 2 * 2 + 1) with
        | true=>simp only [cond_true,pre143 p3,fun143 p3]; simp [hf]
        | false=>simp only [cond_false]; simp [hf]
      | false =>
        have p2:=T177_eq m neg (decide (j / 4 % 2 = 1)) (j % 4)
        simp only [pre175 p0,fun175 p0,cond_true,cond_false,Dw_len_gt hjn,Dw_len_pos hjn,Int.toNat_zero,Dw_get j,and3,pre141 p1,fun141 p1,Dw_guard,odd_guard,pre177 p2,fun177 p2,Bool.true_or,Bool.or_true]
        rcases Nat.eq_zero_or_pos (j % 4) with hz | hz
        · rw [bne0_f _ hz,Bool.false_and,cond_false]
          simp [hz]
        · have hr:j % 4 ≠ 0:=by omega
          rw [bne0_t _ hr,Bool.true_and]
          cases hf:furM m neg (decide (j / 4 % 2 = 1)) (j % 4) with
          | true=>simp only [cond_true,pre143 p3,fun143 p3]; simp [hf,hr]
          | false=>simp only [cond_false]; simp [hf,hr]
  · rw [show decide (q - e ≥ 2) = false from decide_eq_false h2,cond_false]
    obtain ⟨s,hse⟩:=Int.eq_ofNat_of_zero_le (show 0 ≤ 2 - (q - e) by omega)
    have e1:IntKind.wrap .i64 (2 - (q - e)) = (s:Int):=by rw [wrapI (by omega)]; exact hse
    have hj:j4 n e q = n * 2 ^ s:=by unfold j4; rw [if_neg h2]; congr 2; omega
    rw [hj] at hj4
    obtain ⟨hs1,hs2⟩:=hs (by omega)
    rw [show (2 - (q - e)).toNat = s by omega] at hs2
    have p0:=T176_eq (dg (2 ^ 64) n) hnw s (by omega) (by rw [nv_Dw]; exact hs2)
    rw [nv_Dw] at p0
    have hjl:n * 2 ^ s < (2 ^ 64) ^ 5000:=Nat.lt_trans hs2 (Nat.pow_lt_pow_right (by decide) (by decide))
    clear hj
    generalize n * 2 ^ s = j at *
    have hj:Ws (dg (2 ^ 64) j):=Dw_ws hjl
    rw [e1]
    have p0:T176 (Dw n,(s:Int),()) = some (Dw j,0,()):=p0

    have p1:=shr2 hj
    have hu:Ws (dg (2 ^ 64) (j / 4)):=Dw_ws (Nat.lt_of_le_of_lt (Nat.div_le_self _ _) hjl)
    have hul:=dg_len_le (B:=2 ^ 64) (by decide) 5000 (j / 4) (Nat.lt_of_le_of_lt (Nat.div_le_self _ _) hjl)
    have p3:=add1 hu (by omega)
    have h4:j % 4 < 4:=Nat.mod_lt _ (by decide)
    unfold cutN cutR
    rw [← hj4.1,← hj4.2]
    rcases Nat.eq_zero_or_pos j with hj0 | hj0
    · subst hj0
      have pz:T141 ([],(2:Int),()) = some (Dw (0 / 4),0,()):=by rw [← Dw_zero]; exact p1
      cases more with
      | true =>
        have p2:T177 (m,neg,decide (0 / 4 % 2 = 1),(1:Int),()) = some (furM m neg (decide (0 / 4 % 2 = 1)) 1,()):=T177_eq m neg _ 1
        simp only [pre176 p0,fun176 p0,cond_true,Dw_zero,List.length_nil,igt0_f,Int.natCast_zero,cond_false,Int.toNat_zero,gt00,or01,pre141 pz,fun141 pz,Dw_guard,odd_guard,pre177 p2,fun177 p2,Bool.true_or,Bool.or_true,Bool.true_and]
        cases hf:furM m neg (decide (0 / 4 % 2 = 1)) 1 with
        | true=>simp only [cond_true,pre143 p3,fun143 p3]; have hf:furM m neg false 1 = true:=hf; simp [hf]
        | false=>simp only [cond_false]; have hf:furM m neg false 1 = false:=hf; simp [hf]
      | false =>
        simp only [pre176 p0,fun176 p0,cond_true,Dw_zero,List.length_nil,Int.natCast_zero,cond_false,Int.toNat_zero,gt00,pre141 pz,fun141 pz,Dw_guard,Bool.or_true]
        simp
    · have hjn:j ≠ 0:=by omega
      cases more with
      | true =>
        have p2:=T177_eq m neg (decide (j / 4 % 2 = 1)) (j % 4 / 2 * 2 + 1)
        have hr:j % 4 / 2 * 2 + 1 ≠ 0:=by omega
        simp only [pre176 p0,fun176 p0,cond_true,Dw_len_gt hjn,Dw_len_pos hjn,Int.toNat_zero,Dw_get j,and3,or1 (j % 4) (by omega),pre141 p1,fun141 p1,Dw_guard,odd_guard,pre177 p2,fun177 p2,Bool.true_or,Bool.or_true,bne0_t _ hr,Bool.true_and]
        cases hf:furM m neg (decide (j / 4 % 2 = 1)) (j % 4 / 2 * 2 + 1) with
        | true=>simp only [cond_true,pre143 p3,fun143 p3]; simp [hf]
        | false=>simp only [cond_false]; simp [hf]
      | false =>
        have p2:=T177_eq m neg (decide (j / 4 % 2 = 1)) (j % 4)
        simp only [pre176 p0,fun176 p0,cond_true,cond_false,Dw_len_gt hjn,Dw_len_pos hjn,Int.toNat_zero,Dw_get j,and3,pre141 p1,fun141 p1,Dw_guard,odd_guard,pre177 p2,fun177 p2,Bool.true_or,Bool.or_true]
        rcases Nat.eq_zero_or_pos (j % 4) with hz | hz
        · rw [bne0_f _ hz,Bool.false_and,cond_false]
          simp [hz]
        · have hr:j % 4 ≠ 0:=by omega
          rw [bne0_t _ hr,Bool.true_and]
          cases hf:furM m neg (decide (j / 4 % 2 = 1)) (j % 4) with
          | true=>simp only [cond_true,pre143 p3,fun143 p3]; simp [hf,hr]
          | false=>simp only [cond_false]; simp [hf,hr]
end VL
namespace VL
open Go Vx
def sgnF (f:Int) (neg:Bool):Nat:=if neg then 2 ^ (fW f - 1) else 0
def infB (f:Int) (neg:Bool):Nat:=(2 ^ (fW f - fP f) - 1) * 2 ^ (fP f - 1) + sgnF f neg
def upw (m:Int) (neg:Bool):Bool:=((m == 0 || m == 1) || (m == 3 && !neg)) || (m == 4 && neg)
def beyB (f m:Int) (neg:Bool):Nat:=if upw m neg then infB f neg else infB f neg - 1
theorem T97_ok {f:Int} (h:Fm f) (neg:Bool):T97 (f,neg,()) = some ((infB f neg:Int),0,()):=by
  rcases Fm_cases h with rfl | rfl | rfl | rfl <;> cases neg <;> kernel_rfl
theorem T43_ok {f:Int} (h:Fm f) (neg:Bool):T43 (f,neg,()) = some (((infB f neg - 1:Nat):Int),0,()):=by
  rcases Fm_cases h with rfl | rfl | rfl | rfl <;> cases neg <;> kernel_rfl
theorem T118_ok {f:Int} (h:Fm f) (neg:Bool):T118 (f,neg,()) = some ((sgnF f neg:Int),0,()):=by
  rcases Fm_cases h with rfl | rfl | rfl | rfl <;> cases neg <;> kernel_rfl
theorem T149_eq {f:Int} (h:Fm f) (m:Int) (neg:Bool):T149 (f,m,neg,()) = some ((beyB f m neg:Int),()):=by
  show t149 S97.pre S97.F S43.pre S43.F f m neg = _
  have p0:=T97_ok h neg
  have p1:=T43_ok h neg
  unfold t149 beyB
  show (bif upw m neg then (bif S97.pre (f,neg,()) then some ((S97.F (f,neg,())).1,()) else none) else (bif S43.pre (f,neg,()) then some ((S43.F (f,neg,())).1,()) else none)) = _
  rw [pre97 p0,fun97 p0,pre43 p1,fun43 p1]
  cases upw m neg <;> rfl
def topE (n:Nat) (e:Int):Int:=e + (blen n:Int) - 1
theorem blen_bound {n k:Nat} (h:n < 2 ^ k):blen n ≤ k:=by
  rcases Nat.eq_zero_or_pos n with rfl | hn
  · exact Nat.zero_le _
  · have:=blen_le (n:=n) (by omega)
    have:blen n - 1 < k:=(Nat.pow_lt_pow_iff_right (a:=2) (by decide)).1 (Nat.lt_of_le_of_lt this h)
    omega
theorem blen_pos {n:Nat} (h:n ≠ 0):1 ≤ blen n:=by unfold blen; rw [if_neg h]; omega
theorem big_blen {n:Nat} (h:n < (2 ^ 64) ^ 2000):blen n ≤ 128000:=by
  apply blen_bound
  rw [pow64] at h
  exact h
theorem T151_Dw {n:Nat} (h:n < (2 ^ 64) ^ 5000):T151 (Dw n,()) = some ((blen n:Int),()):=by
  have:=T151_eq _ (Dw_ws h)
  rw [nv_Dw] at this
  exact this
theorem lt5000 {n:Nat} (h:n < (2 ^ 64) ^ 2000):n < (2 ^ 64) ^ 5000:=Nat.lt_trans h (Nat.pow_lt_pow_right (by decide) (by decide))
theorem T148_eq (neg:Bool) (n:Nat) (e:Int) (more:Bool) (hn:n < (2 ^ 64) ^ 2000) (he:-1000000 ≤ e ∧ e ≤ 1000000):T148 ((neg,Dw n,e,more,()),()) = some (topE n e,()):=by
  show t148 S151.pre S151.F (neg,Dw n,e,more,()) = _
  unfold t148
  have p0:=T151_Dw (lt5000 hn)
  have hb:=big_blen hn
  simp only [pre151 p0,fun151 p0,cond_true]
  rw [wrapI (n:=e + (blen n:Int)) (by omega),wrapI (by omega)]
  rfl
theorem quo_lt {n:Nat} {e q:Int} {p:Nat} (h:topE n e - p + 1 ≤ q):quoE n e q < 2 ^ p:=by
  unfold topE at h
  unfold quoE
  have hb:=blen_lt n
  by_cases hq:q ≤ e
  · rw [if_pos hq]
    have h1:n * 2 ^ (e - q).toNat < 2 ^ blen n * 2 ^ (e - q).toNat:=Nat.mul_lt_mul_of_pos_right hb (Nat.two_pow_pos _)
    rw [← Nat.pow_add] at h1
    exact Nat.lt_of_lt_of_le h1 (Nat.pow_le_pow_right (by decide) (by omega))
  · rw [if_neg hq,Nat.div_lt_iff_lt_mul (Nat.two_pow_pos _),← Nat.pow_add]
    exact Nat.lt_of_lt_of_le hb (Nat.pow_le_pow_right (by decide) (by omega))
theorem cut_le {m:Int} {neg:Bool} {n:Nat} {e q:Int} {more:Bool} {p:Nat} (h:topE n e - p + 1 ≤ q):cutN m neg n e q more ≤ 2 ^ p:=by
  have:=quo_lt h
  unfold cutN
  split <;> omega
theorem T150_ok (m:Int) (neg:Bool) (n:Nat) (e q:Int) (more:Bool) (hn:n < (2 ^ 64) ^ 2000) (he:-1000000 ≤ e ∧ e ≤ 1000000) {p:Nat} (hp:p ≤ 60) (h1:topE n e - p + 1 ≤ q) (h2:q ≤ topE n e ∨ q ≤ 1000) :
    T150 ((neg,Dw n,e,more,()),m,q,()) = some (Dw (cutN m neg n e q more),decide (cutR n e q more ≠ 0),()):=by
  have hb:=big_blen hn
  unfold topE at h1 h2
  refine T150_eq m neg n e q more hn (by omega) (by omega) (by omega) fun hs=>?_
  refine ⟨by omega,?_⟩
  have hl:=blen_lt n
  have h3:n * 2 ^ (2 - (q - e)).toNat < 2 ^ blen n * 2 ^ (2 - (q - e)).toNat:=Nat.mul_lt_mul_of_pos_right hl (Nat.two_pow_pos _)
  rw [← Nat.pow_add] at h3
  rw [pow64]
  exact Nat.lt_of_lt_of_le h3 (Nat.pow_le_pow_right (by decide) (by omega))
theorem T152_eq (neg:Bool) (n:Nat) (e:Int) (more:Bool) (f m:Int) (hf:Fm f) (hn:n < (2 ^ 64) ^ 2000) (he:-1000000 ≤ e ∧ e ≤ 1000000) :
    T152 ((neg,Dw n,e,more,()),rowOf f,m,topE n e,()) = some (decide (topE n e < 1 - (fX f:Int) ∧ topE n e - fP f + blen (cutN m neg n e (topE n e - fP f + 1) more) < 1 - (fX f:Int)),()):=by
  show t152 S150.pre S150.F S151.pre S151.F (neg,Dw n,e,more,()) ((fW f:Int),((fP f:Int),((1 - (fX f:Int)),((fX f:Int),())))) m (topE n e) = _
  unfold t152
  have hb:=big_blen hn
  have hp:=fP_lt hf
  have hw:=fW_le hf
  have hx:=fX_le hf
  have hp8:=fP_ge hf
  have ht:topE n e = e + (blen n:Int) - 1:=rfl
  have p0:=T150_ok m neg n e (topE n e - fP f + 1) more hn he (p:=fP f) (by omega) (by omega) (by omega)
  have hc:=cut_le (m:=m) (neg:=neg) (more:=more) (n:=n) (e:=e) (q:=topE n e - fP f + 1) (p:=fP f) (by omega)
  generalize cutN m neg n e (topE n e - fP f + 1) more = u at *
  have hu:u < (2 ^ 64) ^ 5000:=by
    rw [pow64]
    exact Nat.lt_of_le_of_lt hc (Nat.pow_lt_pow_right (by decide) (by omega))
  have hub:blen u ≤ fP f + 1:=blen_bound (Nat.lt_of_le_of_lt hc (Nat.pow_lt_pow_right (by decide) (by omega)))
  have p1:=T151_Dw hu
  have e1:IntKind.wrap .i64 (topE n e - (fP f:Int)) = topE n e - (fP f:Int):=wrapI (by omega)
  have e2:IntKind.wrap .i64 (topE n e - (fP f:Int) + 1) = topE n e - (fP f:Int) + 1:=wrapI (by omega)
  have e3:IntKind.wrap .i64 (topE n e - (fP f:Int) + (blen u:Int)) = topE n e - (fP f:Int) + (blen u:Int):=wrapI (by omega)
  dsimp only
  rw [e1,e2]
  by_cases h:topE n e ≥ 1 - (fX f:Int)
  · rw [decide_eq_true h,cond_true,decide_eq_false (by omega)]
  · rw [decide_eq_false h,cond_false]
    simp only [pre150 p0,fun150 p0,cond_true,pre151 p1,fun151 p1,e3]
    have:(topE n e < 1 - (fX f:Int)):=by omega
    simp only [this,true_and]
end VL
namespace VL
open Go Vx
def lowE (f:Int) (t:Int):Int:=(if 1 - (fX f:Int) > t then 1 - (fX f:Int) else t) - fP f + 1
def isTiny (f m:Int) (neg:Bool) (n:Nat) (e:Int) (more:Bool):Prop:=topE n e < 1 - (fX f:Int) ∧ topE n e - fP f + blen (cutN m neg n e (topE n e - fP f + 1) more) < 1 - (fX f:Int)
instance (f m:Int) (neg:Bool) (n:Nat) (e:Int) (more:Bool):Decidable (isTiny f m neg n e more):=by unfold isTiny; infer_instance
def rndN (f m:Int) (neg:Bool) (n:Nat) (e:Int) (more:Bool):Nat × Nat :=
  if topE n e > fX f then (beyB f m neg,20)
  else
    let q:=lowE f (topE n e)
    let u:=cutN m neg n e q more
    if q + blen u - 1 > fX f then (beyB f m neg,20)
    else ((q - (1 - (fX f:Int) - fP f + 1)).toNat * 2 ^ (fP f - 1) + u + sgnF f neg,
      if cutR n e q more = 0 then 0 else if isTiny f m neg n e more then 24 else 16)
theorem half_eq {f:Int} (hf:Fm f):(2 * fX f - 1) * 2 ^ (fP f - 1) + 2 ^ fP f + 2 ^ (fP f - 1) = 2 ^ (fW f - 1):=by
  rcases Fm_cases hf with rfl | rfl | rfl | rfl <;> decide
theorem fX_ge {f:Int} (hf:Fm f):15 ≤ fX f:=by
  rcases Fm_cases hf with rfl | rfl | rfl | rfl <;> decide
theorem T107_eq (neg:Bool) (n:Nat) (e:Int) (more:Bool) (f m:Int) (hf:Fm f) (hn:n < (2 ^ 64) ^ 2000) (he:-1000000 ≤ e ∧ e ≤ 1000000) :
    T107 ((neg,Dw n,e,more,()),f,rowOf f,m,()) = some (((rndN f m neg n e more).1:Int),((rndN f m neg n e more).2:Int),()):=by
  show t107 _ _ _ _ _ _ _ _ _ _ (neg,Dw n,e,more,()) f ((fW f:Int),((fP f:Int),((1 - (fX f:Int)),((fX f:Int),())))) m = _
  unfold t107 rndN
  have hb:=big_blen hn
  have hp:=fP_lt hf
  have hp8:=fP_ge hf
  have hw:=fW_le hf
  have hx:=fX_le hf
  have hx15:=fX_ge hf
  have ht:topE n e = e + (blen n:Int) - 1:=rfl
  have pt:=T148_eq neg n e more hn he
  have pb:=T149_eq hf m neg
  have py:=T152_eq neg n e more f m hf hn he
  have hrow:rowOf f = ((fW f:Int),((fP f:Int),((1 - (fX f:Int)),((fX f:Int),())))):=rfl
  rw [hrow] at py
  simp only [pre148 pt,fun148 pt,cond_true]
  by_cases h1:topE n e > (fX f:Int)
  · rw [if_pos h1,decide_eq_true h1,cond_true]
    simp only [pre149 pb,fun149 pb,cond_true]
    rfl
  rw [if_neg h1,decide_eq_false h1,cond_false]
  have hM:∃ M:Int,(if 1 - (fX f:Int) > topE n e then 1 - (fX f:Int) else topE n e) = M ∧ topE n e ≤ M ∧ 1 - (fX f:Int) ≤ M ∧ M ≤ fX f ∧ (M = topE n e ∨ M = 1 - (fX f:Int)):=by
    refine ⟨_,rfl,?_⟩
    split <;> omega
  obtain ⟨M,hMe,m1,m2,m3,m4⟩:=hM
  have hq:lowE f (topE n e) = M - fP f + 1:=by unfold lowE; rw [hMe]
  simp only [hMe,hq]
  have e1:IntKind.wrap .i64 (M - (fP f:Int)) = M - (fP f:Int):=wrapI (by omega)
  have e2:IntKind.wrap .i64 (M - (fP f:Int) + 1) = M - (fP f:Int) + 1:=wrapI (by omega)
  simp only [e1,e2]
  have p0:=T150_ok m neg n e (M - (fP f:Int) + 1) more hn he (p:=fP f) (by omega) (by omega) (by omega)
  have hc:=cut_le (m:=m) (neg:=neg) (more:=more) (n:=n) (e:=e) (q:=M - (fP f:Int) + 1) (p:=fP f) (by omega)
  generalize cutN m neg n e (M - (fP f:Int) + 1) more = u at *
  generalize cutR n e (M - (fP f:Int) + 1) more = r at *
  have hP60:2 ^ fP f ≤ 2 ^ 60:=Nat.pow_le_pow_right (by decide) (by omega)
  have hu:u < (2 ^ 64) ^ 5000:=by
    rw [pow64]
    exact Nat.lt_of_le_of_lt hc (Nat.pow_lt_pow_right (by decide) (by omega))
  have hub:blen u ≤ fP f + 1:=blen_bound (Nat.lt_of_le_of_lt hc (Nat.pow_lt_pow_right (by decide) (by omega)))
  have p1:=T151_Dw hu
  have e3:IntKind.wrap .i64 ((fP f:Int) - 1) = ((fP f - 1:Nat):Int):=wsub1 _ (by omega)
  have e4:IntKind.wrap .i64 ((fW f:Int) - 1) = ((fW f - 1:Nat):Int):=wsub1 _ (by omega)
  have e5:IntKind.wrap .i64 (M - (fP f:Int) + 1 + (blen u:Int)) = M - (fP f:Int) + 1 + (blen u:Int):=wrapI (by omega)
  have e6:IntKind.wrap .i64 (M - (fP f:Int) + 1 + (blen u:Int) - 1) = M - (fP f:Int) + 1 + (blen u:Int) - 1:=wrapI (by omega)
  have e7:IntKind.wrap .i64 (1 - (fX f:Int) - (fP f:Int)) = 1 - (fX f:Int) - (fP f:Int):=wrapI (by omega)
  have e8:IntKind.wrap .i64 (1 - (fX f:Int) - (fP f:Int) + 1) = 1 - (fX f:Int) - (fP f:Int) + 1:=wrapI (by omega)
  obtain ⟨k,hk⟩:=Int.eq_ofNat_of_zero_le (show 0 ≤ M - (fP f:Int) + 1 - (1 - (fX f:Int) - (fP f:Int) + 1) by omega)
  have e9:IntKind.wrap .i64 (M - (fP f:Int) + 1 - (1 - (fX f:Int) - (fP f:Int) + 1)) = (k:Int):=by rw [wrapI (by omega)]; exact hk
  have e10:IntKind.wrap .u64 (k:Int) = (k:Int):=wrapU (by omega)
  have hkn:(M - (fP f:Int) + 1 - (1 - (fX f:Int) - (fP f:Int) + 1)).toNat = k:=by omega
  have hhalf:=half_eq hf
  have hk2:k ≤ 2 * fX f - 1:=by omega
  have hk3:=Nat.mul_le_mul_right (2 ^ (fP f - 1)) hk2
  have hW64:2 ^ (fW f - 1) ≤ 2 ^ 63:=Nat.pow_le_pow_right (by decide) (by omega)
  have hpp:=Nat.two_pow_pos (fP f - 1)
  have e11:shlI .u64 (k:Int) ((fP f - 1:Nat):Int) = ((k * 2 ^ (fP f - 1):Nat):Int):=by
    rw [shlN _ _ (by omega),Nat.mod_eq_of_lt (by omega)]
  have e12:shlI .u64 1 ((fW f - 1:Nat):Int) = ((1 * 2 ^ (fW f - 1):Nat):Int):=by rw [shlI_one (by omega),Nat.one_mul]
  generalize hA:k * 2 ^ (fP f - 1) = A at *
  have hbits:A + u < 2 ^ (fW f - 1):=by omega
  have e13:IntKind.wrap .u64 ((A:Int) + ((u % 2 ^ 64:Nat):Int)) = ((A + u:Nat):Int):=by
    rw [Nat.mod_eq_of_lt (by omega),wrapU (by omega)]; omega
  have hor:∀ b:Nat,b < 2 ^ (fW f - 1) → orI .u64 (b:Int) ((1 * 2 ^ (fW f - 1):Nat):Int) = ((b + 2 ^ (fW f - 1):Nat):Int):=fun b hb=>by
    have:=orN (a:=b) (b:=1) (k:=fW f - 1) hb (by omega)
    rw [Nat.one_mul] at this ⊢
    exact this
  have hsg:sgnF f neg = if neg then 2 ^ (fW f - 1) else 0:=rfl
  have htd:decide (topE n e < 1 - (fX f:Int) ∧ topE n e - fP f + blen (cutN m neg n e (topE n e - fP f + 1) more) < 1 - (fX f:Int)) = decide (isTiny f m neg n e more):=by
    unfold isTiny; rfl
  rw [htd] at py
  simp only [pre150 p0,fun150 p0,cond_true,e3,nnn,pre151 p1,fun151 p1,e5,e6,e7,e8,e9,e10,e11,e4,e12,hkn,hA]
  rcases Nat.eq_zero_or_pos u with hu0 | hu0
  · subst hu0
    have hl0:decide ((((Dw 0).length:Nat):Int) > 0) = false:=by rw [Dw_zero]; rfl
    rw [hl0,cond_false]
    by_cases h2:M - (fP f:Int) + 1 + (blen 0:Int) - 1 > (fX f:Int)
    · rw [decide_eq_true h2,cond_true,if_pos h2]
      simp only [pre149 pb,fun149 pb,cond_true]
      rfl
    · rw [decide_eq_false h2,cond_false,if_neg h2]
      have hbi:=hor (A) (by omega)
      rw [hbi]
      by_cases hr:r = 0
      · rw [if_pos hr,decide_eq_false (p:=r ≠ 0) (by omega)]
        simp only [Bool.not_false,cond_true]
        cases neg <;> rfl
      · rw [if_neg hr,decide_eq_true (p:=r ≠ 0) hr]
        simp only [Bool.not_true,cond_false,pre152 py,fun152 py,cond_true]
        by_cases hti:isTiny f m neg n e more
        · rw [if_pos hti,decide_eq_true hti]
          cases neg <;> rfl
        · rw [if_neg hti,decide_eq_false hti]
          cases neg <;> rfl
  · have hun:u ≠ 0:=by omega
    simp only [Dw_len_gt hun,Dw_len_pos hun,cond_true,Int.toNat_zero,Dw_get,e13]
    by_cases h2:M - (fP f:Int) + 1 + (blen u:Int) - 1 > (fX f:Int)
    · rw [decide_eq_true h2,cond_true,if_pos h2]
      simp only [pre149 pb,fun149 pb,cond_true]
      rfl
    · rw [decide_eq_false h2,cond_false,if_neg h2]
      have hbi:=hor (A + u) (by omega)
      rw [hbi]
      by_cases hr:r = 0
      · rw [if_pos hr,decide_eq_false (p:=r ≠ 0) (by omega)]
        simp only [Bool.not_false,cond_true]
        cases neg <;> rfl
      · rw [if_neg hr,decide_eq_true (p:=r ≠ 0) hr]
        simp only [Bool.not_true,cond_false,pre152 py,fun152 py,cond_true]
        by_cases hti:isTiny f m neg n e more
        · rw [if_pos hti,decide_eq_true hti]
          cases neg <;> rfl
        · rw [if_neg hti,decide_eq_false hti]
          cases neg <;> rfl
theorem T105_ok {f m:Int} (hf:Fm f) (hm:0 ≤ m ∧ m ≤ 5):T105 (f,m,()) = some (rowOf f,0,()):=by
  show t105 S69.pre S69.F S147.pre S147.F f m = _
  unfold t105
  have p0:=T69_ok hf
  have p1:T147 (m,()) = some (0,()):=by
    show t147 m = _
    unfold t147
    rw [decide_eq_false (show ¬ m < 0 by omega),decide_eq_false (show ¬ m > 5 by omega)]; rfl
  simp only [pre69 p0,fun69 p0,cond_true,pre147 p1,fun147 p1]
  rfl
theorem T156_ok {f:Int} (h:Fm f) (neg:Bool):T156 (f,neg,()) = some ((sgnF f neg:Int),0,0,()):=by
  show t156 S118.pre S118.F f neg = _
  unfold t156
  have p0:=T118_ok h neg
  simp only [pre118 p0,fun118 p0,cond_true]
theorem two_words (s:Nat) (hs:s < 2 ^ 128):(Wi s).2.1 :: (Wi s).1 :: [] = Wd [s % 2 ^ 64,s / 2 ^ 64] ∧ Ws [s % 2 ^ 64,s / 2 ^ 64] ∧ nv (2 ^ 64) [s % 2 ^ 64,s / 2 ^ 64] = s:=by
  refine ⟨rfl,⟨?_,by simp⟩,?_⟩
  · intro x hx
    have:x = s % 2 ^ 64 ∨ x = s / 2 ^ 64:=by simpa using hx
    omega
  · simp only [nv]; omega
theorem T122_eq {f m:Int} (hf:Fm f) (hm:0 ≤ m ∧ m ≤ 5) (neg:Bool) (s:Nat) (hs:s < 2 ^ 128) (e:Int) (he:-40000 ≤ e ∧ e ≤ 40000) (more:Bool) (hmore:more = true → fP f + 2 ≤ blen s) :
    T122 (f,m,neg,Wi s,e,more,()) = some (if s = 0 then ((sgnF f neg:Int),0,0,()) else (((rndN f m neg s e more).1:Int),((rndN f m neg s e more).2:Int),0,())):=by
  show t122 _ _ _ _ _ _ _ _ _ _ f m neg (Wi s) e more = _
  unfold t122
  obtain ⟨w1,w2,w3⟩:=two_words s hs
  have hP:=fP_lt hf
  have hW:=fW_le hf
  have p0:=T105_ok hf hm
  have p1:=T102_eq _ w2
  rw [← w1,w3] at p1
  have hs2:s < (2 ^ 64) ^ 2000:=by
    rw [pow64]
    exact Nat.lt_of_lt_of_le hs (Nat.pow_le_pow_right (by decide) (by decide))
  have p2:=T151_Dw (lt5000 hs2)
  have p3:=T156_ok hf neg
  have p4:=T107_eq neg s e more f m hf hs2 (by omega)
  have e1:decide (e < -40000) = false:=decide_eq_false (by omega)
  have e2:decide (e > 40000) = false:=decide_eq_false (by omega)
  have e3:IntKind.wrap .i64 ((rowOf f).2.1 + 2) = ((fP f + 2:Nat):Int):=by
    show IntKind.wrap .i64 ((fP f:Int) + 2) = _
    rw [wrapI (by omega)]; rfl
  have e4:(more && decide ((blen s:Int) < ((fP f + 2:Nat):Int))) = false:=by
    cases more with
    | false=>rfl
    | true=>rw [decide_eq_false (by have:=hmore rfl; omega)]; rfl
  have z0:((0:Int) != 0) = false:=rfl
  simp only [pre105 p0,fun105 p0,cond_true,z0,cond_false,pre102 p1,fun102 p1,e1,e2,Bool.or_self,pre151 p2,fun151 p2,Bool.true_or,e3,e4]
  by_cases h0:s = 0
  · rw [if_pos h0]
    subst h0
    rw [show ((((Dw 0).length:Nat):Int) == 0) = true by rw [Dw_zero]; rfl,cond_true]
    simp only [pre156 p3,fun156 p3,cond_true]
  · rw [if_neg h0,beq0_f _ (by have:=Dw_len h0; omega),cond_false]
    simp only [pre107 p4,fun107 p4,cond_true]
end VL
namespace VL
open Go Vx
theorem cls_more {r k s ρ:Nat} (hρ:0 < ρ) (hρ2:ρ < 2 ^ k) (hs:1 ≤ s):clsR (ρ + 2 ^ k * r) (k + s) = clsR r s / 2 * 2 + 1:=by
  unfold clsR
  have hp:2 ^ (k + s - 1) = 2 ^ k * 2 ^ (s - 1):=by rw [← Nat.pow_add]; congr 1; omega
  rw [hp]
  have hh:=Nat.two_pow_pos (s - 1)
  generalize 2 ^ (s - 1) = h at *
  generalize 2 ^ k = K at *
  rw [if_neg (by omega)]
  rcases Nat.lt_trichotomy r h with h1 | h1 | h1
  · have:K * (r + 1) ≤ K * h:=Nat.mul_le_mul_left _ h1
    rw [Nat.mul_add,Nat.mul_one] at this
    rw [if_pos (by omega)]
    by_cases hr:r = 0
    · rw [if_pos hr]
    · rw [if_neg hr,if_pos h1]
  · subst h1
    rw [if_neg (by omega),if_neg (by omega),if_neg (by omega),if_neg (by omega),if_pos rfl]
  · have:K * (h + 1) ≤ K * r:=Nat.mul_le_mul_left _ h1
    rw [Nat.mul_add,Nat.mul_one] at this
    rw [if_neg (by omega),if_neg (by omega),if_neg (by omega),if_neg (by omega),if_neg (by omega)]
theorem cls_scale {r k s:Nat} (hs:1 ≤ s):clsR (2 ^ k * r) (k + s) = clsR r s:=by
  unfold clsR
  have hp:2 ^ (k + s - 1) = 2 ^ k * 2 ^ (s - 1):=by rw [← Nat.pow_add]; congr 1; omega
  rw [hp]
  have hk:=Nat.two_pow_pos k
  generalize 2 ^ (s - 1) = h at *
  generalize 2 ^ k = K at *
  have h1:K * r = 0 ↔ r = 0:=by
    constructor
    · intro h; rcases Nat.mul_eq_zero.1 h with h | h <;> omega
    · intro h; rw [h,Nat.mul_zero]
  have h2:K * r < K * h ↔ r < h:=Nat.mul_lt_mul_left hk
  have h3:K * r = K * h ↔ r = h:=Nat.mul_right_inj (by omega)
  simp only [h1,h2,h3]
theorem mod_split (N k s:Nat):N % 2 ^ (k + s) = N % 2 ^ k + 2 ^ k * (N / 2 ^ k % 2 ^ s):=by
  rw [Nat.pow_add,Nat.mod_mul]
theorem quoE_lo {n:Nat} {e q:Int} (h:q ≤ e):quoE n e q = n * 2 ^ (e - q).toNat:=if_pos h
theorem quoE_hi {n:Nat} {e q:Int} (h:e < q):quoE n e q = n / 2 ^ (q - e).toNat:=if_neg (by omega)
theorem rstE_lo {n:Nat} {e q:Int} (h:q ≤ e):rstE n e q = 0:=if_pos h
theorem rstE_hi {n:Nat} {e q:Int} (h:e < q):rstE n e q = clsR (n % 2 ^ (q - e).toNat) (q - e).toNat:=if_neg (by omega)
theorem cutR_f (n:Nat) (e q:Int):cutR n e q false = rstE n e q:=rfl
theorem cutR_t (n:Nat) (e q:Int):cutR n e q true = rstE n e q / 2 * 2 + 1:=rfl
theorem cut_trunc {N k:Nat} {E q:Int} (hq:N % 2 ^ k ≠ 0 → E + k < q) :
    quoE (N / 2 ^ k) (E + k) q = quoE N E q ∧ cutR (N / 2 ^ k) (E + k) q (decide (N % 2 ^ k ≠ 0)) = cutR N E q false:=by
  have hk:=Nat.two_pow_pos k
  have hdm:=Nat.div_add_mod N (2 ^ k)
  by_cases h1:E + k < q
  · have es:(q - E).toNat = k + (q - (E + k)).toNat:=by omega
    have hs:1 ≤ (q - (E + k)).toNat:=by omega
    rw [quoE_hi h1,quoE_hi (by omega),cutR_f,rstE_hi (e:=E) (by omega),es]
    have hrs:=rstE_hi (n:=N / 2 ^ k) h1
    generalize (q - (E + k)).toNat = s at *
    refine ⟨by rw [Nat.div_div_eq_div_mul,← Nat.pow_add],?_⟩
    rw [mod_split]
    by_cases hr:N % 2 ^ k = 0
    · rw [hr,Nat.zero_add,cls_scale hs,show decide ((0:Nat) ≠ 0) = false by decide,cutR_f,hrs]
    · have hρ:0 < N % 2 ^ k:=by omega
      rw [cls_more hρ (Nat.mod_lt _ hk) hs,decide_eq_true hr,cutR_t,hrs]
  · have hr:N % 2 ^ k = 0:=by
      by_cases h:N % 2 ^ k = 0
      · exact h
      · exact absurd (hq h) h1
    rw [hr,Nat.add_zero] at hdm
    rw [hr]
    clear hq hr
    generalize N / 2 ^ k = n at *
    subst hdm
    have hz:decide ((0:Nat) ≠ 0) = false:=by decide
    rw [hz,quoE_lo (by omega),cutR_f,cutR_f,rstE_lo (by omega)]
    by_cases h2:q ≤ E
    · rw [quoE_lo h2,rstE_lo h2,show (E + k - q).toNat = k + (E - q).toNat by omega,Nat.pow_add,Nat.mul_comm (2 ^ k) n,Nat.mul_assoc]
      exact ⟨rfl,rfl⟩
    · rw [quoE_hi (by omega),rstE_hi (by omega)]
      have ek:k = (q - E).toNat + (E + k - q).toNat:=by omega
      generalize (q - E).toNat = s at *
      generalize (E + k - q).toNat = t at *
      have:2 ^ k * n = 2 ^ s * (2 ^ t * n):=by rw [ek,Nat.pow_add,Nat.mul_assoc]
      rw [this,Nat.mul_div_cancel_left _ (Nat.two_pow_pos s),Nat.mul_mod_right]
      exact ⟨Nat.mul_comm _ _,rfl⟩
theorem cutN_trunc {m:Int} {neg:Bool} {N k:Nat} {E q:Int} (hq:N % 2 ^ k ≠ 0 → E + k < q):cutN m neg (N / 2 ^ k) (E + k) q (decide (N % 2 ^ k ≠ 0)) = cutN m neg N E q false:=by
  obtain ⟨h1,h2⟩:=cut_trunc hq
  unfold cutN
  rw [h1,h2]
theorem top_trunc {N k:Nat} {E:Int} (hn:N / 2 ^ k ≠ 0):topE (N / 2 ^ k) (E + k) = topE N E:=by
  have hk:=Nat.two_pow_pos k
  have h1:2 ^ k ≤ N:=by
    rcases Nat.lt_or_ge N (2 ^ k) with h | h
    · exact absurd (Nat.div_eq_of_lt h) hn
    · exact h
  have:=blen_shift h1
  unfold topE
  omega
theorem rnd_trunc {f m:Int} {neg:Bool} {N k:Nat} {E:Int} (hf:Fm f) (hn:N / 2 ^ k ≠ 0) (hm:N % 2 ^ k ≠ 0 → fP f + 2 ≤ blen (N / 2 ^ k)):rndN f m neg (N / 2 ^ k) (E + k) (decide (N % 2 ^ k ≠ 0)) = rndN f m neg N E false:=by
  have ht:=top_trunc (E:=E) hn
  have htd:topE (N / 2 ^ k) (E + k) = E + k + (blen (N / 2 ^ k):Int) - 1:=rfl
  have hq1:N % 2 ^ k ≠ 0 → E + k < lowE f (topE N E):=fun h=>by
    have:=hm h
    unfold lowE
    split <;> omega
  have hq2:N % 2 ^ k ≠ 0 → E + k < topE N E - fP f + 1:=fun h=>by
    have:=hm h
    omega
  have hti:isTiny f m neg (N / 2 ^ k) (E + k) (decide (N % 2 ^ k ≠ 0)) = isTiny f m neg N E false:=by
    unfold isTiny
    rw [ht,cutN_trunc hq2]
  unfold rndN
  simp only [ht,cutN_trunc hq1,(cut_trunc hq1).2,hti]
theorem rnd_scale {f m:Int} {neg:Bool} (hf:Fm f) {n:Nat} (hn:n ≠ 0) (k:Nat) (e:Int):rndN f m neg (n * 2 ^ k) e false = rndN f m neg n (e + k) false:=by
  have hk:=Nat.two_pow_pos k
  have:=rnd_trunc (f:=f) (m:=m) (neg:=neg) (N:=n * 2 ^ k) (k:=k) (E:=e) hf (by rw [Nat.mul_div_cancel _ hk]; exact hn) (by rw [Nat.mul_mod_left]; omega)
  rw [Nat.mul_div_cancel _ hk,Nat.mul_mod_left] at this
  exact this.symm
end VL
namespace VL
open Go Vx
theorem blen_ge {n k:Nat} (h:2 ^ k ≤ n):k + 1 ≤ blen n:=by
  have h1:=blen_lt n
  have:k < blen n:=(Nat.pow_lt_pow_iff_right (a:=2) (by decide)).1 (Nat.lt_of_le_of_lt h h1)
  omega
end VL
namespace VL
open Go Vx
def Hs (l:List Nat):Prop:=(∀ x ∈ l,x < 2 ^ 32) ∧ l.length ≤ 1000000
theorem Hs.dg {n:Nat} (h:n < 2 ^ 100000):Hs (dg (2 ^ 32) n):=by
  refine ⟨dg_lt (by decide) n,?_⟩
  have:n < (2 ^ 32) ^ 3125:=by rw [← Nat.pow_mul]; exact h
  have:=dg_len_le (B:=2 ^ 32) (by decide) 3125 n this
  omega
theorem wu_id (n:Nat) (h:n < 2 ^ 64):IntKind.wrap .u64 (n:Int) = (n:Int):=wrapU (by omega)
theorem wu_mul (a b:Nat) (h:a * b < 2 ^ 64):IntKind.wrap .u64 ((a:Int) * (b:Int)) = ((a * b:Nat):Int):=by
  rw [← Int.natCast_mul,wu_id _ h]
theorem wu_add (a b:Nat) (h:a + b < 2 ^ 64):IntKind.wrap .u64 ((a:Int) + (b:Int)) = ((a + b:Nat):Int):=by
  rw [← Int.natCast_add,wu_id _ h]
theorem app_lt {B:Nat} {l:List Nat} {v:Nat} (h:∀ x ∈ l,x < B) (hv:v < B):∀ x ∈ l ++ [v],x < B:=fun x hx=>by
  rcases List.mem_append.1 hx with hx | hx
  · exact h x hx
  · have:x = v:=by simpa using hx
    rw [this]; exact hv
theorem nv_snoc (B:Nat) (l:List Nat) (v:Nat):nv B (l ++ [v]) = nv B l + B ^ l.length * v:=by
  rw [nv_append]; simp [nv]
theorem carry_step {B:Nat} {out:List Nat} {k c V V' d:Nat} (hol:out.length = k) (hov:nv B out + B ^ k * c = V) (hV:V' = V + B ^ k * d) :
    nv B (out ++ [(d + c) % B]) + B ^ (k + 1) * ((d + c) / B) = V':=by
  rw [nv_snoc,hol,hV,← hov,Nat.pow_succ,Nat.mul_assoc,Nat.add_assoc,← Nat.mul_add]
  have:=Nat.mod_add_div (d + c) B
  rw [this,Nat.mul_add]
  omega
theorem carry_end {B:Nat} (hB:2 ≤ B) {out:List Nat} {k c V:Nat} (hol:out.length = k) (hod:∀ x ∈ out,x < B) (hov:nv B out + B ^ k * c = V):out = pd B k (V % B ^ k) ∧ c = V / B ^ k:=by
  have hlt:=nv_lt hB out hod
  rw [hol] at hlt
  have hp:0 < B ^ k:=Nat.pow_pos (by omega)
  refine ⟨pd_at (by omega) hod hol ?_,?_⟩
  · rw [← hov,Nat.add_mul_mod_self_left,Nat.mod_eq_of_lt hlt]
  · rw [← hov,Nat.add_mul_div_left _ _ hp,Nat.div_eq_of_lt hlt,Nat.zero_add]
theorem nv_rep (B n:Nat):nv B (List.replicate n 0) = 0:=by
  induction n with
  | zero=>rfl
  | succ n ih=>rw [List.replicate_succ]; simp [nv,ih]
end VL
namespace VL
open Go Vx
theorem nv_drop_next (B:Nat) (l:List Nat) (i:Nat) (h:i < l.length):nv B (l.drop i) = l.getD i 0 + B * nv B (l.drop (i + 1)):=by
  rw [List.drop_eq_getElem_cons h,List.getD_eq_getElem?_getD,List.getElem?_eq_getElem h]; rfl
theorem take_lt {B:Nat} (hB:2 ≤ B) {l:List Nat} (h:∀ x ∈ l,x < B) (i:Nat):nv B (l.take i) < B ^ i:=by
  have:=nv_lt hB (l.take i) fun x hx=>h x (List.mem_of_mem_take hx)
  refine Nat.lt_of_lt_of_le this (Nat.pow_le_pow_right (by omega) ?_)
  rw [List.length_take]
  exact Nat.min_le_left _ _
theorem split_lt {P A A' X Y:Nat} (h:A < P) (hxy:X < Y):A + P * X < A' + P * Y:=by
  have:P * (X + 1) ≤ P * Y:=Nat.mul_le_mul_left _ hxy
  rw [Nat.mul_add,Nat.mul_one] at this
  omega
theorem row_lt {B:Nat} (hB:2 ≤ B) {a b:List Nat} (ha:∀ x ∈ a,x < B) {i:Nat} (hia:i < a.length) (hib:i < b.length) (hd:nv B (a.drop (i + 1)) = nv B (b.drop (i + 1))) (h:a.getD i 0 < b.getD i 0):nv B a < nv B b:=by
  rw [nv_split B a i (by omega),nv_split B b i (by omega),nv_drop_next B a i hia,nv_drop_next B b i hib,hd]
  exact split_lt (take_lt hB ha i) (by omega)
theorem dg_len_lt {B:Nat} (hB:2 ≤ B) {x y:Nat} (h:(dg B x).length < (dg B y).length):x < y:=by
  have h1:=dg_len_gt hB x
  rcases Nat.lt_or_ge x y with h2 | h2
  · exact h2
  · have:=dg_len_le hB (dg B x).length y (by omega)
    omega
theorem minus_step {P B A A' O a b c c' v:Nat} (h:A + P * c = A' + O) (h2:a + B * c' = b + c + v):A + P * a + P * B * c' = A' + P * b + (O + P * v):=by
  have h3:P * (a + B * c') = P * (b + c + v):=by rw [h2]
  rw [Nat.mul_add,Nat.mul_add,Nat.mul_add,← Nat.mul_assoc] at h3
  omega
theorem dg_len_mono {B:Nat} (hB:2 ≤ B) {x y:Nat} (h:y ≤ x):(dg B y).length ≤ (dg B x).length:=by
  rcases Nat.lt_or_ge (dg B x).length (dg B y).length with h1 | h1
  · have:=dg_len_lt hB h1; omega
  · exact h1
theorem Hs.len {n:Nat} (h:n < 2 ^ 100000):(VL.dg (2 ^ 32) n).length ≤ 3125:=by
  have:n < (2 ^ 32) ^ 3125:=by rw [← Nat.pow_mul]; exact h
  exact dg_len_le (B:=2 ^ 32) (by decide) 3125 n this
theorem quo2i (x:Nat) (h:x < 2 ^ 60):quoI .i64 (x:Int) 2 = ((x / 2:Nat):Int):=by
  unfold quoI
  have e:(x:Int).tdiv 2 = ((x / 2:Nat):Int):=rfl
  rw [e,wrapI (by omega)]
theorem tmod2 (x:Nat):Int.tmod (x:Int) 2 = ((x % 2:Nat):Int):=rfl
theorem nv_set' (B:Nat) (l:List Nat) (i x y:Nat) (hi:i < l.length) (hy:l.getD i 0 + y = x):nv B (l.set i x) = nv B l + B ^ i * y:=by
  have:=nv_set B l i x hi
  rw [← hy,Nat.mul_add] at this
  rw [hy] at this
  omega
theorem quoM (x m:Nat) (h:x < 2 ^ 64) (hm:0 < m):quoI .u64 (x:Int) (m:Int) = ((x / m:Nat):Int):=by
  unfold quoI
  have e:(x:Int).tdiv (m:Int) = ((x / m:Nat):Int):=rfl
  have:=Nat.div_le_self x m
  generalize x / m = q at *
  rw [e,wrapU (by omega)]
end VL
namespace VL
open Go Vx
theorem fP_le {f:Int} (hf:Fm f):fP f ≤ 53:=by
  rcases Fm_cases hf with rfl | rfl | rfl | rfl <;> decide
theorem cut_lt_big {f m:Int} (hf:Fm f) {neg:Bool} {n:Nat} {e q:Int} (h:topE n e - fP f + 1 ≤ q):cutN m neg n e q false ≤ 2 ^ fP f:=cut_le h
end VL
namespace VL
open Go Vx
def mant (f:Int) (a:Nat):Nat:=if eF f a = 0 then mF f a else mF f a + 2 ^ (fP f - 1)
def xpn (f:Int) (a:Nat):Int:=1 - (fX f:Int) - (fP f:Int) + 1 + (if eF f a = 0 then 0 else (eF f a:Int) - 1)
theorem mF_lt (f:Int) (a:Nat):mF f a < 2 ^ (fP f - 1):=Nat.mod_lt _ (Nat.two_pow_pos _)
theorem mant_lt {f:Int} (hf:Fm f) (a:Nat):mant f a < 2 ^ 53:=by
  have h1:=mF_lt f a
  have h2:=fP_ge hf
  have h3:=fP_lt hf
  have h4:=fW_le hf
  have h5:2 ^ (fP f - 1) ≤ 2 ^ 52:=Nat.pow_le_pow_right (by decide) (by rcases Fm_cases hf with rfl | rfl | rfl | rfl <;> decide)
  unfold mant
  split <;> omega
theorem eF_lt {f:Int} (hf:Fm f) (a:Nat):eF f a < 2048:=by
  have:2 ^ (fW f - fP f) ≤ 2 ^ 11:=Nat.pow_le_pow_right (by decide) (by rcases Fm_cases hf with rfl | rfl | rfl | rfl <;> decide)
  have h:eF f a < 2 ^ (fW f - fP f):=Nat.mod_lt _ (Nat.two_pow_pos _)
  omega
theorem xpn_bound {f:Int} (hf:Fm f) (a:Nat):-2000 ≤ xpn f a ∧ xpn f a ≤ 2000:=by
  have h1:=eF_lt hf a
  have h2:=fX_le hf
  have h3:=fP_le hf
  have h4:=fX_ge hf
  have h5:=fP_ge hf
  have h6:(eF f a:Int) ≤ 2 * fX f + 1:=by
    have:eF f a < 2 ^ (fW f - fP f):=Nat.mod_lt _ (Nat.two_pow_pos _)
    have:=fX_eq hf
    omega
  unfold xpn
  split <;> omega
def isInf (f:Int) (a:Nat):Bool:=eF f a == fullF f && mF f a == 0
end VL
namespace VL
open Go Vx
theorem T98_ok {f:Int} {a:Nat} (h:chk f a = 0):T98 (f,(a:Int),()) = some (sF f a,(eF f a:Int),(mF f a:Int),0,()):=by
  obtain ⟨hf,h0⟩:=chk_zero h
  have ha:=pat_lt h
  show t98 S66.pre S66.F S90.pre S90.F f a = _
  unfold t98
  have p0:=T66_eq f a ha
  have p2:=T90_eq hf a ha
  have hr1:decide (0 ≤ f) = true:=decide_eq_true hf.1
  have hr2:decide (f < ((4:Nat):Int)) = true:=decide_eq_true hf.2
  simp only [row_at hf,hr1,hr2,pre66 p0,fun66 p0,pre90 p2,fun90 p2,h,cond_true,bne_self_eq_false,cond_false]
theorem cls_isInf (f:Int) (a:Nat):(cls f a == 2 || cls f a == 9) = isInf f a:=by
  unfold cls isInf
  cases eF f a == fullF f <;> cases eF f a == 0 <;> cases mF f a == 0 <;> cases sF f a <;> cases mF f a / 2 ^ (fP f - 2) != 0 <;> rfl
end VL
namespace VL
open Go Vx
def qm (f:Int):Int:=1 - (fX f:Int) - (fP f:Int) + 1
end VL
namespace VL
open Go Vx
def sl (V:Nat → Int) (i:Nat):List Int:=[if 0 < i then V 0 else 0,if 1 < i then V 1 else 0,if 2 < i then V 2 else 0,if 3 < i then V 3 else 0,if 4 < i then V 4 else 0,if 5 < i then V 5 else 0]
end VL
namespace VL
open Go Vx
theorem W144_eq (a b:List Nat) (ha:∀ x ∈ a,x < 2 ^ 64) (hb:∀ x ∈ b,x < 2 ^ 64) (hla:a.length ≤ 1000000) (hab:a.length = b.length) :
    W144_7 ((Wd a,(Wd b,((a.length:Int) - 1,()))),()) = some (if nv (2 ^ 64) a = nv (2 ^ 64) b then .inl ((),()) else .inr (((if nv (2 ^ 64) a < nv (2 ^ 64) b then (-1:Int) else 1),()),())):=by
  have key:=lfix_ind (m144_7 S173.pre S173.F) (fun x=>(x.1.2.2.1 + 1).toNat)
    (fun x=>∃ j:Nat,j ≤ a.length ∧ nv (2 ^ 64) (a.drop j) = nv (2 ^ 64) (b.drop j) ∧ x = ((Wd a,(Wd b,((j:Int) - 1,()))),()))
    (fun _=>if nv (2 ^ 64) a = nv (2 ^ 64) b then .inl ((),()) else .inr (((if nv (2 ^ 64) a < nv (2 ^ 64) b then (-1:Int) else 1),()),())) ?_ ((Wd a,(Wd b,((a.length:Int) - 1,()))),())
    ⟨a.length,Nat.le_refl _,by rw [List.drop_length,hab,List.drop_length],rfl⟩
  · exact key
  intro L x hx hL
  obtain ⟨j,hj,hd,rfl⟩:=hx
  unfold h144_7
  rcases j with _ | i
  · have e1:decide ((((0:Nat):Int) - 1) ≥ 0) = false:=rfl
    rw [List.drop_zero,List.drop_zero] at hd
    simp only [e1,cond_false,if_pos hd]
  · have e0:(((i + 1:Nat):Int) - 1) = (i:Int):=by omega
    have e2:IntKind.wrap .i64 ((i:Int) - 1) = (i:Int) - 1:=wrapI (by omega)
    have e3:decide ((i:Int) ≥ 0) = true:=decide_eq_true (by omega)
    simp (disch:=omega) only [e0,e2,e3,wadd,wadd1,wadd64,wsubn,wsub1,wmul64,ilt_t,ilt_f,ile_t,ile_f,igt_t,igt_f,ige_t,ige_f,ipos_t,ipos_f,igt0_t,igt0_f,nnn,beq0_t,beq0_f,bne0_t,bne0_f,Int.toNat_natCast,Int.toNat_zero,cond_true,cond_false,Bool.and_self,Bool.true_and,Bool.and_true,Bool.false_and,Bool.and_false,Bool.not_true,Bool.not_false,Bool.or_self,Bool.true_or,Bool.or_true,Bool.false_or,Bool.or_false,Wd_len,Wd_getD]
    rcases Nat.lt_trichotomy (a.getD i 0) (b.getD i 0) with h | h | h
    · have hr:=row_lt (by decide) ha (by omega) (by omega) hd h
      simp (disch:=omega) only [wadd,wadd1,wadd64,wsubn,wsub1,wmul64,ilt_t,ilt_f,ile_t,ile_f,igt_t,igt_f,ige_t,ige_f,ipos_t,ipos_f,igt0_t,igt0_f,nnn,beq0_t,beq0_f,bne0_t,bne0_f,Int.toNat_natCast,Int.toNat_zero,cond_true,cond_false,Bool.and_self,Bool.true_and,Bool.and_true,Bool.false_and,Bool.and_false,Bool.not_true,Bool.not_false,Bool.or_self,Bool.true_or,Bool.or_true,Bool.false_or,Bool.or_false]
      rw [if_neg (by omega),if_pos hr]
    · simp (disch:=omega) only [wadd,wadd1,wadd64,wsubn,wsub1,wmul64,ilt_t,ilt_f,ile_t,ile_f,igt_t,igt_f,ige_t,ige_f,ipos_t,ipos_f,igt0_t,igt0_f,nnn,beq0_t,beq0_f,bne0_t,bne0_f,Int.toNat_natCast,Int.toNat_zero,cond_true,cond_false,Bool.and_self,Bool.true_and,Bool.and_true,Bool.false_and,Bool.and_false,Bool.not_true,Bool.not_false,Bool.or_self,Bool.true_or,Bool.or_true,Bool.false_or,Bool.or_false]
      refine hL _ ⟨i,by omega,?_,rfl⟩ (by simp only [Int.toNat_natCast]; omega)
      rw [nv_drop_next _ a i (by omega),nv_drop_next _ b i (by omega),hd,h]
    · have hr:=row_lt (by decide) hb (by omega) (by omega) hd.symm h
      simp (disch:=omega) only [wadd,wadd1,wadd64,wsubn,wsub1,wmul64,ilt_t,ilt_f,ile_t,ile_f,igt_t,igt_f,ige_t,ige_f,ipos_t,ipos_f,igt0_t,igt0_f,nnn,beq0_t,beq0_f,bne0_t,bne0_f,Int.toNat_natCast,Int.toNat_zero,cond_true,cond_false,Bool.and_self,Bool.true_and,Bool.and_true,Bool.false_and,Bool.and_false,Bool.not_true,Bool.not_false,Bool.or_self,Bool.true_or,Bool.or_true,Bool.false_or,Bool.or_false]
      rw [if_neg (by omega),if_neg (by omega)]
theorem T173_dw {x:Nat} (hx:x < (2 ^ 64) ^ 5000):T173 (Dw x,()) = some (Dw x,()):=by
  have:=T173_eq (dg (2 ^ 64) x) (Dw_ws hx).2
  rw [dg_trim (by decide)] at this
  exact this
theorem T144_eq {x y:Nat} (hx:x < (2 ^ 64) ^ 5000) (hy:y < (2 ^ 64) ^ 5000):T144 (Dw x,Dw y,()) = some (if x = y then 0 else if x < y then -1 else 1,()):=by
  show t144 S173.pre S173.F W144_7 (Dw x) (Dw y) = _
  unfold t144
  have p0:=T173_dw hx
  have p1:=T173_dw hy
  have hX:=Dw_ws hx
  have hY:=Dw_ws hy
  have hlx:=hX.2
  simp only [pre173 p0,fun173 p0,pre173 p1,fun173 p1,cond_true]
  clear p0 p1
  rcases Nat.lt_trichotomy (dg (2 ^ 64) x).length (dg (2 ^ 64) y).length with h | h | h
  · have hr:=dg_len_lt (by decide) h
    unfold Dw
    simp (disch:=omega) only [wadd,wadd1,wadd64,wsubn,wsub1,wmul64,ilt_t,ilt_f,ile_t,ile_f,igt_t,igt_f,ige_t,ige_f,ipos_t,ipos_f,igt0_t,igt0_f,nnn,beq0_t,beq0_f,bne0_t,bne0_f,Int.toNat_natCast,Int.toNat_zero,cond_true,cond_false,Bool.and_self,Bool.true_and,Bool.and_true,Bool.false_and,Bool.and_false,Bool.not_true,Bool.not_false,Bool.or_self,Bool.true_or,Bool.or_true,Bool.false_or,Bool.or_false,Wd_len]
    rw [if_neg (by omega),if_pos hr]
  · have hw:=W144_eq _ _ hX.1 hY.1 hlx h
    rw [nv_Dw,nv_Dw] at hw
    have e2:IntKind.wrap .i64 (((dg (2 ^ 64) x).length:Int) - 1) = ((dg (2 ^ 64) x).length:Int) - 1:=wrapI (by omega)
    unfold Dw
    simp (disch:=omega) only [wadd,wadd1,wadd64,wsubn,wsub1,wmul64,ilt_t,ilt_f,ile_t,ile_f,igt_t,igt_f,ige_t,ige_f,ipos_t,ipos_f,igt0_t,igt0_f,nnn,beq0_t,beq0_f,bne0_t,bne0_f,Int.toNat_natCast,Int.toNat_zero,cond_true,cond_false,Bool.and_self,Bool.true_and,Bool.and_true,Bool.false_and,Bool.and_false,Bool.not_true,Bool.not_false,Bool.or_self,Bool.true_or,Bool.or_true,Bool.false_or,Bool.or_false,Wd_len,e2,hw]
    by_cases he:x = y
    · rw [if_pos he,if_pos he]; first | rfl | skip
    · rw [if_neg he,if_neg he]; first | rfl | skip
  · have hr:=dg_len_lt (by decide) h
    unfold Dw
    simp (disch:=omega) only [wadd,wadd1,wadd64,wsubn,wsub1,wmul64,ilt_t,ilt_f,ile_t,ile_f,igt_t,igt_f,ige_t,ige_f,ipos_t,ipos_f,igt0_t,igt0_f,nnn,beq0_t,beq0_f,bne0_t,bne0_f,Int.toNat_natCast,Int.toNat_zero,cond_true,cond_false,Bool.and_self,Bool.true_and,Bool.and_true,Bool.false_and,Bool.and_false,Bool.not_true,Bool.not_false,Bool.or_self,Bool.true_or,Bool.or_true,Bool.false_or,Bool.or_false,Wd_len]
    rw [if_neg (by omega),if_neg (by omega)]
theorem set_drop {out a:List Nat} {i v:Nat} (hol:out.length = i) (h:i < a.length):(out ++ a.drop i).set i v = (out ++ [v]) ++ a.drop (i + 1):=by
  rw [List.set_append_right _ _ (by omega),hol,Nat.sub_self,List.drop_eq_getElem_cons h,List.set_cons_zero,List.append_assoc]
  rfl
theorem T1146_eq (l:List Nat) (hl:Ws l):T1146 (Wd l,()) = some (Dw (nv (2 ^ 64) l),()):=by
  show t1146 S173.pre S173.F (Wd l) = _
  unfold t1146
  have p0:=T173_eq l hl.2
  have hle:=(trim_len l).1
  have h2:=hl.2
  have e3:decide ((((trimL l).length:Nat):Int) * 8 ≤ 140737488355328) = true:=decide_eq_true (by omega)
  simp (disch:=omega) only [wadd,wadd1,wadd64,wsubn,wsub1,wmul64,ilt_t,ilt_f,ile_t,ile_f,igt_t,igt_f,ige_t,ige_f,ipos_t,ipos_f,igt0_t,igt0_f,nnn,beq0_t,beq0_f,bne0_t,bne0_f,Int.toNat_natCast,Int.toNat_zero,cond_true,cond_false,Bool.and_self,Bool.true_and,Bool.and_true,Bool.false_and,Bool.and_false,Bool.not_true,Bool.not_false,Bool.or_self,Bool.true_or,Bool.or_true,Bool.false_or,Bool.or_false,pre173 p0,fun173 p0,Wd_len,e3,List.length_replicate,List.drop_replicate,Nat.sub_self]
  rw [List.take_of_length_le (by rw [Wd_len]; exact Nat.le_refl _),List.replicate_zero,List.append_nil,trim_dg (by decide) l hl.1]
  rfl
theorem T143_dw {x y:Nat} (hx:x < (2 ^ 64) ^ 5000) (hy:y < (2 ^ 64) ^ 5000):T143 (Dw x,Dw y,()) = some (Dw (x + y),()):=by
  have h1:(dg (2 ^ 64) x).length ≤ 5000:=dg_len_le (by decide) _ _ hx
  have h2:(dg (2 ^ 64) y).length ≤ 5000:=dg_len_le (by decide) _ _ hy
  have:=T143_eq (dg (2 ^ 64) x) (dg (2 ^ 64) y) (Dw_ws hx) (Dw_ws hy) (by rw [dg_trim (by decide)]; omega) (by rw [dg_trim (by decide)]; omega)
  rw [nv_Dw,nv_Dw] at this
  exact this
end VL
namespace VL
open Go Vx
theorem Dw_small {x:Nat} (h0:x ≠ 0) (h:x < 2 ^ 64):Dw x = (x:Int) :: []:=by
  unfold Dw
  rw [dg_pos (by decide) (by omega),Nat.mod_eq_of_lt h,Nat.div_eq_of_lt h,dg_zero]; rfl
end VL
namespace VL
open Go Vx
def Bd (f:Int) (n:Nat) (e:Int):Prop:=qm f ≤ e ∧ e ≤ 6000 ∧ n * 2 ^ (e - qm f).toNat < 2 ^ 5000
theorem Bd.lt {f:Int} {n:Nat} {e:Int} (h:Bd f n e):n < 2 ^ 5000:=by
  have:=Nat.le_mul_of_pos_right n (Nat.two_pow_pos (e - qm f).toNat)
  exact Nat.lt_of_le_of_lt this h.2.2
end VL
namespace VL
open Go Vx
structure Hid (p:Prop):Prop where
  out:p
end VL
namespace VL
open Go Vx
theorem W163_eq (l:List Nat) (hl:l.length ≤ 1000000) (n:Nat) (hn:n ≤ l.length) (ht:(trimL l).length ≤ n) :
    W163_2 ((Wd l,((n:Int),())),()) = some (.inl ((((trimL l).length:Int),()),())):=by
  have key:=lfix_ind m163_2 (fun x=>x.1.2.1.toNat)
    (fun x=>∃ n:Nat,n ≤ l.length ∧ (trimL l).length ≤ n ∧ x = ((Wd l,((n:Int),())),()))
    (fun _=>.inl ((((trimL l).length:Int),()),())) ?_ ((Wd l,((n:Int),())),()) ⟨n,hn,ht,rfl⟩
  · exact key
  intro L x hx hL
  obtain ⟨n,hn,ht,rfl⟩:=hx
  unfold h163_2
  rcases Nat.eq_zero_or_pos n with rfl | hpos
  · have e1:decide (((0:Nat):Int) > 0) = false:=rfl
    simp only [e1,Bool.not_false,Bool.or_true,cond_true,Bool.false_and,cond_false]
    have:(trimL l).length = 0:=by omega
    rw [this]
  · simp (disch:=omega) only [wadd,wadd1,wadd64,wsubn,wsub1,wmul64,ilt_t,ilt_f,ile_t,ile_f,igt_t,igt_f,ige_t,ige_f,ipos_t,ipos_f,igt0_t,igt0_f,nnn,beq0_t,beq0_f,bne0_t,bne0_f,Int.toNat_natCast,Int.toNat_zero,cond_true,cond_false,Bool.and_self,Bool.true_and,Bool.and_true,Bool.false_and,Bool.and_false,Bool.not_true,Bool.not_false,Bool.or_self,Bool.true_or,Bool.or_true,Bool.false_or,Bool.or_false,Wd_len,Wd_getD,nbeq0]
    cases hz:(l.getD (n - 1) 0 == 0) with
    | true =>
      simp only [cond_true]
      refine hL _ ⟨n - 1,by omega,?_,rfl⟩ (by simp only [Int.toNat_natCast]; omega)
      rcases Nat.lt_or_ge (n - 1) (trimL l).length with h | h
      · exfalso
        have e:n = (trimL l).length:=by omega
        have:=trim_last l (by omega)
        rw [← e] at this
        exact this (by simpa using hz)
      · exact h
    | false =>
      simp only [cond_false]
      have:(trimL l).length = n:=by
        rcases Nat.lt_or_ge (n - 1) (trimL l).length with h | h
        · omega
        · exfalso
          have:=trim_out l (n - 1) h
          rw [this] at hz
          simp at hz
      rw [this]
theorem T163_eq (l:List Nat) (hl:l.length ≤ 1000000):T163 (Wd l,()) = some (((trimL l).length:Int),()):=by
  show t163 W163_2 (Wd l) = _
  unfold t163
  have h:=W163_eq l hl l.length (Nat.le_refl _) (trim_len l).1
  rw [Wd_len,h]
theorem T163_dw {x:Nat} (hx:x < (2 ^ 64) ^ 5000):T163 (Dw x,()) = some (((dg (2 ^ 64) x).length:Int),()):=by
  have:=T163_eq (dg (2 ^ 64) x) (Dw_ws hx).2
  rw [dg_trim (by decide)] at this
  exact this
theorem T133_eq (l:List Nat) (hl:l.length ≤ 1000000):T133 (Wd l,()) = some (Wd (trimL l),()):=by
  show t133 S163.pre S163.F (Wd l) = _
  unfold t133
  have p0:=T163_eq l hl
  have hle:=(trim_len l).1
  have e3:decide ((((trimL l).length:Nat):Int) * 8 ≤ 140737488355328) = true:=decide_eq_true (by omega)
  simp (disch:=omega) only [wadd,wadd1,wadd64,wsubn,wsub1,wmul64,ilt_t,ilt_f,ile_t,ile_f,igt_t,igt_f,ige_t,ige_f,ipos_t,ipos_f,igt0_t,igt0_f,nnn,beq0_t,beq0_f,bne0_t,bne0_f,Int.toNat_natCast,Int.toNat_zero,cond_true,cond_false,Bool.and_self,Bool.true_and,Bool.and_true,Bool.false_and,Bool.and_false,Bool.not_true,Bool.not_false,Bool.or_self,Bool.true_or,Bool.or_true,Bool.false_or,Bool.or_false,pre163 p0,fun163 p0,Wd_len,e3,List.length_replicate,List.drop_replicate,Wd_take]
  rw [show (trimL l).length - l.length = 0 by omega,List.replicate_zero,List.append_nil,← (trim_len l).2]
theorem T133_h {l:List Nat} (hl:Ws l) {v:Nat} (hv:nv (2 ^ 64) l = v):T133 (Wd l,()) = some (Dw v,()):=by
  rw [T133_eq l hl.2,trim_dg (by decide) _ hl.1,hv]; rfl
theorem T133_dw {x:Nat} (hx:x < (2 ^ 64) ^ 5000):T133 (Dw x,()) = some (Dw x,()):=T133_h (Dw_ws hx) (nv_Dw x)
theorem W138_eq (w:Nat) (hw:w < 2 ^ 64) (n:Int) :
    W138_6 (((w:Int),(n,((0:Int),()))),()) = some (.inl ((n,((blen w:Int),())),())):=by
  have hb0:blen w ≤ 64:=blen_bound hw
  have key:=lfix_ind (m138_6 S163.pre S163.F) (fun x=>x.1.1.toNat)
    (fun x=>∃ v k:Nat,v < 2 ^ 64 ∧ k + blen v = blen w ∧ x = (((v:Int),(n,((k:Int),()))),()))
    (fun _=>.inl ((n,((blen w:Int),())),())) ?_ (((w:Int),(n,((0:Int),()))),()) ⟨w,0,hw,by omega,rfl⟩
  · exact key
  intro L x hx hL
  obtain ⟨v,k,hv,hk,rfl⟩:=hx
  unfold h138_6
  rcases Nat.eq_zero_or_pos v with rfl | hpos
  · have e1:decide (((0:Nat):Int) > 0) = false:=rfl
    have e2:blen 0 = 0:=rfl
    simp only [e1,cond_false]
    rw [show k = blen w by omega]
  · have hb:blen v = 1 + blen (v / 2):=by
      rcases Nat.lt_or_ge v 2 with h | h
      · have:v = 1:=by omega
        subst this; rfl
      · exact blen_shift (k:=1) (by simpa using h)
    have hs:shrI .u64 (v:Int) 1 = ((v / 2:Nat):Int):=shrN v 1 (by omega)
    simp (disch:=omega) only [wadd,wadd1,wadd64,wsubn,wsub1,wmul64,ilt_t,ilt_f,ile_t,ile_f,igt_t,igt_f,ige_t,ige_f,ipos_t,ipos_f,igt0_t,igt0_f,nnn,beq0_t,beq0_f,bne0_t,bne0_f,Int.toNat_natCast,Int.toNat_zero,cond_true,cond_false,Bool.and_self,Bool.true_and,Bool.and_true,Bool.false_and,Bool.and_false,Bool.not_true,Bool.not_false,Bool.or_self,Bool.true_or,Bool.or_true,Bool.false_or,Bool.or_false,hs]
    refine hL _ ⟨v / 2,k + 1,by omega,by omega,rfl⟩ (by simp only [Int.toNat_natCast]; omega)
theorem T138_eq (l:List Nat) (hl:Ws l):T138 (Wd l,()) = some ((blen (nv (2 ^ 64) l):Int),()):=by
  obtain ⟨h,hlen⟩:=hl
  show t138 S163.pre S163.F W138_6 (Wd l) = _
  unfold t138
  have p0:=T163_eq l hlen
  have hle:=(trim_len l).1
  simp only [pre163 p0,fun163 p0,cond_true,Wd_len]
  rcases Nat.eq_zero_or_pos (trimL l).length with h0 | h0
  · rw [h0,trim_nil h h0]; rfl
  · have hd:=getD_lt (by decide) h ((trimL l).length - 1)
    have hb:=blen_bound hd
    have hw:=W138_eq _ hd ((trimL l).length:Int)
    have hr:=blen_row h h0
    simp (disch:=omega) only [wadd,wadd1,wadd64,wsubn,wsub1,wmul64,ilt_t,ilt_f,ile_t,ile_f,igt_t,igt_f,ige_t,ige_f,ipos_t,ipos_f,igt0_t,igt0_f,nnn,beq0_t,beq0_f,bne0_t,bne0_f,Int.toNat_natCast,Int.toNat_zero,cond_true,cond_false,Bool.and_self,Bool.true_and,Bool.and_true,Bool.false_and,Bool.and_false,Bool.not_true,Bool.not_false,Bool.or_self,Bool.true_or,Bool.or_true,Bool.false_or,Bool.or_false,Wd_getD,hw]
    show some (IntKind.wrap .i64 (IntKind.wrap .i64 (64 * IntKind.wrap .i64 (((trimL l).length:Int) - 1)) + (blen (l.getD ((trimL l).length - 1) 0):Int)),()) = _
    simp (disch:=omega) only [wadd,wadd1,wadd64,wsubn,wsub1,wmul64,ilt_t,ilt_f,ile_t,ile_f,igt_t,igt_f,ige_t,ige_f,ipos_t,ipos_f,igt0_t,igt0_f,nnn,beq0_t,beq0_f,bne0_t,bne0_f,Int.toNat_natCast,Int.toNat_zero,cond_true,cond_false,Bool.and_self,Bool.true_and,Bool.and_true,Bool.false_and,Bool.and_false,Bool.not_true,Bool.not_false,Bool.or_self,Bool.true_or,Bool.or_true,Bool.false_or,Bool.or_false]
    rw [hr]
theorem T138_dw {x:Nat} (hx:x < (2 ^ 64) ^ 5000):T138 (Dw x,()) = some ((blen x:Int),()):=by
  have:=T138_eq (dg (2 ^ 64) x) (Dw_ws hx)
  rw [nv_Dw] at this
  exact this
theorem T183_eq (l:List Nat) (i:Nat):T183 (Wd l,(i:Int),()) = some (((l.getD i 0:Nat):Int),()):=by
  show t183 (Wd l) i = _
  unfold t183
  rcases Nat.lt_or_ge i l.length with h | h
  · simp (disch:=omega) only [wadd,wadd1,wadd64,wsubn,wsub1,wmul64,ilt_t,ilt_f,ile_t,ile_f,igt_t,igt_f,ige_t,ige_f,ipos_t,ipos_f,igt0_t,igt0_f,nnn,beq0_t,beq0_f,bne0_t,bne0_f,Int.toNat_natCast,Int.toNat_zero,cond_true,cond_false,Bool.and_self,Bool.true_and,Bool.and_true,Bool.false_and,Bool.and_false,Bool.not_true,Bool.not_false,Bool.or_self,Bool.true_or,Bool.or_true,Bool.false_or,Bool.or_false,Wd_len,Wd_getD]
  · have:l.getD i 0 = 0:=by rw [List.getD_eq_getElem?_getD,List.getElem?_eq_none h]; rfl
    simp (disch:=omega) only [wadd,wadd1,wadd64,wsubn,wsub1,wmul64,ilt_t,ilt_f,ile_t,ile_f,igt_t,igt_f,ige_t,ige_f,ipos_t,ipos_f,igt0_t,igt0_f,nnn,beq0_t,beq0_f,bne0_t,bne0_f,Int.toNat_natCast,Int.toNat_zero,cond_true,cond_false,Bool.and_self,Bool.true_and,Bool.and_true,Bool.false_and,Bool.and_false,Bool.not_true,Bool.not_false,Bool.or_self,Bool.true_or,Bool.or_true,Bool.false_or,Bool.or_false,Wd_len,this]
    rfl
theorem nv_digit {B:Nat} (hB:2 ≤ B) {l:List Nat} (h:∀ x ∈ l,x < B) (k:Nat):nv B l / B ^ k % B = l.getD k 0:=by
  rcases Nat.lt_or_ge k l.length with hk | hk
  · have e:=pd_of (by omega) l h
    have:=pd_get B l.length (nv B l) k hk
    rw [← e] at this
    exact this.symm
  · rw [List.getD_eq_getElem?_getD,List.getElem?_eq_none hk,Nat.div_eq_of_lt]
    · exact Nat.zero_mod _
    · exact Nat.lt_of_lt_of_le (nv_lt hB l h) (Nat.pow_le_pow_right (by omega) hk)
theorem bit_digit {v k s:Nat} (hs:s < 64):v / (2 ^ 64) ^ k % 2 ^ 64 / 2 ^ s % 2 = v / 2 ^ (64 * k + s) % 2:=by
  rw [Nat.pow_add,Nat.pow_mul,← Nat.div_div_eq_div_mul]
  generalize v / (2 ^ 64) ^ k = w
  have e:2 ^ 64 = 2 ^ s * 2 ^ (64 - s):=by rw [← Nat.pow_add]; congr 1; omega
  rw [e,Nat.mod_mul_right_div_self]
  rw [show 64 - s = (63 - s) + 1 by omega,Nat.pow_succ,Nat.mul_comm (2 ^ (63 - s)) 2]
  exact Nat.mod_mul_right_mod _ _ _
theorem quo64 (n:Nat) (hn:n ≤ 1000000000):quoI .i64 (n:Int) 64 = ((n / 64:Nat):Int):=by
  unfold quoI
  rw [show Int.tdiv (n:Int) 64 = ((n / 64:Nat):Int) from rfl,wrapI (by omega)]
theorem tmod64 (n:Nat):Int.tmod (n:Int) 64 = ((n % 64:Nat):Int):=rfl
theorem and1N (n:Nat) (h:n < 2 ^ 64):andI .u64 (n:Int) 1 = ((n % 2:Nat):Int):=by
  have:=and1 n
  rw [Nat.mod_eq_of_lt h] at this
  exact this
theorem T167_eq (l:List Nat) (hl:Ws l) (i:Nat) (hi:i ≤ 1000000000):T167 (Wd l,(i:Int),()) = some (((nv (2 ^ 64) l / 2 ^ i % 2:Nat):Int),()):=by
  show t167 (Wd l) i = _
  unfold t167
  have hd:=nv_digit (B:=2 ^ 64) (by decide) hl.1 (i / 64)
  have hb:=bit_digit (v:=nv (2 ^ 64) l) (k:=i / 64) (s:=i % 64) (Nat.mod_lt _ (by decide))
  rw [hd,Nat.div_add_mod] at hb
  have hlt:=getD_lt (by decide) hl.1 (i / 64)
  rw [← hb]
  rcases Nat.lt_or_ge (i / 64) l.length with h | h
  · have hq:l.getD (i / 64) 0 / 2 ^ (i % 64) < 2 ^ 64:=Nat.lt_of_le_of_lt (Nat.div_le_self _ _) hlt
    simp (disch:=omega) only [wadd,wadd1,wadd64,wsubn,wsub1,wmul64,ilt_t,ilt_f,ile_t,ile_f,igt_t,igt_f,ige_t,ige_f,ipos_t,ipos_f,igt0_t,igt0_f,nnn,beq0_t,beq0_f,bne0_t,bne0_f,Int.toNat_natCast,Int.toNat_zero,cond_true,cond_false,Bool.and_self,Bool.true_and,Bool.and_true,Bool.false_and,Bool.and_false,Bool.not_true,Bool.not_false,Bool.or_self,Bool.true_or,Bool.or_true,Bool.false_or,Bool.or_false,ineg_f,quo64,tmod64,wu_id,Wd_len,Wd_getD,shrN,and1N _ hq]
  · have:l.getD (i / 64) 0 = 0:=by rw [List.getD_eq_getElem?_getD,List.getElem?_eq_none h]; rfl
    simp (disch:=omega) only [wadd,wadd1,wadd64,wsubn,wsub1,wmul64,ilt_t,ilt_f,ile_t,ile_f,igt_t,igt_f,ige_t,ige_f,ipos_t,ipos_f,igt0_t,igt0_f,nnn,beq0_t,beq0_f,bne0_t,bne0_f,Int.toNat_natCast,Int.toNat_zero,cond_true,cond_false,Bool.and_self,Bool.true_and,Bool.and_true,Bool.false_and,Bool.and_false,Bool.not_true,Bool.not_false,Bool.or_self,Bool.true_or,Bool.or_true,Bool.false_or,Bool.or_false,ineg_f,quo64,Wd_len,this,Nat.zero_div]
    rfl
theorem T167_dw {x:Nat} (hx:x < (2 ^ 64) ^ 5000) (i:Nat) (hi:i ≤ 1000000000):T167 (Dw x,(i:Int),()) = some (((x / 2 ^ i % 2:Nat):Int),()):=by
  have:=T167_eq (dg (2 ^ 64) x) (Dw_ws hx) i hi
  rw [nv_Dw] at this
  exact this
theorem nv_take_trim (B:Nat) (l:List Nat):∀ d K:Nat,(trimL l).length ≤ K → l.length ≤ K + d → nv B (l.take K) = nv B l
  | 0,K,_,h=>by rw [List.take_of_length_le (by omega)]
  | d + 1,K,h1,h2=>by
    have h3:=nv_take_trim B l d (K + 1) (by omega) (by omega)
    rw [nv_take_next,trim_out l K h1,Nat.mul_zero,Nat.add_zero] at h3
    exact h3
theorem W168_eq (a b:List Nat) (ha:Ws a) (hb:Ws b) (K:Nat) (hK:K ≤ 900000) (haK:nv (2 ^ 64) (a.take K) = nv (2 ^ 64) a) (hbK:nv (2 ^ 64) (b.take K) = nv (2 ^ 64) b) :
    W168_7 ((Wd a,(Wd b,((0:Int),((K:Int),((0:Int),((),())))))),(Wd (List.replicate (K + 1) 0),())) =
      some (.inl (((K:Int),((((nv (2 ^ 64) a + nv (2 ^ 64) b) / (2 ^ 64) ^ K:Nat):Int),((),()))),(Wd (pd (2 ^ 64) K ((nv (2 ^ 64) a + nv (2 ^ 64) b) % (2 ^ 64) ^ K) ++ [0]),()))):=by
  have key:=lfix_ind (m168_7 S163.pre S163.F S183.pre S183.F S133.pre S133.F) (fun x=>K - x.1.2.2.1.toNat)
    (fun x=>∃ (i:Nat) (out:List Nat) (c:Nat),i ≤ K ∧ out.length = i ∧ (∀ x ∈ out,x < 2 ^ 64) ∧ c ≤ 1 ∧ nv (2 ^ 64) out + (2 ^ 64) ^ i * c = nv (2 ^ 64) (a.take i) + nv (2 ^ 64) (b.take i) ∧ x = ((Wd a,(Wd b,((i:Int),((K:Int),((c:Int),((),())))))),(Wd (out ++ (List.replicate (K + 1) 0).drop i),())))
    (fun _=>.inl (((K:Int),((((nv (2 ^ 64) a + nv (2 ^ 64) b) / (2 ^ 64) ^ K:Nat):Int),((),()))),(Wd (pd (2 ^ 64) K ((nv (2 ^ 64) a + nv (2 ^ 64) b) % (2 ^ 64) ^ K) ++ [0]),()))) ?_ _
    ⟨0,[],0,Nat.zero_le _,rfl,(fun x hx=>by simp at hx),by decide,by simp [nv],rfl⟩
  · exact key
  intro L x hx hL
  obtain ⟨i,out,c,hi,hol,hod,hc,hov,rfl⟩:=hx
  unfold h168_7
  rcases Nat.lt_or_ge i K with hlt | hge
  · have hxa:=getD_lt (by decide) ha.1 i
    have hxb:=getD_lt (by decide) hb.1 i
    have hna:=nv_take_next (2 ^ 64) a i
    have hnb:=nv_take_next (2 ^ 64) b i
    have p1:=T183_eq a i
    have p2:=T183_eq b i
    have hset:=fun v=>set_drop (a:=List.replicate (K + 1) 0) (v:=v) hol (by simp; omega)
    have hlen:(out ++ (List.replicate (K + 1) 0).drop i).length = K + 1:=by simp; omega
    have hstep:=carry_step (B:=2 ^ 64) (V':=nv (2 ^ 64) (a.take (i + 1)) + nv (2 ^ 64) (b.take (i + 1))) (d:=a.getD i 0 + b.getD i 0) hol hov (by
      rw [hna,hnb,Nat.mul_add]; omega)
    generalize a.getD i 0 = da at *
    generalize b.getD i 0 = db at *
    have e1:IntKind.wrap .u64 ((da:Int) + (db:Int)) = (((da + db) % 2 ^ 64:Nat):Int):=by rw [← Int.natCast_add]; exact wrapN _
    have e2:IntKind.wrap .u64 ((((da + db) % 2 ^ 64:Nat):Int) + (c:Int)) = (((da + db + c) % 2 ^ 64:Nat):Int):=by
      rw [← Int.natCast_add,wrapN]; congr 1; omega
    have hgo:∀ c':Nat,c' = (da + db + c) / 2 ^ 64 → L ((Wd a,(Wd b,(((i + 1:Nat):Int),((K:Int),((c':Int),((),())))))),(Wd (out ++ [(da + db + c) % 2 ^ 64] ++ (List.replicate (K + 1) 0).drop (i + 1)),())) = _:=fun c' h =>
      hL _ ⟨i + 1,out ++ [(da + db + c) % 2 ^ 64],c',by omega,by simp; omega,app_lt hod (Nat.mod_lt _ (by decide)),by omega,by rw [h]; exact hstep,rfl⟩ (by simp only [Int.toNat_natCast]; omega)
    simp (disch:=omega) only [wadd,wadd1,wadd64,wsubn,wsub1,wmul64,ilt_t,ilt_f,ile_t,ile_f,igt_t,igt_f,ige_t,ige_f,ipos_t,ipos_f,igt0_t,igt0_f,nnn,beq0_t,beq0_f,bne0_t,bne0_f,Int.toNat_natCast,Int.toNat_zero,cond_true,cond_false,Bool.and_self,Bool.true_and,Bool.and_true,Bool.false_and,Bool.and_false,Bool.not_true,Bool.not_false,Bool.or_self,Bool.true_or,Bool.or_true,Bool.false_or,Bool.or_false,pre183 p1,fun183 p1,pre183 p2,fun183 p2,e1,e2,Wd_len,hlen]
    by_cases hcar:2 ^ 64 ≤ da + db + c
    · have hor:(decide ((((da + db) % 2 ^ 64:Nat):Int) < (da:Int)) || decide ((((da + db + c) % 2 ^ 64:Nat):Int) < (((da + db) % 2 ^ 64:Nat):Int))) = true:=by
        simp only [Bool.or_eq_true,decide_eq_true_eq]; omega
      rw [hor,cond_true,Wd_set,hset]
      exact hgo 1 (by omega)
    · have hor:(decide ((((da + db) % 2 ^ 64:Nat):Int) < (da:Int)) || decide ((((da + db + c) % 2 ^ 64:Nat):Int) < (((da + db) % 2 ^ 64:Nat):Int))) = false:=by
        simp only [Bool.or_eq_false_iff,decide_eq_false_iff_not]; omega
      rw [hor,cond_false,Wd_set,hset]
      exact hgo 0 (by omega)
  · have e:i = K:=by omega
    subst e
    rw [haK,hbK] at hov
    obtain ⟨h1,h2⟩:=carry_end (by decide) hol hod hov
    simp (disch:=omega) only [wadd,wadd1,wadd64,wsubn,wsub1,wmul64,ilt_t,ilt_f,ile_t,ile_f,igt_t,igt_f,ige_t,ige_f,ipos_t,ipos_f,igt0_t,igt0_f,nnn,beq0_t,beq0_f,bne0_t,bne0_f,Int.toNat_natCast,Int.toNat_zero,cond_true,cond_false,Bool.and_self,Bool.true_and,Bool.and_true,Bool.false_and,Bool.and_false,Bool.not_true,Bool.not_false,Bool.or_self,Bool.true_or,Bool.or_true,Bool.false_or,Bool.or_false]
    rw [h1,h2,List.drop_replicate,Nat.add_sub_cancel_left]
    rfl
theorem add_set {K V c:Nat} (hV:V < (2 ^ 64) ^ K):(pd (2 ^ 64) K V ++ [0]).set K c = pd (2 ^ 64) K V ++ [c]:=by
  rw [List.set_append_right _ _ (by rw [pd_len]; exact Nat.le_refl _),pd_len,Nat.sub_self]; rfl
theorem T168_eq (a b:List Nat) (ha:Ws a) (hb:Ws b) (ha2:a.length ≤ 800000) (hb2:b.length ≤ 800000):T168 (Wd a,Wd b,()) = some (Dw (nv (2 ^ 64) a + nv (2 ^ 64) b),()):=by
  show t168 S163.pre S163.F S183.pre S183.F S133.pre S133.F W168_7 (Wd a) (Wd b) = _
  unfold t168
  have p1:=T163_eq a ha.2
  have p2:=T163_eq b hb.2
  have hla0:=(trim_len a).1
  have hlb0:=(trim_len b).1
  have fin:∀ K:Nat,(trimL a).length ≤ K → (trimL b).length ≤ K → K ≤ 800000 →
      (bif decide ((0:Int) ≤ IntKind.wrap .i64 ((K:Int) + 1)) && decide (IntKind.wrap .i64 ((K:Int) + 1) * 8 ≤ 140737488355328) then
        Vx.obind (W168_7 ((Wd a,(Wd b,((0:Int),((K:Int),((0:Int),((),())))))),((List.replicate (Int.toNat (IntKind.wrap .i64 ((K:Int) + 1))) (0:Int)),()))) fun y5 =>
            Vx.obind2 y5 (fun y6 =>
            bif ((decide ((0:Int) ≤ y6.1.1)) && (decide (y6.1.1 < (y6.2.1.length:Int)))) then
              (bif (S133.pre ((y6.2.1.set (Int.toNat y6.1.1) y6.1.2.1),())) then
                (some (S133.F ((y6.2.1.set (Int.toNat y6.1.1) y6.1.2.1),())))
              else none)
            else none) (fun z6 =>
            none)
        else none) = some (Dw (nv (2 ^ 64) a + nv (2 ^ 64) b),()):=by
    intro K haK hbK hK
    have haK:=nv_take_trim (2 ^ 64) a a.length K haK (by omega)
    have hbK:=nv_take_trim (2 ^ 64) b b.length K hbK (by omega)
    have hw:=W168_eq a b ha hb K (by omega) haK hbK
    have hB:0 < (2 ^ 64) ^ K:=Nat.pow_pos (by decide)
    have hla:=Nat.lt_of_lt_of_le (nv_lt (B:=2 ^ 64) (by decide) (a.take K) fun x hx=>ha.1 x (List.mem_of_mem_take hx)) (Nat.pow_le_pow_right (by decide) (show (a.take K).length ≤ K by simp; omega))
    have hlb:=Nat.lt_of_lt_of_le (nv_lt (B:=2 ^ 64) (by decide) (b.take K) fun x hx=>hb.1 x (List.mem_of_mem_take hx)) (Nat.pow_le_pow_right (by decide) (show (b.take K).length ≤ K by simp; omega))
    rw [haK] at hla
    rw [hbK] at hlb
    have hq:(nv (2 ^ 64) a + nv (2 ^ 64) b) / (2 ^ 64) ^ K < 2 ^ 64:=by
      rw [Nat.div_lt_iff_lt_mul hB]
      have:2 * (2 ^ 64) ^ K ≤ 2 ^ 64 * (2 ^ 64) ^ K:=Nat.mul_le_mul_right _ (by decide)
      omega
    have hlast:nv (2 ^ 64) (pd (2 ^ 64) K ((nv (2 ^ 64) a + nv (2 ^ 64) b) % (2 ^ 64) ^ K) ++ [(nv (2 ^ 64) a + nv (2 ^ 64) b) / (2 ^ 64) ^ K]) = nv (2 ^ 64) a + nv (2 ^ 64) b:=by
      rw [nv_snoc,pd_len,pd_nv (by decide) _ _ (Nat.mod_lt _ hB)]
      exact Nat.mod_add_div _ _
    have p0:=T133_h ⟨app_lt (pd_lt (by decide) K ((nv (2 ^ 64) a + nv (2 ^ 64) b) % (2 ^ 64) ^ K)) hq,by simp [pd_len]; omega⟩ hlast
    have hs:=fun c=>add_set (c:=c) (Nat.mod_lt (nv (2 ^ 64) a + nv (2 ^ 64) b) hB)
    have hpl:=pd_len (2 ^ 64) K ((nv (2 ^ 64) a + nv (2 ^ 64) b) % (2 ^ 64) ^ K)
    generalize (nv (2 ^ 64) a + nv (2 ^ 64) b) / (2 ^ 64) ^ K = C at *
    generalize pd (2 ^ 64) K ((nv (2 ^ 64) a + nv (2 ^ 64) b) % (2 ^ 64) ^ K) = O at *
    have e0:decide (((K + 1:Nat):Int) * 8 ≤ 140737488355328) = true:=decide_eq_true (by omega)
    simp (disch:=omega) only [wadd,wadd1,wadd64,wsubn,wsub1,wmul64,ilt_t,ilt_f,ile_t,ile_f,igt_t,igt_f,ige_t,ige_f,ipos_t,ipos_f,igt0_t,igt0_f,nnn,beq0_t,beq0_f,bne0_t,bne0_f,Int.toNat_natCast,Int.toNat_zero,cond_true,cond_false,Bool.and_self,Bool.true_and,Bool.and_true,Bool.false_and,Bool.and_false,Bool.not_true,Bool.not_false,Bool.or_self,Bool.true_or,Bool.or_true,Bool.false_or,Bool.or_false,e0,Wd_rep,hw]
    show (bif decide ((0:Int) ≤ (K:Int)) && decide ((K:Int) < ((Wd (O ++ [0])).length:Int)) then (bif S133.pre ((Wd (O ++ [0])).set (Int.toNat (K:Int)) (C:Int),()) then some (S133.F ((Wd (O ++ [0])).set (Int.toNat (K:Int)) (C:Int),())) else none) else none) = _
    have hl1:(O ++ [0]).length = K + 1:=by simp [hpl]
    simp (disch:=omega) only [wadd,wadd1,wadd64,wsubn,wsub1,wmul64,ilt_t,ilt_f,ile_t,ile_f,igt_t,igt_f,ige_t,ige_f,ipos_t,ipos_f,igt0_t,igt0_f,nnn,beq0_t,beq0_f,bne0_t,bne0_f,Int.toNat_natCast,Int.toNat_zero,cond_true,cond_false,Bool.and_self,Bool.true_and,Bool.and_true,Bool.false_and,Bool.and_false,Bool.not_true,Bool.not_false,Bool.or_self,Bool.true_or,Bool.or_true,Bool.false_or,Bool.or_false,Wd_len,hl1,Wd_set,hs,pre133 p0,fun133 p0]
    rfl
  simp only [pre163 p1,fun163 p1,pre163 p2,fun163 p2,cond_true]
  by_cases h:(trimL a).length < (trimL b).length
  · rw [igt_t _ _ h,cond_true]
    exact fin (trimL b).length (by omega) (Nat.le_refl _) (by omega)
  · rw [igt_f _ _ (by omega),cond_false]
    exact fin (trimL a).length (Nat.le_refl _) (by omega) (by omega)
theorem T168_dw {x y:Nat} (hx:x < (2 ^ 64) ^ 5000) (hy:y < (2 ^ 64) ^ 5000):T168 (Dw x,Dw y,()) = some (Dw (x + y),()):=by
  have h1:(dg (2 ^ 64) x).length ≤ 5000:=dg_len_le (by decide) _ _ hx
  have h2:(dg (2 ^ 64) y).length ≤ 5000:=dg_len_le (by decide) _ _ hy
  have:=T168_eq (dg (2 ^ 64) x) (dg (2 ^ 64) y) (Dw_ws hx) (Dw_ws hy) (by omega) (by omega)
  rw [nv_Dw,nv_Dw] at this
  exact this
theorem W166_eq (a b:List Nat) (ha:∀ x ∈ a,x < 2 ^ 64) (hb:∀ x ∈ b,x < 2 ^ 64) (hla:a.length ≤ 1000000) (hab:a.length = b.length) :
    W166_8 ((Wd a,(Wd b,((a.length:Int) - 1,()))),()) = some (if nv (2 ^ 64) a = nv (2 ^ 64) b then .inl ((),()) else .inr (((if nv (2 ^ 64) a < nv (2 ^ 64) b then (-1:Int) else 1),()),())):=by
  have key:=lfix_ind (m166_8 S163.pre S163.F) (fun x=>(x.1.2.2.1 + 1).toNat)
    (fun x=>∃ j:Nat,j ≤ a.length ∧ nv (2 ^ 64) (a.drop j) = nv (2 ^ 64) (b.drop j) ∧ x = ((Wd a,(Wd b,((j:Int) - 1,()))),()))
    (fun _=>if nv (2 ^ 64) a = nv (2 ^ 64) b then .inl ((),()) else .inr (((if nv (2 ^ 64) a < nv (2 ^ 64) b then (-1:Int) else 1),()),())) ?_ ((Wd a,(Wd b,((a.length:Int) - 1,()))),())
    ⟨a.length,Nat.le_refl _,by rw [List.drop_length,hab,List.drop_length],rfl⟩
  · exact key
  intro L x hx hL
  obtain ⟨j,hj,hd,rfl⟩:=hx
  unfold h166_8
  rcases j with _ | i
  · have e1:decide ((((0:Nat):Int) - 1) ≥ 0) = false:=rfl
    rw [List.drop_zero,List.drop_zero] at hd
    simp only [e1,cond_false,if_pos hd]
  · have e0:(((i + 1:Nat):Int) - 1) = (i:Int):=by omega
    have e2:IntKind.wrap .i64 ((i:Int) - 1) = (i:Int) - 1:=wrapI (by omega)
    have e3:decide ((i:Int) ≥ 0) = true:=decide_eq_true (by omega)
    simp (disch:=omega) only [e0,e2,e3,wadd,wadd1,wadd64,wsubn,wsub1,wmul64,ilt_t,ilt_f,ile_t,ile_f,igt_t,igt_f,ige_t,ige_f,ipos_t,ipos_f,igt0_t,igt0_f,nnn,beq0_t,beq0_f,bne0_t,bne0_f,Int.toNat_natCast,Int.toNat_zero,cond_true,cond_false,Bool.and_self,Bool.true_and,Bool.and_true,Bool.false_and,Bool.and_false,Bool.not_true,Bool.not_false,Bool.or_self,Bool.true_or,Bool.or_true,Bool.false_or,Bool.or_false,Wd_len,Wd_getD]
    rcases Nat.lt_trichotomy (a.getD i 0) (b.getD i 0) with h | h | h
    · have hr:=row_lt (by decide) ha (by omega) (by omega) hd h
      simp (disch:=omega) only [wadd,wadd1,wadd64,wsubn,wsub1,wmul64,ilt_t,ilt_f,ile_t,ile_f,igt_t,igt_f,ige_t,ige_f,ipos_t,ipos_f,igt0_t,igt0_f,nnn,beq0_t,beq0_f,bne0_t,bne0_f,Int.toNat_natCast,Int.toNat_zero,cond_true,cond_false,Bool.and_self,Bool.true_and,Bool.and_true,Bool.false_and,Bool.and_false,Bool.not_true,Bool.not_false,Bool.or_self,Bool.true_or,Bool.or_true,Bool.false_or,Bool.or_false]
      rw [if_neg (by omega),if_pos hr]
    · simp (disch:=omega) only [wadd,wadd1,wadd64,wsubn,wsub1,wmul64,ilt_t,ilt_f,ile_t,ile_f,igt_t,igt_f,ige_t,ige_f,ipos_t,ipos_f,igt0_t,igt0_f,nnn,beq0_t,beq0_f,bne0_t,bne0_f,Int.toNat_natCast,Int.toNat_zero,cond_true,cond_false,Bool.and_self,Bool.true_and,Bool.and_true,Bool.false_and,Bool.and_false,Bool.not_true,Bool.not_false,Bool.or_self,Bool.true_or,Bool.or_true,Bool.false_or,Bool.or_false]
      refine hL _ ⟨i,by omega,?_,rfl⟩ (by simp only [Int.toNat_natCast]; omega)
      rw [nv_drop_next _ a i (by omega),nv_drop_next _ b i (by omega),hd,h]
    · have hr:=row_lt (by decide) hb (by omega) (by omega) hd.symm h
      simp (disch:=omega) only [wadd,wadd1,wadd64,wsubn,wsub1,wmul64,ilt_t,ilt_f,ile_t,ile_f,igt_t,igt_f,ige_t,ige_f,ipos_t,ipos_f,igt0_t,igt0_f,nnn,beq0_t,beq0_f,bne0_t,bne0_f,Int.toNat_natCast,Int.toNat_zero,cond_true,cond_false,Bool.and_self,Bool.true_and,Bool.and_true,Bool.false_and,Bool.and_false,Bool.not_true,Bool.not_false,Bool.or_self,Bool.true_or,Bool.or_true,Bool.false_or,Bool.or_false]
      rw [if_neg (by omega),if_neg (by omega)]
theorem T166_eq {x y:Nat} (hx:x < (2 ^ 64) ^ 5000) (hy:y < (2 ^ 64) ^ 5000):T166 (Dw x,Dw y,()) = some (if x = y then 0 else if x < y then -1 else 1,()):=by
  show t166 S163.pre S163.F W166_8 (Dw x) (Dw y) = _
  unfold t166
  have p0:=T163_dw hx
  have p1:=T163_dw hy
  have hX:=Dw_ws hx
  have hY:=Dw_ws hy
  have hlx:=hX.2
  simp only [pre163 p0,fun163 p0,pre163 p1,fun163 p1,cond_true]
  clear p0 p1
  rcases Nat.lt_trichotomy (dg (2 ^ 64) x).length (dg (2 ^ 64) y).length with h | h | h
  · have hr:=dg_len_lt (by decide) h
    have e:(((dg (2 ^ 64) x).length:Int) != ((dg (2 ^ 64) y).length:Int)) = true:=bne_iff_ne.2 (by omega)
    simp (disch:=omega) only [wadd,wadd1,wadd64,wsubn,wsub1,wmul64,ilt_t,ilt_f,ile_t,ile_f,igt_t,igt_f,ige_t,ige_f,ipos_t,ipos_f,igt0_t,igt0_f,nnn,beq0_t,beq0_f,bne0_t,bne0_f,Int.toNat_natCast,Int.toNat_zero,cond_true,cond_false,Bool.and_self,Bool.true_and,Bool.and_true,Bool.false_and,Bool.and_false,Bool.not_true,Bool.not_false,Bool.or_self,Bool.true_or,Bool.or_true,Bool.false_or,Bool.or_false,e]
    rw [if_neg (by omega),if_pos hr]
  · have hw:=W166_eq _ _ hX.1 hY.1 hlx h
    rw [nv_Dw,nv_Dw] at hw
    have e:(((dg (2 ^ 64) x).length:Int) != ((dg (2 ^ 64) y).length:Int)) = false:=by rw [h]; exact bne_self_eq_false _
    have e2:IntKind.wrap .i64 (((dg (2 ^ 64) y).length:Int) - 1) = ((dg (2 ^ 64) x).length:Int) - 1:=by rw [wrapI (by omega)]; omega
    unfold Dw
    simp (disch:=omega) only [wadd,wadd1,wadd64,wsubn,wsub1,wmul64,ilt_t,ilt_f,ile_t,ile_f,igt_t,igt_f,ige_t,ige_f,ipos_t,ipos_f,igt0_t,igt0_f,nnn,beq0_t,beq0_f,bne0_t,bne0_f,Int.toNat_natCast,Int.toNat_zero,cond_true,cond_false,Bool.and_self,Bool.true_and,Bool.and_true,Bool.false_and,Bool.and_false,Bool.not_true,Bool.not_false,Bool.or_self,Bool.true_or,Bool.or_true,Bool.false_or,Bool.or_false,e,e2,hw]
    by_cases he:x = y
    · rw [if_pos he,if_pos he]; first | rfl | skip
    · rw [if_neg he,if_neg he]; first | rfl | skip
  · have hr:=dg_len_lt (by decide) h
    have e:(((dg (2 ^ 64) x).length:Int) != ((dg (2 ^ 64) y).length:Int)) = true:=bne_iff_ne.2 (by omega)
    simp (disch:=omega) only [wadd,wadd1,wadd64,wsubn,wsub1,wmul64,ilt_t,ilt_f,ile_t,ile_f,igt_t,igt_f,ige_t,ige_f,ipos_t,ipos_f,igt0_t,igt0_f,nnn,beq0_t,beq0_f,bne0_t,bne0_f,Int.toNat_natCast,Int.toNat_zero,cond_true,cond_false,Bool.and_self,Bool.true_and,Bool.and_true,Bool.false_and,Bool.and_false,Bool.not_true,Bool.not_false,Bool.or_self,Bool.true_or,Bool.or_true,Bool.false_or,Bool.or_false,e]
    rw [if_neg (by omega),if_neg (by omega)]
theorem wrapS (a b:Nat) (h:b ≤ 2 ^ 64):IntKind.wrap .u64 ((a:Int) - (b:Int)) = (((a + 2 ^ 64 - b) % 2 ^ 64:Nat):Int):=by
  show ((a:Int) - (b:Int)) % 2 ^ 64 = _
  omega
theorem W188_eq (a b:List Nat) (ha:∀ x ∈ a,x < 2 ^ 64) (hb:∀ x ∈ b,x < 2 ^ 64) (hla:a.length ≤ 1000000) (hba:b.length ≤ a.length) (hv:nv (2 ^ 64) b ≤ nv (2 ^ 64) a) :
    W188_5 (((a.length:Int),(Wd a,(Wd b,((0:Int),((0:Int),((),())))))),(Wd (List.replicate a.length 0),())) = some (.inl (((),()),(Wd (pd (2 ^ 64) a.length (nv (2 ^ 64) a - nv (2 ^ 64) b)),()))):=by
  have key:=lfix_ind (m188_5 S163.pre S163.F S183.pre S183.F S133.pre S133.F) (fun x=>a.length - x.1.2.2.2.2.1.toNat)
    (fun x=>∃ (i:Nat) (out:List Nat) (c:Nat),i ≤ a.length ∧ out.length = i ∧ (∀ x ∈ out,x < 2 ^ 64) ∧ c ≤ 1 ∧ nv (2 ^ 64) (a.take i) + (2 ^ 64) ^ i * c = nv (2 ^ 64) (b.take i) + nv (2 ^ 64) out ∧
      x = (((a.length:Int),(Wd a,(Wd b,((c:Int),((i:Int),((),())))))),(Wd (out ++ (List.replicate a.length 0).drop i),())))
    (fun _=>.inl (((),()),(Wd (pd (2 ^ 64) a.length (nv (2 ^ 64) a - nv (2 ^ 64) b)),()))) ?_ _
    ⟨0,[],0,Nat.zero_le _,rfl,(fun x hx=>by simp at hx),by decide,by simp [nv],rfl⟩
  · exact key
  intro L x hx hL
  obtain ⟨i,out,c,hi,hol,hod,hc,hov,rfl⟩:=hx
  unfold h188_5
  rcases Nat.lt_or_ge i a.length with hlt | hge
  · have hxa:=getD_lt (by decide) ha i
    have hxb:=getD_lt (by decide) hb i
    have hna:=nv_take_next (2 ^ 64) a i
    have hnb:=nv_take_next (2 ^ 64) b i
    have p2:=T183_eq b i
    have hset:=fun v=>set_drop (a:=List.replicate a.length 0) (v:=v) hol (by simp; omega)
    have hlen:(out ++ (List.replicate a.length 0).drop i).length = a.length:=by simp; omega
    generalize hda:a.getD i 0 = da at *
    generalize b.getD i 0 = db at *
    have e1:IntKind.wrap .u64 ((da:Int) - (db:Int)) = (((da + 2 ^ 64 - db) % 2 ^ 64:Nat):Int):=wrapS _ _ (by omega)
    have e2:IntKind.wrap .u64 ((((da + 2 ^ 64 - db) % 2 ^ 64:Nat):Int) - (c:Int)) = (((da + 2 ^ 64 - db - c) % 2 ^ 64:Nat):Int):=by
      rw [wrapS _ _ (by omega)]; congr 1; omega
    have hgo:∀ c':Nat,c' = (if da < db + c then 1 else 0) → L (((a.length:Int),(Wd a,(Wd b,((c':Int),(((i + 1:Nat):Int),((),())))))),(Wd (out ++ [(da + 2 ^ 64 - db - c) % 2 ^ 64] ++ (List.replicate a.length 0).drop (i + 1)),())) = _:=fun c' h =>
      hL _ ⟨i + 1,out ++ [(da + 2 ^ 64 - db - c) % 2 ^ 64],c',by omega,by simp; omega,app_lt hod (Nat.mod_lt _ (by decide)),by rw [h]; split <;> omega,by
        rw [hna,hnb,nv_snoc,hol,Nat.pow_succ]
        exact minus_step hov (by rw [h]; split <;> omega),rfl⟩ (by simp only [Int.toNat_natCast]; omega)
    simp (disch:=omega) only [wadd,wadd1,wadd64,wsubn,wsub1,wmul64,ilt_t,ilt_f,ile_t,ile_f,igt_t,igt_f,ige_t,ige_f,ipos_t,ipos_f,igt0_t,igt0_f,nnn,beq0_t,beq0_f,bne0_t,bne0_f,Int.toNat_natCast,Int.toNat_zero,cond_true,cond_false,Bool.and_self,Bool.true_and,Bool.and_true,Bool.false_and,Bool.and_false,Bool.not_true,Bool.not_false,Bool.or_self,Bool.true_or,Bool.or_true,Bool.false_or,Bool.or_false,Wd_len,Wd_getD,hda,pre183 p2,fun183 p2,e1,e2,hlen]
    by_cases hcar:da < db + c
    · have hor:(decide ((da:Int) < (db:Int)) || ((da:Int) == (db:Int)) && ((c:Int) == 1)) = true:=by
        simp only [Bool.or_eq_true,Bool.and_eq_true,decide_eq_true_eq,beq_iff_eq]; omega
      rw [hor,cond_true,Wd_set,hset]
      exact hgo 1 (by rw [if_pos hcar])
    · have hor:(decide ((da:Int) < (db:Int)) || ((da:Int) == (db:Int)) && ((c:Int) == 1)) = false:=by
        rw [Bool.eq_false_iff]; intro h
        simp only [Bool.or_eq_true,Bool.and_eq_true,decide_eq_true_eq,beq_iff_eq] at h; omega
      rw [hor,cond_false,Wd_set,hset]
      exact hgo 0 (by rw [if_neg hcar])
  · have e:i = a.length:=by omega
    subst e
    rw [List.take_length,List.take_of_length_le hba] at hov
    have hlt:=nv_lt (B:=2 ^ 64) (by decide) out hod
    rw [hol] at hlt
    have hc0:(2 ^ 64) ^ a.length * c = 0:=by
      rcases (show c = 0 ∨ c = 1 by omega) with h | h
      · rw [h,Nat.mul_zero]
      · rw [h,Nat.mul_one] at hov; omega
    have ho:=pd_at (B:=2 ^ 64) (v:=nv (2 ^ 64) a - nv (2 ^ 64) b) (by decide) hod hol (by omega)
    rw [List.drop_replicate,Nat.sub_self,List.replicate_zero,List.append_nil]
    simp (disch:=omega) only [wadd,wadd1,wadd64,wsubn,wsub1,wmul64,ilt_t,ilt_f,ile_t,ile_f,igt_t,igt_f,ige_t,ige_f,ipos_t,ipos_f,igt0_t,igt0_f,nnn,beq0_t,beq0_f,bne0_t,bne0_f,Int.toNat_natCast,Int.toNat_zero,cond_true,cond_false,Bool.and_self,Bool.true_and,Bool.and_true,Bool.false_and,Bool.and_false,Bool.not_true,Bool.not_false,Bool.or_self,Bool.true_or,Bool.or_true,Bool.false_or,Bool.or_false]
    rw [← ho]
theorem T188_eq {x y:Nat} (hx:x < (2 ^ 64) ^ 5000) (h:y ≤ x):T188 (Dw x,Dw y,()) = some (Dw (x - y),()):=by
  show t188 S163.pre S163.F S183.pre S183.F S133.pre S133.F W188_5 (Dw x) (Dw y) = _
  unfold t188
  have hy:y < (2 ^ 64) ^ 5000:=Nat.lt_of_le_of_lt h hx
  have p0:=T163_dw hx
  have hX:=Dw_ws hx
  have hY:=Dw_ws hy
  have hlx:=hX.2
  have hw:=W188_eq (dg (2 ^ 64) x) (dg (2 ^ 64) y) hX.1 hY.1 hlx (dg_len_mono (by decide) h) (by rw [nv_Dw,nv_Dw]; exact h)
  rw [nv_Dw,nv_Dw] at hw
  have hlt:=dg_len_gt (B:=2 ^ 64) (by decide) x
  have q1:=T133_h (l:=pd (2 ^ 64) (dg (2 ^ 64) x).length (x - y)) (v:=x - y) ⟨pd_lt (by decide) _ _,by rw [pd_len]; exact hlx⟩ (pd_nv (by decide) _ _ (by omega))
  have e0:decide ((((dg (2 ^ 64) x).length:Nat):Int) * 8 ≤ 140737488355328) = true:=decide_eq_true (by omega)
  simp (disch:=omega) only [wadd,wadd1,wadd64,wsubn,wsub1,wmul64,ilt_t,ilt_f,ile_t,ile_f,igt_t,igt_f,ige_t,ige_f,ipos_t,ipos_f,igt0_t,igt0_f,nnn,beq0_t,beq0_f,bne0_t,bne0_f,Int.toNat_natCast,Int.toNat_zero,cond_true,cond_false,Bool.and_self,Bool.true_and,Bool.and_true,Bool.false_and,Bool.and_false,Bool.not_true,Bool.not_false,Bool.or_self,Bool.true_or,Bool.or_true,Bool.false_or,Bool.or_false,pre163 p0,fun163 p0,e0,Wd_rep]
  rw [show W188_5 (((((dg (2 ^ 64) x).length:Nat):Int),(Dw x,(Dw y,((0:Int),((0:Int),((),())))))),(Wd (List.replicate (dg (2 ^ 64) x).length 0),())) = _ from hw]
  show (bif S133.pre (Wd (pd (2 ^ 64) (dg (2 ^ 64) x).length (x - y)),()) then some (S133.F (Wd (pd (2 ^ 64) (dg (2 ^ 64) x).length (x - y)),())) else none) = _
  simp only [pre133 q1,fun133 q1,cond_true]
  rfl
end VL
namespace VL
open Go Vx
theorem set_same {l:List Nat} {j v:Nat} (hj:j < l.length) (h:l.getD j 0 = v):l.set j v = l:=by
  rw [List.getD_eq_getElem?_getD,List.getElem?_eq_getElem hj,Option.getD_some] at h
  subst h
  exact List.set_getElem_self hj
theorem W181_eq (a:List Nat) (ha:∀ x ∈ a,x < 2 ^ 64) (hlen:a.length ≤ 1000000) (n:Nat) (hn:n ≤ 100000000) :
    W181_4 (((a.length:Int),(Wd a,((n:Int),((0:Int),((),()))))),(Wd (pd (2 ^ 64) (a.length + n / 64 + 1) 0),())) = some (.inl (((),()),(Wd (pd (2 ^ 64) (a.length + n / 64 + 1) (2 ^ n * nv (2 ^ 64) a)),()))):=by
  have hn64:64 * (n / 64) + n % 64 = n:=Nat.div_add_mod n 64
  have hs:n % 64 < 64:=Nat.mod_lt _ (by decide)
  have key:=lfix_ind (m181_4 S163.pre S163.F S133.pre S133.F) (fun x=>a.length - x.1.2.2.2.1.toNat)
    (fun x=>∃ i:Nat,i ≤ a.length ∧ x = (((a.length:Int),(Wd a,((n:Int),((i:Int),((),()))))),(Wd (pd (2 ^ 64) (a.length + n / 64 + 1) (2 ^ n * nv (2 ^ 64) (a.take i))),())))
    (fun _=>.inl (((),()),(Wd (pd (2 ^ 64) (a.length + n / 64 + 1) (2 ^ n * nv (2 ^ 64) a)),()))) ?_ _ ⟨0,Nat.zero_le _,rfl⟩
  · exact key
  intro L x hx hL
  obtain ⟨i,hi,rfl⟩:=hx
  unfold h181_4
  rcases Nat.lt_or_ge i a.length with hlt | hge
  · have hxl:=getD_lt (by decide) ha i
    have ht:=nv_lt (B:=2 ^ 64) (by decide) (a.take i) fun x hx=>ha x (List.mem_of_mem_take hx)
    rw [List.length_take,Nat.min_eq_left (by omega),pow64] at ht
    generalize hw:n / 64 = w at *
    generalize hsd:n % 64 = s at *
    have hV:2 ^ n * nv (2 ^ 64) (a.take i) < 2 ^ (64 * (i + w) + s):=by
      have e:64 * (i + w) + s = n + 64 * i:=by omega
      rw [e,Nat.pow_add _ n]
      exact Nat.mul_lt_mul_of_pos_left ht (Nat.two_pow_pos _)
    have hnext:=nv_take_succ (2 ^ 64) a i hlt
    have hgo:=hL (((a.length:Int),(Wd a,((n:Int),(((i + 1:Nat):Int),((),()))))),(Wd (pd (2 ^ 64) (a.length + w + 1) (2 ^ n * nv (2 ^ 64) (a.take (i + 1)))),())) ⟨i + 1,by omega,rfl⟩ (by simp only [Int.toNat_natCast]; omega)
    rw [hnext,Nat.mul_add,← Nat.mul_assoc,show 2 ^ n * (2 ^ 64) ^ i = 2 ^ (64 * (i + w) + s) by rw [pow64,← Nat.pow_add]; congr 1; omega] at hgo
    generalize hout:pd (2 ^ 64) (a.length + w + 1) (2 ^ n * nv (2 ^ 64) (a.take i)) = out at *
    obtain ⟨q1,q2,q3⟩:=left_step (k:=i + w) hs hout.symm (by omega) hV hxl
    have hol:out.length = a.length + w + 1:=by rw [← hout,pd_len]
    have g1:a.getD i 0 * 2 ^ s % 2 ^ 64 = (a.getD i 0 % 2 ^ (64 - s)) * 2 ^ s:=by
      have:2 ^ 64 = 2 ^ (64 - s) * 2 ^ s:=by rw [← Nat.pow_add]; congr 1; omega
      rw [this,Nat.mul_mod_mul_right]
    have e8:IntKind.wrap .i64 (64 - (s:Int)) = ((64 - s:Nat):Int):=wsub 64 s (by omega) (by omega)
    have e9:=quo64 n (by omega)
    have e10:=tmod64 n
    rw [hw] at e9
    rw [hsd] at e10
    rcases Nat.eq_zero_or_pos s with h0 | h0
    · subst h0
      have hx0:a.getD i 0 / 2 ^ (64 - 0) = 0:=Nat.div_eq_of_lt hxl
      rw [hx0] at q3
      have h1:(out.set (i + w) (out.getD (i + w) 0 + a.getD i 0 % 2 ^ (64 - 0) * 2 ^ 0)).getD (i + w + 1) 0 = 0:=by
        rw [getD_set_ne (by omega),← hout,pd_get _ _ _ _ (by omega),pow64]
        have:2 ^ n * nv (2 ^ 64) (a.take i) < 2 ^ (64 * (i + w + 1)):=Nat.lt_of_lt_of_le hV (Nat.pow_le_pow_right (by decide) (by omega))
        rw [Nat.div_eq_of_lt this]
      rw [set_same (by simp [hol]; omega) h1] at q3
      simp (disch:=omega) only [wadd,wadd1,wadd64,wsubn,wsub1,wmul64,ilt_t,ilt_f,ile_t,ile_f,igt_t,igt_f,ige_t,ige_f,ipos_t,ipos_f,igt0_t,igt0_f,nnn,beq0_t,beq0_f,bne0_t,bne0_f,Int.toNat_natCast,Int.toNat_zero,cond_true,cond_false,Bool.and_self,Bool.true_and,Bool.and_true,Bool.false_and,Bool.and_false,Bool.not_true,Bool.not_false,Bool.or_self,Bool.true_or,Bool.or_true,Bool.false_or,Bool.or_false,Wd_len,Wd_getD,e9,e10,wu_id,shlN _ 0 (by omega),g1,orN q1 q2,Wd_set,List.length_set,hol,q3]
      exact hgo
    · simp (disch:=omega) only [wadd,wadd1,wadd64,wsubn,wsub1,wmul64,ilt_t,ilt_f,ile_t,ile_f,igt_t,igt_f,ige_t,ige_f,ipos_t,ipos_f,igt0_t,igt0_f,nnn,beq0_t,beq0_f,bne0_t,bne0_f,Int.toNat_natCast,Int.toNat_zero,cond_true,cond_false,Bool.and_self,Bool.true_and,Bool.and_true,Bool.false_and,Bool.and_false,Bool.not_true,Bool.not_false,Bool.or_self,Bool.true_or,Bool.or_true,Bool.false_or,Bool.or_false,Wd_len,Wd_getD,e8,e9,e10,wu_id,shlN _ s (by omega),shrN _ (64 - s) (by omega),g1,orN q1 q2,Wd_set,List.length_set,hol,q3]
      exact hgo
  · have e:i = a.length:=by omega
    subst e
    rw [List.take_length]
    simp (disch:=omega) only [wadd,wadd1,wadd64,wsubn,wsub1,wmul64,ilt_t,ilt_f,ile_t,ile_f,igt_t,igt_f,ige_t,ige_f,ipos_t,ipos_f,igt0_t,igt0_f,nnn,beq0_t,beq0_f,bne0_t,bne0_f,Int.toNat_natCast,Int.toNat_zero,cond_true,cond_false,Bool.and_self,Bool.true_and,Bool.and_true,Bool.false_and,Bool.and_false,Bool.not_true,Bool.not_false,Bool.or_self,Bool.true_or,Bool.or_true,Bool.false_or,Bool.or_false]
theorem T181_eq {x:Nat} (hx:x < (2 ^ 64) ^ 5000) (n:Nat) (hn:n ≤ 1000000):T181 (Dw x,(n:Int),()) = some (Dw (x * 2 ^ n),()):=by
  show t181 S163.pre S163.F S133.pre S133.F W181_4 (Dw x) n = _
  unfold t181
  have p0:=T163_dw hx
  have hX:=Dw_ws hx
  have hlx:=dg_len_le (B:=2 ^ 64) (by decide) _ _ hx
  have hlt:=dg_len_gt (B:=2 ^ 64) (by decide) x
  have hw:=W181_eq (dg (2 ^ 64) x) hX.1 hX.2 n (by omega)
  rw [nv_Dw] at hw
  have e3:decide ((((dg (2 ^ 64) x).length + n / 64 + 1:Nat):Int) * 8 ≤ 140737488355328) = true:=decide_eq_true (by omega)
  have hV:2 ^ n * x < (2 ^ 64) ^ ((dg (2 ^ 64) x).length + n / 64 + 1):=by
    rw [pow64] at hlt ⊢
    have h1:2 ^ n * x < 2 ^ n * 2 ^ (64 * (dg (2 ^ 64) x).length):=Nat.mul_lt_mul_of_pos_left hlt (Nat.two_pow_pos _)
    rw [← Nat.pow_add] at h1
    exact Nat.lt_of_lt_of_le h1 (Nat.pow_le_pow_right (by decide) (by omega))
  have p1:=T133_h (l:=pd (2 ^ 64) ((dg (2 ^ 64) x).length + n / 64 + 1) (2 ^ n * x)) (v:=2 ^ n * x) ⟨pd_lt (by decide) _ _,by rw [pd_len]; omega⟩ (pd_nv (by decide) _ _ hV)
  rw [pd_zero] at hw
  generalize pd (2 ^ 64) ((dg (2 ^ 64) x).length + n / 64 + 1) (2 ^ n * x) = out at *
  simp (disch:=omega) only [wadd,wadd1,wadd64,wsubn,wsub1,wmul64,ilt_t,ilt_f,ile_t,ile_f,igt_t,igt_f,ige_t,ige_f,ipos_t,ipos_f,igt0_t,igt0_f,nnn,beq0_t,beq0_f,bne0_t,bne0_f,Int.toNat_natCast,Int.toNat_zero,cond_true,cond_false,Bool.and_self,Bool.true_and,Bool.and_true,Bool.false_and,Bool.and_false,Bool.not_true,Bool.not_false,Bool.or_self,Bool.true_or,Bool.or_true,Bool.false_or,Bool.or_false,pre163 p0,fun163 p0,quo64 n (by omega),e3,Wd_rep]
  rw [show W181_4 (((((dg (2 ^ 64) x).length:Nat):Int),(Dw x,((n:Int),((0:Int),((),()))))),(Wd (List.replicate ((dg (2 ^ 64) x).length + n / 64 + 1) 0),())) = _ from hw]
  show (bif S133.pre (Wd out,()) then some (S133.F (Wd out,())) else none) = _
  rw [pre133 p1,fun133 p1,Nat.mul_comm]
  rfl
theorem T164_eq {x:Nat} (hx:x < (2 ^ 64) ^ 5000) (n:Nat) (hn:n ≤ 1000000):T164 (Dw x,(n:Int),()) = some (Dw (x * 2 ^ n),()):=by
  show t164 S181.pre S181.F (Dw x) n = _
  unfold t164
  have p0:=T181_eq hx n hn
  simp only [pre181 p0,fun181 p0,cond_true]
theorem W187_eq (a:List Nat) (ha:∀ x ∈ a,x < 2 ^ 64) (hlen:a.length ≤ 1000000) (n:Nat) (hn:n / 64 ≤ a.length) :
    W187_6 (((a.length:Int),(Wd a,((n:Int),((0:Int),((),()))))),(Wd (List.replicate (a.length - n / 64) 0),())) = some (.inl (((),()),(Wd (shrL (n % 64) (a.drop (n / 64))),()))):=by
  have hs:n % 64 < 64:=Nat.mod_lt _ (by decide)
  have hll:=shrL_len (n % 64) (a.drop (n / 64))
  rw [List.length_drop] at hll
  have key:=lfix_ind (m187_6 S138.pre S138.F S163.pre S163.F S133.pre S133.F) (fun x=>a.length - n / 64 - x.1.2.2.2.1.toNat)
    (fun x=>∃ i:Nat,i ≤ a.length - n / 64 ∧ x = (((a.length:Int),(Wd a,((n:Int),((i:Int),((),()))))),(Wd ((shrL (n % 64) (a.drop (n / 64))).take i ++ (List.replicate (a.length - n / 64) 0).drop i),())))
    (fun _=>.inl (((),()),(Wd (shrL (n % 64) (a.drop (n / 64))),()))) ?_ _ ⟨0,Nat.zero_le _,rfl⟩
  · exact key
  intro L x hx hL
  obtain ⟨i,hi,rfl⟩:=hx
  unfold h187_6
  have hget:=fun h=>shrL_get (n % 64) (a.drop (n / 64)) i h
  rw [List.length_drop] at hget
  have e9:=quo64 n (by omega)
  have e10:=tmod64 n
  have d1:(a.drop (n / 64)).getD i 0 = a.getD (i + n / 64) 0:=by
    rw [List.getD_eq_getElem?_getD,List.getElem?_drop,List.getD_eq_getElem?_getD,Nat.add_comm]
  have d2:(a.drop (n / 64)).getD (i + 1) 0 = a.getD (i + n / 64 + 1) 0:=by
    rw [List.getD_eq_getElem?_getD,List.getElem?_drop,List.getD_eq_getElem?_getD]; congr 2; omega
  rw [d1,d2] at hget
  generalize hw:n / 64 = w at *
  generalize hsd:n % 64 = s at *
  have hlt':(List.take i (shrL s (a.drop w)) ++ (List.replicate (a.length - w) 0).drop i).length = a.length - w:=by
    rw [List.length_append,List.length_take,List.length_drop,List.length_replicate,hll]; omega
  rcases Nat.lt_or_ge i (a.length - w) with hlt | hge
  · have hget:=hget hlt
    have hgo:=hL (((a.length:Int),(Wd a,((n:Int),(((i + 1:Nat):Int),((),()))))),(Wd ((shrL s (a.drop w)).take (i + 1) ++ (List.replicate (a.length - w) 0).drop (i + 1)),())) ⟨i + 1,by omega,rfl⟩ (by simp only [Int.toNat_natCast]; omega)
    rw [List.take_add_one,hget] at hgo
    have hset:=fun v=>set_drop (out:=(shrL s (a.drop w)).take i) (a:=List.replicate (a.length - w) 0) (v:=v) (i:=i) (by rw [List.length_take,hll]; omega) (by simp; omega)
    have hsame:∀ v v',((List.take i (shrL s (a.drop w)) ++ (List.replicate (a.length - w) 0).drop i).set i v).set i v' = (List.take i (shrL s (a.drop w)) ++ (List.replicate (a.length - w) 0).drop i).set i v':=fun v v'=>List.set_set ..
    have hgt:∀ v,((List.take i (shrL s (a.drop w)) ++ (List.replicate (a.length - w) 0).drop i).set i v).getD i 0 = v:=fun v=>by
      rw [List.getD_eq_getElem?_getD,List.getElem?_set_self (by omega)]; rfl
    have hx1:=getD_lt (by decide) ha (i + w)
    have hx2:=getD_lt (by decide) ha (i + w + 1)
    obtain ⟨w1,w2⟩:=shr_word (s:=s) (by omega) (x:=a.getD (i + w) 0) (y:=a.getD (i + w + 1) 0) hx1
    by_cases hc:0 < s ∧ i + w + 1 < a.length
    · have e8:IntKind.wrap .i64 (64 - (s:Int)) = ((64 - s:Nat):Int):=wsub 64 s (by omega) (by omega)
      have g1:a.getD (i + w + 1) 0 * 2 ^ (64 - s) % 2 ^ 64 = (a.getD (i + w + 1) 0 % 2 ^ s) * 2 ^ (64 - s):=by
        have:2 ^ 64 = 2 ^ s * 2 ^ (64 - s):=pow_parts (by omega)
        rw [this,Nat.mul_mod_mul_right]
      obtain ⟨hc1,hc2⟩:=hc
      simp (disch:=omega) only [wadd,wadd1,wadd64,wsubn,wsub1,wmul64,ilt_t,ilt_f,ile_t,ile_f,igt_t,igt_f,ige_t,ige_f,ipos_t,ipos_f,igt0_t,igt0_f,nnn,beq0_t,beq0_f,bne0_t,bne0_f,Int.toNat_natCast,Int.toNat_zero,cond_true,cond_false,Bool.and_self,Bool.true_and,Bool.and_true,Bool.false_and,Bool.and_false,Bool.not_true,Bool.not_false,Bool.or_self,Bool.true_or,Bool.or_true,Bool.false_or,Bool.or_false,Wd_len,Wd_getD,e8,e9,e10,wu_id,shlN _ (64 - s) (by omega),shrN _ s (by omega),g1,Wd_set,List.length_set,hlt',hgt,orN w1 w2,hsame]
      rw [hset]
      exact hgo
    · have hz:(a.getD (i + w + 1) 0 % 2 ^ s) * 2 ^ (64 - s) = 0:=by
        rcases Nat.eq_zero_or_pos s with h | h
        · subst h; rw [Nat.pow_zero,Nat.mod_one,Nat.zero_mul]
        · have:a.getD (i + w + 1) 0 = 0:=by rw [List.getD_eq_getElem?_getD,List.getElem?_eq_none (by omega)]; rfl
          rw [this,Nat.zero_mod,Nat.zero_mul]
      rw [hz,Nat.add_zero] at hgo
      have hand:(decide ((s:Int) > 0) && decide (((i + w + 1:Nat):Int) < (a.length:Int))) = false:=by
        rw [Bool.eq_false_iff]; intro h
        simp only [Bool.and_eq_true,decide_eq_true_eq] at h; omega
      simp (disch:=omega) only [wadd,wadd1,wadd64,wsubn,wsub1,wmul64,ilt_t,ilt_f,ile_t,ile_f,igt_t,igt_f,ige_t,ige_f,ipos_t,ipos_f,igt0_t,igt0_f,nnn,beq0_t,beq0_f,bne0_t,bne0_f,Int.toNat_natCast,Int.toNat_zero,cond_true,cond_false,Bool.and_self,Bool.true_and,Bool.and_true,Bool.false_and,Bool.and_false,Bool.not_true,Bool.not_false,Bool.or_self,Bool.true_or,Bool.or_true,Bool.false_or,Bool.or_false,Wd_len,Wd_getD,e9,e10,hand,wu_id,shrN _ s (by omega),Wd_set,hlt',hset]
      exact hgo
  · have e:i = a.length - w:=by omega
    have h1:(shrL s (a.drop w)).take i = shrL s (a.drop w):=List.take_of_length_le (by omega)
    have h2:(List.replicate (a.length - w) 0).drop i = ([]:List Nat):=List.drop_eq_nil_of_le (by simp; omega)
    simp (disch:=omega) only [wadd,wadd1,wadd64,wsubn,wsub1,wmul64,ilt_t,ilt_f,ile_t,ile_f,igt_t,igt_f,ige_t,ige_f,ipos_t,ipos_f,igt0_t,igt0_f,nnn,beq0_t,beq0_f,bne0_t,bne0_f,Int.toNat_natCast,Int.toNat_zero,cond_true,cond_false,Bool.and_self,Bool.true_and,Bool.and_true,Bool.false_and,Bool.and_false,Bool.not_true,Bool.not_false,Bool.or_self,Bool.true_or,Bool.or_true,Bool.false_or,Bool.or_false,Wd_len,hlt']
    rw [h1,h2,List.append_nil]
theorem T187_eq {x:Nat} (hx:x < (2 ^ 64) ^ 5000) (n:Nat) (hn:n ≤ 1000000):T187 (Dw x,(n:Int),()) = some (Dw (x / 2 ^ n),()):=by
  show t187 S138.pre S138.F S163.pre S163.F S133.pre S133.F W187_6 (Dw x) n = _
  unfold t187
  have p0:=T163_dw hx
  have p1:=T138_dw hx
  have hX:=Dw_ws hx
  have hlx:=dg_len_le (B:=2 ^ 64) (by decide) _ _ hx
  have hlt:=blen_lt x
  simp only [pre138 p1,fun138 p1,cond_true]
  rcases Nat.lt_or_ge n (blen x) with h | h
  · have hb:blen x ≤ 64 * (dg (2 ^ 64) x).length:=by
      have:=dg_len_gt (B:=2 ^ 64) (by decide) x
      rw [pow64] at this
      exact blen_bound this
    have hw:=W187_eq (dg (2 ^ 64) x) hX.1 hX.2 n (by omega)
    have hv:nv (2 ^ 64) (shrL (n % 64) ((dg (2 ^ 64) x).drop (n / 64))) = x / 2 ^ n:=by
      rw [nv_shrL (by omega)]
      have hsp:=nv_split (2 ^ 64) (dg (2 ^ 64) x) (n / 64) (by omega)
      rw [nv_Dw] at hsp
      have ht:=nv_lt (B:=2 ^ 64) (by decide) ((dg (2 ^ 64) x).take (n / 64)) fun y hy=>hX.1 y (List.mem_of_mem_take hy)
      rw [List.length_take,Nat.min_eq_left (by omega)] at ht
      have hp:0 < (2 ^ 64) ^ (n / 64):=Nat.pow_pos (by decide)
      have:nv (2 ^ 64) ((dg (2 ^ 64) x).drop (n / 64)) = x / (2 ^ 64) ^ (n / 64):=by
        generalize nv (2 ^ 64) ((dg (2 ^ 64) x).drop (n / 64)) = D at *
        generalize nv (2 ^ 64) ((dg (2 ^ 64) x).take (n / 64)) = C at *
        rw [hsp,Nat.add_mul_div_left _ _ hp,Nat.div_eq_of_lt ht,Nat.zero_add]
      rw [this,Nat.div_div_eq_div_mul,pow64,← Nat.pow_add,Nat.div_add_mod]
    have hm:∀ y ∈ shrL (n % 64) ((dg (2 ^ 64) x).drop (n / 64)),y < 2 ^ 64:=by
      intro y hy
      obtain ⟨i,hi,rfl⟩:=List.getElem_of_mem hy
      have hi':=hi
      rw [shrL_len] at hi'
      have:=shrL_get (n % 64) _ i hi'
      rw [List.getElem?_eq_getElem hi] at this
      injection this with this
      rw [this]
      exact (shr_word (by omega) (getD_lt (by decide) (fun z hz=>hX.1 z (List.mem_of_mem_drop hz)) i)).2
    have p2:=T133_h (l:=shrL (n % 64) ((dg (2 ^ 64) x).drop (n / 64))) (v:=x / 2 ^ n) ⟨hm,by rw [shrL_len,List.length_drop]; omega⟩ hv
    have e3:decide ((((dg (2 ^ 64) x).length - n / 64:Nat):Int) * 8 ≤ 140737488355328) = true:=decide_eq_true (by omega)
    generalize shrL (n % 64) ((dg (2 ^ 64) x).drop (n / 64)) = out at *
    simp (disch:=omega) only [wadd,wadd1,wadd64,wsubn,wsub1,wmul64,ilt_t,ilt_f,ile_t,ile_f,igt_t,igt_f,ige_t,ige_f,ipos_t,ipos_f,igt0_t,igt0_f,nnn,beq0_t,beq0_f,bne0_t,bne0_f,Int.toNat_natCast,Int.toNat_zero,cond_true,cond_false,Bool.and_self,Bool.true_and,Bool.and_true,Bool.false_and,Bool.and_false,Bool.not_true,Bool.not_false,Bool.or_self,Bool.true_or,Bool.or_true,Bool.false_or,Bool.or_false,pre163 p0,fun163 p0,quo64 n (by omega),e3,Wd_rep]
    rw [show W187_6 (((((dg (2 ^ 64) x).length:Nat):Int),(Dw x,((n:Int),((0:Int),((),()))))),(Wd (List.replicate ((dg (2 ^ 64) x).length - n / 64) 0),())) = _ from hw]
    show (bif S133.pre (Wd out,()) then some (S133.F (Wd out,())) else none) = _
    rw [pre133 p2,fun133 p2]
    rfl
  · have h0:x / 2 ^ n = 0:=Nat.div_eq_of_lt (Nat.lt_of_lt_of_le hlt (Nat.pow_le_pow_right (by decide) h))
    simp (disch:=omega) only [wadd,wadd1,wadd64,wsubn,wsub1,wmul64,ilt_t,ilt_f,ile_t,ile_f,igt_t,igt_f,ige_t,ige_f,ipos_t,ipos_f,igt0_t,igt0_f,nnn,beq0_t,beq0_f,bne0_t,bne0_f,Int.toNat_natCast,Int.toNat_zero,cond_true,cond_false,Bool.and_self,Bool.true_and,Bool.and_true,Bool.false_and,Bool.and_false,Bool.not_true,Bool.not_false,Bool.or_self,Bool.true_or,Bool.or_true,Bool.false_or,Bool.or_false]
    rw [h0,Dw_zero]
theorem bit_set {K V i:Nat} (hK:i / 64 < K) (hV:V % 2 ^ (i + 1) = 0) (hlt:V < (2 ^ 64) ^ K) :
    (pd (2 ^ 64) K V).getD (i / 64) 0 < 2 ^ 64 ∧ (pd (2 ^ 64) K V).getD (i / 64) 0 ||| 2 ^ (i % 64) = (pd (2 ^ 64) K V).getD (i / 64) 0 + 2 ^ (i % 64) ∧
      ((pd (2 ^ 64) K V).set (i / 64) ((pd (2 ^ 64) K V).getD (i / 64) 0 + 2 ^ (i % 64)) = pd (2 ^ 64) K (V + 2 ^ i)):=by
  have hB:0 < 2 ^ 64:=by decide
  have hs:i % 64 < 64:=Nat.mod_lt _ (by decide)
  have hi:64 * (i / 64) + i % 64 = i:=Nat.div_add_mod i 64
  have hg:=pd_get (2 ^ 64) K V (i / 64) hK
  have hg64:(pd (2 ^ 64) K V).getD (i / 64) 0 < 2 ^ 64:=by rw [hg]; exact Nat.mod_lt _ hB
  have hall:=pd_lt hB K V
  have hlen:=pd_len (2 ^ 64) K V
  have hnv:=pd_nv hB K V hlt
  obtain ⟨c,hc⟩:∃ c,V / (2 ^ 64) ^ (i / 64) % 2 ^ 64 = 2 ^ (i % 64 + 1) * c:=by
    obtain ⟨d,hd⟩:=Nat.dvd_of_mod_eq_zero hV
    have e1:V / (2 ^ 64) ^ (i / 64) = 2 ^ (i % 64 + 1) * d:=by
      rw [hd,pow64,show i + 1 = 64 * (i / 64) + (i % 64 + 1) by omega,Nat.pow_add,Nat.mul_assoc,Nat.mul_div_cancel_left _ (Nat.two_pow_pos _)]
    rw [e1]
    have e2:2 ^ 64 = 2 ^ (i % 64 + 1) * 2 ^ (63 - i % 64):=by rw [← Nat.pow_add]; congr 1; omega
    rw [e2,Nat.mul_mod_mul_left]
    exact ⟨_,rfl⟩
  rw [hc] at hg
  have hpl:2 ^ (i % 64) < 2 ^ (i % 64 + 1):=Nat.pow_lt_pow_right (by decide) (by omega)
  have hor:(pd (2 ^ 64) K V).getD (i / 64) 0 ||| 2 ^ (i % 64) = (pd (2 ^ 64) K V).getD (i / 64) 0 + 2 ^ (i % 64):=by
    rw [hg]; exact (Nat.two_pow_add_eq_or_of_lt hpl c).symm
  have hsum:(pd (2 ^ 64) K V).getD (i / 64) 0 + 2 ^ (i % 64) < 2 ^ 64:=by
    have e2:2 ^ 64 = 2 ^ (i % 64 + 1) * 2 ^ (63 - i % 64):=by rw [← Nat.pow_add]; congr 1; omega
    rw [hg] at hg64 ⊢
    rw [e2] at hg64 ⊢
    have hcl:=Nat.lt_of_mul_lt_mul_left hg64
    have:2 ^ (i % 64 + 1) * (c + 1) ≤ 2 ^ (i % 64 + 1) * 2 ^ (63 - i % 64):=Nat.mul_le_mul_left _ hcl
    rw [Nat.mul_add,Nat.mul_one] at this
    omega
  refine ⟨hg64,hor,?_⟩
  generalize hO:pd (2 ^ 64) K V = O at *
  refine pd_at hB (set_lt hall hsum) (by rw [List.length_set,hlen]) ?_
  have g1:=nv_set (2 ^ 64) O (i / 64) (O.getD (i / 64) 0 + 2 ^ (i % 64)) (by omega)
  rw [hnv,Nat.mul_add] at g1
  have e3:(2 ^ 64) ^ (i / 64) * 2 ^ (i % 64) = 2 ^ i:=by rw [pow64,← Nat.pow_add,hi]
  rw [e3] at g1
  omega
theorem div_next (x y i:Nat) (hy:0 < y) :
    (if y ≤ 2 * (x / 2 ^ (i + 1) % y) + x / 2 ^ i % 2 then (2 * (x / 2 ^ (i + 1) % y) + x / 2 ^ i % 2 - y = x / 2 ^ i % y ∧ x / 2 ^ i / y * 2 ^ i = x / 2 ^ (i + 1) / y * 2 ^ (i + 1) + 2 ^ i)
      else (2 * (x / 2 ^ (i + 1) % y) + x / 2 ^ i % 2 = x / 2 ^ i % y ∧ x / 2 ^ i / y * 2 ^ i = x / 2 ^ (i + 1) / y * 2 ^ (i + 1))):=by
  have e1:x / 2 ^ (i + 1) = x / 2 ^ i / 2:=by rw [Nat.pow_succ,Nat.div_div_eq_div_mul]
  rw [e1,Nat.pow_succ]
  generalize x / 2 ^ i = z
  generalize 2 ^ i = P
  have hz:z = 2 * (z / 2) + z % 2:=by omega
  have hd:=Nat.div_add_mod (z / 2) y
  have hr:=Nat.mod_lt (z / 2) hy
  have hz2:z % 2 < 2:=Nat.mod_lt _ (by decide)
  generalize z / 2 / y = Q at *
  generalize z / 2 % y = R at *
  generalize z % 2 = b at *
  have hz3:z = y * (2 * Q) + (2 * R + b):=by
    rw [hz,← hd,Nat.mul_add,← Nat.mul_assoc,Nat.mul_comm 2 y,Nat.mul_assoc,Nat.add_assoc]
  split
  · rename_i h
    have hz4:z = (2 * R + b - y) + y * (2 * Q + 1):=by rw [hz3,Nat.mul_add y,Nat.mul_one]; omega
    have hm:z % y = 2 * R + b - y:=by rw [hz4,Nat.add_mul_mod_self_left]; exact Nat.mod_eq_of_lt (by omega)
    have hq:z / y = 2 * Q + 1:=by rw [hz4,Nat.add_mul_div_left _ _ hy,Nat.div_eq_of_lt (by omega),Nat.zero_add]
    rw [hm,hq]
    refine ⟨rfl,?_⟩
    rw [Nat.add_mul,Nat.one_mul,Nat.mul_comm 2 Q,Nat.mul_assoc,Nat.mul_comm 2 P]
  · rename_i h
    have hz4:z = (2 * R + b) + y * (2 * Q):=by rw [hz3]; omega
    have hm:z % y = 2 * R + b:=by rw [hz4,Nat.add_mul_mod_self_left]; exact Nat.mod_eq_of_lt (by omega)
    have hq:z / y = 2 * Q:=by rw [hz4,Nat.add_mul_div_left _ _ hy,Nat.div_eq_of_lt (by omega),Nat.zero_add]
    rw [hm,hq]
    refine ⟨rfl,?_⟩
    rw [Nat.mul_comm 2 Q,Nat.mul_assoc,Nat.mul_comm 2 P]
theorem one_shl (s:Nat) (hs:s < 64):shlI .u64 (1:Int) (s:Int) = ((2 ^ s:Nat):Int):=by
  have:=shlN 1 s (by omega)
  rw [Nat.one_mul,Nat.mod_eq_of_lt (Nat.pow_lt_pow_right (by decide) hs)] at this
  exact this
theorem W182_eq {x y:Nat} (hx:x < (2 ^ 64) ^ 4000) (hy:0 < y) (hy2:y < (2 ^ 64) ^ 4000) (j:Nat) (hj:j ≤ 64 * (dg (2 ^ 64) x).length) :
    W182_8 ((Dw x,(Dw y,((j:Int) - 1,((),(Dw (x / 2 ^ j % y),()))))),(Wd (pd (2 ^ 64) (dg (2 ^ 64) x).length (x / 2 ^ j / y * 2 ^ j)),())) =
      some (.inl (((),(Dw (x % y),())),(Wd (pd (2 ^ 64) (dg (2 ^ 64) x).length (x / y)),()))):=by
  have hlx:=dg_len_le (B:=2 ^ 64) (by decide) _ _ hx
  have hgt:=dg_len_gt (B:=2 ^ 64) (by decide) x
  have hmon:(2 ^ 64) ^ 4000 * 2 < (2 ^ 64) ^ 5000:=by decide +kernel
  have key:=lfix_ind (m182_8 S138.pre S138.F S163.pre S163.F S187.pre S187.F S181.pre S181.F S167.pre S167.F S168.pre S168.F S166.pre S166.F S188.pre S188.F S133.pre S133.F) (fun x=>(x.1.2.2.1 + 1).toNat)
    (fun s=>∃ j:Nat,j ≤ 64 * (dg (2 ^ 64) x).length ∧ s = ((Dw x,(Dw y,((j:Int) - 1,((),(Dw (x / 2 ^ j % y),()))))),(Wd (pd (2 ^ 64) (dg (2 ^ 64) x).length (x / 2 ^ j / y * 2 ^ j)),())))
    (fun _=>.inl (((),(Dw (x % y),())),(Wd (pd (2 ^ 64) (dg (2 ^ 64) x).length (x / y)),()))) ?_ _ ⟨j,hj,rfl⟩
  · exact key
  intro L s hs hL
  obtain ⟨j,hj,rfl⟩:=hs
  unfold h182_8
  rcases j with _ | i
  · have e1:decide ((((0:Nat):Int) - 1) ≥ 0) = false:=rfl
    simp only [e1,cond_false,Nat.pow_zero,Nat.div_one,Nat.mul_one]
  · have e0:(((i + 1:Nat):Int) - 1) = (i:Int):=by omega
    have e2:IntKind.wrap .i64 ((i:Int) - 1) = (i:Int) - 1:=wrapI (by omega)
    have e3:decide ((i:Int) ≥ 0) = true:=decide_eq_true (by omega)
    have hrl:=Nat.mod_lt (x / 2 ^ (i + 1)) hy
    have hR5:x / 2 ^ (i + 1) % y < (2 ^ 64) ^ 5000:=by omega
    have h2R:x / 2 ^ (i + 1) % y * 2 ^ 1 < (2 ^ 64) ^ 5000:=by omega
    have hz2:x / 2 ^ i % 2 < 2:=Nat.mod_lt _ (by decide)
    have h2R1:x / 2 ^ (i + 1) % y * 2 ^ 1 + 1 < (2 ^ 64) ^ 5000:=by omega
    have p181:=T181_eq hR5 1 (by omega)
    have p181:T181 (Dw (x / 2 ^ (i + 1) % y),(1:Int),()) = _:=p181
    have p167:=T167_dw (x:=x) (by omega) i (by omega)
    have p168:=T168_dw h2R (y:=1) (by omega)
    rw [Dw_one] at p168
    have hnext:=div_next x y i hy
    have hiK:i / 64 < (dg (2 ^ 64) x).length:=by omega
    have hVx:x / 2 ^ (i + 1) / y * 2 ^ (i + 1) ≤ x:=by
      have h1:x / 2 ^ (i + 1) / y * 2 ^ (i + 1) ≤ x / 2 ^ (i + 1) * 2 ^ (i + 1):=Nat.mul_le_mul_right _ (Nat.div_le_self _ _)
      have h2:=Nat.div_mul_le_self x (2 ^ (i + 1))
      omega
    obtain ⟨b1,b2,b3⟩:=bit_set (i:=i) hiK (V:=x / 2 ^ (i + 1) / y * 2 ^ (i + 1)) (Nat.mul_mod_left _ _) (by omega)
    have hol:=pd_len (2 ^ 64) (dg (2 ^ 64) x).length (x / 2 ^ (i + 1) / y * 2 ^ (i + 1))
    have hone:2 ^ (i % 64) < 2 ^ 64:=Nat.pow_lt_pow_right (by decide) (by omega)
    have hgo:=hL ((Dw x,(Dw y,((i:Int) - 1,((),(Dw (x / 2 ^ i % y),()))))),(Wd (pd (2 ^ 64) (dg (2 ^ 64) x).length (x / 2 ^ i / y * 2 ^ i)),())) ⟨i,by omega,rfl⟩ (by simp only; omega)
    generalize hO:pd (2 ^ 64) (dg (2 ^ 64) x).length (x / 2 ^ (i + 1) / y * 2 ^ (i + 1)) = O at *
    have e9:=quo64 i (by omega)
    have e10:=tmod64 i
    simp only [e0,e3,cond_true,pre181 p181,fun181 p181,pre167 p167,fun167 p167]
    rcases (show x / 2 ^ i % 2 = 0 ∨ x / 2 ^ i % 2 = 1 by omega) with hb | hb
    · rw [hb] at hnext ⊢
      have eb:(((0:Nat):Int) == 1) = false:=rfl
      have p166:=T166_eq h2R (y:=y) (by omega)
      by_cases hc:y ≤ 2 * (x / 2 ^ (i + 1) % y) + 0
      · rw [if_pos hc] at hnext
        have p188:=T188_eq h2R (y:=y) (by omega)
        rw [show x / 2 ^ (i + 1) % y * 2 ^ 1 - y = x / 2 ^ i % y by omega] at p188
        rw [hnext.2,← b3] at hgo
        have ec:decide ((if x / 2 ^ (i + 1) % y * 2 ^ 1 = y then (0:Int) else if x / 2 ^ (i + 1) % y * 2 ^ 1 < y then -1 else 1) ≥ 0) = true:=by
          apply decide_eq_true; split
          · omega
          · rw [if_neg (by omega)]; omega
        simp (disch:=omega) only [wadd,wadd1,wadd64,wsubn,wsub1,wmul64,ilt_t,ilt_f,ile_t,ile_f,igt_t,igt_f,ige_t,ige_f,ipos_t,ipos_f,igt0_t,igt0_f,nnn,beq0_t,beq0_f,bne0_t,bne0_f,Int.toNat_natCast,Int.toNat_zero,cond_true,cond_false,Bool.and_self,Bool.true_and,Bool.and_true,Bool.false_and,Bool.and_false,Bool.not_true,Bool.not_false,Bool.or_self,Bool.true_or,Bool.or_true,Bool.false_or,Bool.or_false,eb,pre166 p166,fun166 p166,ec,pre188 p188,fun188 p188,e9,e10,Wd_len,hol,Wd_getD,wu_id,one_shl,orN2 b1 hone,b2,Wd_set,e2]
        exact hgo
      · rw [if_neg hc] at hnext
        have ec:decide ((if x / 2 ^ (i + 1) % y * 2 ^ 1 = y then (0:Int) else if x / 2 ^ (i + 1) % y * 2 ^ 1 < y then -1 else 1) ≥ 0) = false:=by
          apply decide_eq_false
          rw [if_neg (by omega),if_pos (by omega)]; omega
        rw [hnext.2,hO] at hgo
        have e5:x / 2 ^ (i + 1) % y * 2 ^ 1 = x / 2 ^ i % y:=by omega
        simp (disch:=omega) only [wadd,wadd1,wadd64,wsubn,wsub1,wmul64,ilt_t,ilt_f,ile_t,ile_f,igt_t,igt_f,ige_t,ige_f,ipos_t,ipos_f,igt0_t,igt0_f,nnn,beq0_t,beq0_f,bne0_t,bne0_f,Int.toNat_natCast,Int.toNat_zero,cond_true,cond_false,Bool.and_self,Bool.true_and,Bool.and_true,Bool.false_and,Bool.and_false,Bool.not_true,Bool.not_false,Bool.or_self,Bool.true_or,Bool.or_true,Bool.false_or,Bool.or_false,eb,pre166 p166,fun166 p166,ec,e2]
        rw [e5]
        exact hgo
    · rw [hb] at hnext ⊢
      have eb:(((1:Nat):Int) == 1) = true:=rfl
      have p166:=T166_eq h2R1 (y:=y) (by omega)
      by_cases hc:y ≤ 2 * (x / 2 ^ (i + 1) % y) + 1
      · rw [if_pos hc] at hnext
        have p188:=T188_eq h2R1 (y:=y) (by omega)
        rw [show x / 2 ^ (i + 1) % y * 2 ^ 1 + 1 - y = x / 2 ^ i % y by omega] at p188
        rw [hnext.2,← b3] at hgo
        have ec:decide ((if x / 2 ^ (i + 1) % y * 2 ^ 1 + 1 = y then (0:Int) else if x / 2 ^ (i + 1) % y * 2 ^ 1 + 1 < y then -1 else 1) ≥ 0) = true:=by
          apply decide_eq_true; split
          · omega
          · rw [if_neg (by omega)]; omega
        simp (disch:=omega) only [wadd,wadd1,wadd64,wsubn,wsub1,wmul64,ilt_t,ilt_f,ile_t,ile_f,igt_t,igt_f,ige_t,ige_f,ipos_t,ipos_f,igt0_t,igt0_f,nnn,beq0_t,beq0_f,bne0_t,bne0_f,Int.toNat_natCast,Int.toNat_zero,cond_true,cond_false,Bool.and_self,Bool.true_and,Bool.and_true,Bool.false_and,Bool.and_false,Bool.not_true,Bool.not_false,Bool.or_self,Bool.true_or,Bool.or_true,Bool.false_or,Bool.or_false,eb,pre168 p168,fun168 p168,pre166 p166,fun166 p166,ec,pre188 p188,fun188 p188,e9,e10,Wd_len,hol,Wd_getD,wu_id,one_shl,orN2 b1 hone,b2,Wd_set,e2]
        exact hgo
      · rw [if_neg hc] at hnext
        have ec:decide ((if x / 2 ^ (i + 1) % y * 2 ^ 1 + 1 = y then (0:Int) else if x / 2 ^ (i + 1) % y * 2 ^ 1 + 1 < y then -1 else 1) ≥ 0) = false:=by
          apply decide_eq_false
          rw [if_neg (by omega),if_pos (by omega)]; omega
        rw [hnext.2,hO] at hgo
        have e5:x / 2 ^ (i + 1) % y * 2 ^ 1 + 1 = x / 2 ^ i % y:=by omega
        simp (disch:=omega) only [wadd,wadd1,wadd64,wsubn,wsub1,wmul64,ilt_t,ilt_f,ile_t,ile_f,igt_t,igt_f,ige_t,ige_f,ipos_t,ipos_f,igt0_t,igt0_f,nnn,beq0_t,beq0_f,bne0_t,bne0_f,Int.toNat_natCast,Int.toNat_zero,cond_true,cond_false,Bool.and_self,Bool.true_and,Bool.and_true,Bool.false_and,Bool.and_false,Bool.not_true,Bool.not_false,Bool.or_self,Bool.true_or,Bool.or_true,Bool.false_or,Bool.or_false,eb,pre168 p168,fun168 p168,pre166 p166,fun166 p166,ec,e2]
        rw [e5]
        exact hgo
theorem T182_eq {x y:Nat} (hx:x < (2 ^ 64) ^ 4000) (hy:0 < y) (hy2:y < (2 ^ 64) ^ 4000):T182 (Dw x,Dw y,()) = some (Dw (x / y),Dw (x % y),()):=by
  show t182 S138.pre S138.F S163.pre S163.F S187.pre S187.F S181.pre S181.F S167.pre S167.F S168.pre S168.F S166.pre S166.F S188.pre S188.F S133.pre S133.F W182_8 (Dw x) (Dw y) = _
  unfold t182
  have hmon:(2 ^ 64) ^ 4000 * 2 < (2 ^ 64) ^ 5000:=by decide +kernel
  have hx5:x < (2 ^ 64) ^ 5000:=by omega
  have p0:=T138_dw hx5
  have p1:=T138_dw (x:=y) (by omega)
  have p2:=T133_dw hx5
  have p3:=T163_dw hx5
  have hlx:=dg_len_le (B:=2 ^ 64) (by decide) _ _ hx
  have hgt:=dg_len_gt (B:=2 ^ 64) (by decide) x
  have hb:blen x ≤ 64 * (dg (2 ^ 64) x).length:=by
    rw [pow64] at hgt
    exact blen_bound hgt
  have hby:1 ≤ blen y:=blen_pos (by omega)
  have hbl:=blen_lt x
  have hbl2:=blen_le (n:=y) (by omega)
  simp only [pre138 p0,fun138 p0,pre138 p1,fun138 p1,cond_true]
  rcases Nat.lt_or_ge (blen x) (blen y) with h | h
  · have hxy:x < y:=Nat.lt_of_lt_of_le hbl (Nat.le_trans (Nat.pow_le_pow_right (by decide) (by omega)) hbl2)
    simp (disch:=omega) only [wadd,wadd1,wadd64,wsubn,wsub1,wmul64,ilt_t,ilt_f,ile_t,ile_f,igt_t,igt_f,ige_t,ige_f,ipos_t,ipos_f,igt0_t,igt0_f,nnn,beq0_t,beq0_f,bne0_t,bne0_f,Int.toNat_natCast,Int.toNat_zero,cond_true,cond_false,Bool.and_self,Bool.true_and,Bool.and_true,Bool.false_and,Bool.and_false,Bool.not_true,Bool.not_false,Bool.or_self,Bool.true_or,Bool.or_true,Bool.false_or,Bool.or_false,pre133 p2,fun133 p2]
    rw [Nat.div_eq_of_lt hxy,Nat.mod_eq_of_lt hxy,Dw_zero]
  · have hd:x / 2 ^ (blen x - blen y + 1) < y:=by
      rw [Nat.div_lt_iff_lt_mul (Nat.two_pow_pos _)]
      have h1:2 ^ (blen y - 1) * 2 ^ (blen x - blen y + 1) = 2 ^ blen x:=by rw [← Nat.pow_add]; congr 1; omega
      have h2:2 ^ (blen y - 1) * 2 ^ (blen x - blen y + 1) ≤ y * 2 ^ (blen x - blen y + 1):=Nat.mul_le_mul_right _ hbl2
      omega
    have p4:=T187_eq hx5 (blen x - blen y + 1) (by omega)
    have hw:=W182_eq hx hy hy2 (blen x - blen y + 1) (by omega)
    rw [Nat.mod_eq_of_lt hd,Nat.div_eq_of_lt hd,Nat.zero_mul,pd_zero,show (((blen x - blen y + 1:Nat):Int) - 1) = ((blen x - blen y:Nat):Int) by omega] at hw
    have hq:x / y < (2 ^ 64) ^ (dg (2 ^ 64) x).length:=Nat.lt_of_le_of_lt (Nat.div_le_self _ _) hgt
    have p5:=T133_h (l:=pd (2 ^ 64) (dg (2 ^ 64) x).length (x / y)) (v:=x / y) ⟨pd_lt (by decide) _ _,by rw [pd_len]; omega⟩ (pd_nv (by decide) _ _ hq)
    have e3:decide ((((dg (2 ^ 64) x).length:Nat):Int) * 8 ≤ 140737488355328) = true:=decide_eq_true (by omega)
    generalize pd (2 ^ 64) (dg (2 ^ 64) x).length (x / y) = out at *
    simp (disch:=omega) only [wadd,wadd1,wadd64,wsubn,wsub1,wmul64,ilt_t,ilt_f,ile_t,ile_f,igt_t,igt_f,ige_t,ige_f,ipos_t,ipos_f,igt0_t,igt0_f,nnn,beq0_t,beq0_f,bne0_t,bne0_f,Int.toNat_natCast,Int.toNat_zero,cond_true,cond_false,Bool.and_self,Bool.true_and,Bool.and_true,Bool.false_and,Bool.and_false,Bool.not_true,Bool.not_false,Bool.or_self,Bool.true_or,Bool.or_true,Bool.false_or,Bool.or_false,pre163 p3,fun163 p3,e3,pre187 p4,fun187 p4,Wd_rep,hw]
    show (bif S133.pre (Wd out,()) then some ((S133.F (Wd out,())).1,Dw (x % y),()) else none) = _
    rw [pre133 p5,fun133 p5]
    rfl
theorem T165_eq {x y:Nat} (hx:x < (2 ^ 64) ^ 4000) (hy:0 < y) (hy2:y < (2 ^ 64) ^ 4000):T165 (Dw x,Dw y,()) = some (Dw (x / y),Dw (x % y),()):=by
  show t165 S182.pre S182.F (Dw x) (Dw y) = _
  unfold t165
  have p0:=T182_eq hx hy hy2
  simp only [pre182 p0,fun182 p0,cond_true]
end VL
namespace VL
open Go Vx
theorem b4000 {n k:Nat} (h:n < 2 ^ k) (hk:k ≤ 64 * 4000):n < (2 ^ 64) ^ 4000:=by
  rw [pow64]
  exact Nat.lt_of_lt_of_le h (Nat.pow_le_pow_right (by decide) hk)
theorem b5000 {n k:Nat} (h:n < 2 ^ k) (hk:k ≤ 64 * 5000):n < (2 ^ 64) ^ 5000:=by
  rw [pow64]
  exact Nat.lt_of_lt_of_le h (Nat.pow_le_pow_right (by decide) hk)
theorem shift_lt {n k d:Nat} (h:n < 2 ^ k):n * 2 ^ d < 2 ^ (k + d):=by
  rw [Nat.pow_add]; exact Nat.mul_lt_mul_of_pos_right h (Nat.two_pow_pos d)
theorem Dw_len0 (n:Nat):((((Dw n).length:Nat):Int) == 0) = decide (n = 0):=by
  by_cases h:n = 0
  · subst h; rw [Dw_zero]; rfl
  · rw [decide_eq_false h]; exact beq0_f _ (by have:=Dw_len h; omega)
abbrev NumS (neg:Bool) (N:Nat) (E:Int):Bool × List Int × List Int × Int × Unit:=(neg,(Dw N,(Dw 1,(E,()))))
theorem cls_left {r s:Nat} (hr:r ≠ 0) (hs:1 ≤ s):IntKind.wrap .i64 ((2:Int) + (if r * 2 ^ 1 = 2 ^ s then 0 else if r * 2 ^ 1 < 2 ^ s then -1 else 1)) = ((clsR r s:Nat):Int):=by
  have hp:2 ^ s = 2 ^ (s - 1) * 2:=by rw [← Nat.pow_succ]; congr 1; omega
  unfold clsR
  rw [if_neg hr,hp]
  by_cases h1:r < 2 ^ (s - 1)
  · rw [if_pos h1,if_neg (by omega),if_pos (by omega)]; rfl
  · rw [if_neg h1]
    by_cases h2:r = 2 ^ (s - 1)
    · rw [if_pos h2,if_pos (by omega)]; rfl
    · rw [if_neg h2,if_neg (by omega),if_neg (by omega)]; rfl
theorem T136_eq (neg:Bool) {N:Nat} (hN:N < 2 ^ 8000) (E q:Int) (hE:-10000 ≤ E ∧ E ≤ 10000) (hq:-20000 ≤ q ∧ q ≤ 20000) :
    T136 (NumS neg N E,q,()) = some (Dw (quoE N E q),(rstE N E q:Int),()):=by
  show t136 S165.pre S165.F S164.pre S164.F S166.pre S166.F (NumS neg N E) q = _
  unfold t136
  dsimp only
  by_cases h:q ≤ E
  · obtain ⟨d,hd⟩:=Int.eq_ofNat_of_zero_le (show 0 ≤ E - q by omega)
    have e1:IntKind.wrap .i64 (d:Int) = (d:Int):=wrapI (by omega)
    have hs:=shift_lt (d:=d) hN
    have p0:=T164_eq (b5000 hN (by decide)) d (by omega)
    have p1:=T165_eq (b4000 hs (by omega)) (y:=1) (by decide) (by decide +kernel)
    rw [decide_eq_true (show E ≥ q by omega),cond_true,hd]
    simp only [e1,pre164 p0,fun164 p0,pre165 p1,fun165 p1,cond_true,Dw_len0]
    rw [Nat.mod_one,Nat.div_one,decide_eq_true rfl,cond_true,quoE_lo h,rstE_lo h,hd]
    rfl
  · obtain ⟨d,hd⟩:=Int.eq_ofNat_of_zero_le (show 0 ≤ q - E by omega)
    have e1:IntKind.wrap .i64 (d:Int) = (d:Int):=wrapI (by omega)
    have h2d:2 ^ d < 2 ^ (d + 1):=Nat.pow_lt_pow_right (by decide) (by omega)
    have p0:=T164_eq (x:=1) (by decide +kernel) d (by omega)
    rw [Nat.one_mul] at p0
    have p1:=T165_eq (b4000 hN (by decide)) (y:=2 ^ d) (Nat.two_pow_pos d) (b4000 h2d (by omega))
    have hr:=Nat.mod_lt N (Nat.two_pow_pos d)
    have p2:=T164_eq (x:=N % 2 ^ d) (b5000 (Nat.lt_trans hr h2d) (by omega)) 1 (by omega)
    have p2:T164 (Dw (N % 2 ^ d),(1:Int),()) = _:=p2
    have p3:=T166_eq (x:=N % 2 ^ d * 2 ^ 1) (y:=2 ^ d) (b5000 (shift_lt (Nat.lt_trans hr h2d)) (by omega)) (b5000 h2d (by omega))
    rw [decide_eq_false (show ¬ E ≥ q by omega),cond_false,hd]
    simp only [e1,pre164 p0,fun164 p0,pre165 p1,fun165 p1,cond_true,Dw_len0]
    rw [quoE_hi (by omega),rstE_hi (by omega),hd,Int.toNat_natCast]
    by_cases h0:N % 2 ^ d = 0
    · rw [decide_eq_true h0,cond_true,h0]; rfl
    · rw [decide_eq_false h0,cond_false]
      simp only [pre164 p2,fun164 p2,cond_true,pre166 p3,fun166 p3]
      rw [cls_left h0 (by omega)]
theorem T137_eq {m:Int} (hm:0 ≤ m ∧ m ≤ 5) (neg:Bool) {u:Nat} (hu:u < (2 ^ 64) ^ 4000) (left:Nat) (hl:left < 4) :
    T137 (m,neg,Dw u,(left:Int),()) = some (Dw (if left ≠ 0 ∧ furM m neg (decide (u % 2 = 1)) left = true then u + 1 else u),()):=by
  show t137 S167.pre S167.F S168.pre S168.F m neg (Dw u) (left:Int) = _
  have hmon:(2 ^ 64) ^ 4000 < (2 ^ 64) ^ 5000:=by decide +kernel
  have p0:=T167_dw (x:=u) (by omega) 0 (by omega)
  rw [Nat.pow_zero,Nat.div_one] at p0
  have p0:T167 (Dw u,(0:Int),()) = _:=p0
  have p1:=T168_dw (x:=u) (y:=1) (by omega) (by decide +kernel)
  rw [Dw_one] at p1
  have e1:(((u % 2:Nat):Int) == 1) = decide (u % 2 = 1):=by rw [Bool.eq_iff_iff,decide_eq_true_eq,beq_iff_eq]; omega
  unfold t137
  simp only [pre167 p0,fun167 p0,pre168 p1,fun168 p1,cond_true,e1]
  generalize decide (u % 2 = 1) = odd
  have hl4:left = 0 ∨ left = 1 ∨ left = 2 ∨ left = 3:=by omega
  rcases (show m = 0 ∨ m = 1 ∨ m = 2 ∨ m = 3 ∨ m = 4 ∨ m = 5 by omega) with rfl | rfl | rfl | rfl | rfl | rfl <;>
    rcases hl4 with rfl | rfl | rfl | rfl <;> cases odd <;> cases neg <;> rfl
theorem chosen_cut (m:Int) (neg:Bool) (N:Nat) (E q:Int):(if rstE N E q ≠ 0 ∧ furM m neg (decide (quoE N E q % 2 = 1)) (rstE N E q) = true then quoE N E q + 1 else quoE N E q) = cutN m neg N E q false:=rfl
theorem quo_ge {n:Nat} {e q:Int} {p:Nat} (h0:n ≠ 0) (hp:1 ≤ p) (h:q ≤ topE n e - p + 1):2 ^ (p - 1) ≤ quoE n e q:=by
  have hb:=blen_le h0
  have hb1:=blen_pos h0
  have ht:topE n e = e + (blen n:Int) - 1:=rfl
  by_cases hq:q ≤ e
  · rw [quoE_lo hq]
    obtain ⟨d,hd⟩:=Int.eq_ofNat_of_zero_le (show 0 ≤ e - q by omega)
    rw [hd,Int.toNat_natCast]
    have h1:2 ^ (blen n - 1) * 2 ^ d ≤ n * 2 ^ d:=Nat.mul_le_mul_right _ hb
    rw [← Nat.pow_add] at h1
    exact Nat.le_trans (Nat.pow_le_pow_right (by decide) (by omega)) h1
  · rw [quoE_hi (by omega)]
    obtain ⟨d,hd⟩:=Int.eq_ofNat_of_zero_le (show 0 ≤ q - e by omega)
    rw [hd,Int.toNat_natCast,Nat.le_div_iff_mul_le (Nat.two_pow_pos d),← Nat.pow_add]
    exact Nat.le_trans (Nat.pow_le_pow_right (by decide) (by omega)) hb
theorem cut_ge {m:Int} {neg:Bool} {n:Nat} {e q:Int} {p:Nat} (h0:n ≠ 0) (hp:1 ≤ p) (h:q ≤ topE n e - p + 1):p ≤ blen (cutN m neg n e q false):=by
  have h1:=quo_ge h0 hp h
  have h2:2 ^ (p - 1) ≤ cutN m neg n e q false:=by
    unfold cutN; split <;> omega
  have:=blen_ge h2
  omega
theorem T135_eq (neg:Bool) {N:Nat} (h0:N ≠ 0) (hN:N < 2 ^ 8000) (E:Int) (hE:-9000 ≤ E ∧ E ≤ 9000):T135 (NumS neg N E,()) = some (topE N E,()):=by
  show t135 S138.pre S138.F S136.pre S136.F (NumS neg N E) = _
  unfold t135
  have hb:=blen_bound hN
  have p0:=T138_dw (b5000 hN (by decide))
  have p1:=T138_dw (x:=1) (by decide +kernel)
  have ht:topE N E = E + (blen N:Int) - 1:=rfl
  have p2:=T136_eq neg hN E (topE N E) (by omega) (by omega)
  have e1:IntKind.wrap .i64 (IntKind.wrap .i64 ((blen N:Int) - ((blen 1:Nat):Int)) + E) = topE N E:=by
    have:blen 1 = 1:=rfl
    rw [this,wrapI (n:=(blen N:Int) - _) (by omega),wrapI (by omega),ht]; omega
  have hq:=quo_ge (e:=E) (q:=topE N E) (p:=1) h0 (Nat.le_refl _) (by omega)
  dsimp only
  simp only [pre138 p0,fun138 p0,pre138 p1,fun138 p1,cond_true,e1,pre136 p2,fun136 p2,Dw_len0]
  rw [decide_eq_false (by omega),cond_false]
theorem T134_eq (neg:Bool):T134 (neg,()) = some ((if neg then 1 else 0:Int),()):=by
  cases neg <;> kernel_rfl
theorem T169_ok {f:Int} (h:Fm f) (neg:Bool):T169 (f,(if neg then 1 else 0:Int),()) = some ((infB f neg:Int),()):=by
  rcases Fm_cases h with rfl | rfl | rfl | rfl <;> cases neg <;> kernel_rfl
theorem T170_ok {f:Int} (h:Fm f) (neg:Bool):T170 (f,(if neg then 1 else 0:Int),()) = some (((infB f neg - 1:Nat):Int),()):=by
  rcases Fm_cases h with rfl | rfl | rfl | rfl <;> cases neg <;> kernel_rfl
theorem T132_ok {f:Int} (h:Fm f) (neg:Bool):T132 (f,(if neg then 1 else 0:Int),0,0,()) = some ((sgnF f neg:Int),()):=by
  rcases Fm_cases h with rfl | rfl | rfl | rfl <;> cases neg <;> kernel_rfl
theorem T139_eq {f:Int} (h:Fm f) (m:Int) (neg:Bool):T139 (f,m,neg,()) = some ((beyB f m neg:Int),()):=by
  show t139 S169.pre S169.F S134.pre S134.F S170.pre S170.F f m neg = _
  have p0:=T134_eq neg
  have p1:=T169_ok h neg
  have p2:=T170_ok h neg
  unfold t139 beyB
  simp only [pre134 p0,fun134 p0,pre169 p1,fun169 p1,pre170 p2,fun170 p2,cond_true]
  show (bif upw m neg then _ else _) = _
  cases upw m neg <;> rfl
theorem or_sgn {f:Int} (hf:Fm f) (neg:Bool) {v:Nat} (hv:v < 2 ^ (fW f - 1)):orI .u64 (sgnF f neg:Int) (v:Int) = ((v + sgnF f neg:Nat):Int):=by
  have hW:=fW_le hf
  have h1:2 ^ (fW f - 1) ≤ 2 ^ 63:=Nat.pow_le_pow_right (by decide) (by omega)
  have hs:sgnF f neg < 2 ^ 64:=by unfold sgnF; split <;> omega
  rw [orN2 hs (by omega)]
  congr 1
  unfold sgnF
  cases neg
  · simp
  · rw [if_pos rfl]
    have:=Nat.two_pow_add_eq_or_of_lt hv 1
    rw [Nat.mul_one] at this
    omega
theorem T88_eq {f m:Int} (hf:Fm f) (hm:0 ≤ m ∧ m ≤ 5) (neg:Bool) {N:Nat} (h0:N ≠ 0) (hN:N < 2 ^ 8000) (E:Int) (hE:-8000 ≤ E ∧ E ≤ 8000) :
    T88 (f,m,NumS neg N E,()) = some (((rndN f m neg N E false).1:Int),((rndN f m neg N E false).2:Int),()):=by
  show t88 S133.pre S133.F S114.pre S114.F S131.pre S131.F S135.pre S135.F S139.pre S139.F S136.pre S136.F S137.pre S137.F S138.pre S138.F S134.pre S134.F S132.pre S132.F f m (NumS neg N E) = _
  have hP:=fP_ge hf
  have hPl:=fP_le hf
  have hPW:=fP_lt hf
  have hW:=fW_le hf
  have hX:=fX_le hf
  have hX15:=fX_ge hf
  have hbl:=blen_bound hN
  have hbl1:=blen_pos h0
  have htop:topE N E = E + (blen N:Int) - 1:=rfl
  have pT:=T133_dw (b5000 hN (by decide))
  have pP:=T131_ok hf
  have pTop:=T135_eq neg h0 hN E (by omega)
  have pY:=T139_eq hf m neg
  have pS:=T134_eq neg
  have pM:=T132_ok hf neg
  have r1:(rowOf f).2.1 = (fP f:Int):=rfl
  have r2:(rowOf f).2.2.1 = 1 - (fX f:Int):=rfl
  have r3:(rowOf f).2.2.2.1 = (fX f:Int):=rfl
  have e5:IntKind.wrap .i64 (IntKind.wrap .i64 (topE N E - (fP f:Int)) + 1) = topE N E - (fP f:Int) + 1:=by
    rw [wrapI (n:=_ - (fP f:Int)) (by omega),wrapI (by omega)]
  have e4:IntKind.wrap .i64 (IntKind.wrap .i64 ((1 - (fX f:Int)) - (fP f:Int)) + 1) = 1 - (fX f:Int) - (fP f:Int) + 1:=by
    rw [wrapI (n:=_ - (fP f:Int)) (by omega),wrapI (by omega)]
  have e6:IntKind.wrap .i64 ((fX f:Int) + 1) = (fX f:Int) + 1:=wrapI (by omega)
  have e10:IntKind.wrap .u64 (IntKind.wrap .i64 ((fP f:Int) - 1)) = ((fP f - 1:Nat):Int):=by
    rw [wsub1 _ (by omega),wu_id _ (by omega)]
  have hlow:topE N E - (fP f:Int) + 1 ≤ lowE f (topE N E) ∧ lowE f (topE N E) = (if topE N E - (fP f:Int) + 1 < 1 - (fX f:Int) - (fP f:Int) + 1 then 1 - (fX f:Int) - (fP f:Int) + 1 else topE N E - (fP f:Int) + 1):=by
    unfold lowE
    refine ⟨?_,?_⟩
    · split <;> omega
    · split
      · rw [if_pos (by omega)]
      · rw [if_neg (by omega)]
  -- what the places at q give
  have hcut:∀ q:Int,topE N E - (fP f:Int) + 1 ≤ q → cutN m neg N E q false ≤ 2 ^ 53:=fun q h =>
    Nat.le_trans (cut_lt_big (m:=m) (neg:=neg) hf h) (Nat.pow_le_pow_right (by decide) hPl)
  have hquo:∀ q:Int,topE N E - (fP f:Int) + 1 ≤ q → quoE N E q < 2 ^ 53:=fun q h =>
    Nat.lt_of_lt_of_le (quo_lt h) (Nat.pow_le_pow_right (by decide) hPl)
  have p136:∀ q:Int,-20000 ≤ q → q ≤ 20000 → _:=fun q h1 h2=>T136_eq neg hN E q (by omega) ⟨h1,h2⟩
  have p137:∀ q:Int,topE N E - (fP f:Int) + 1 ≤ q → T137 (m,neg,Dw (quoE N E q),(rstE N E q:Int),()) = some (Dw (cutN m neg N E q false),()):=fun q h=>by
    have:=T137_eq hm neg (b4000 (hquo q h) (by decide)) (rstE N E q) (rest_lt N E q)
    rw [chosen_cut] at this
    exact this
  have p138:∀ q:Int,topE N E - (fP f:Int) + 1 ≤ q → T138 (Dw (cutN m neg N E q false),()) = some ((blen (cutN m neg N E q false):Int),()):=fun q h =>
    T138_dw (b5000 (Nat.lt_of_le_of_lt (hcut q h) (Nat.pow_lt_pow_right (by decide) (by decide))) (by decide:54 ≤ 64 * 5000))
  have hU2:=hcut _ (Int.le_refl (topE N E - (fP f:Int) + 1))
  have hblen2:=blen_bound (show cutN m neg N E (topE N E - (fP f:Int) + 1) false < 2 ^ 60 by omega)
  have hge2:fP f ≤ blen (cutN m neg N E (topE N E - (fP f:Int) + 1) false):=cut_ge h0 (by omega) (Int.le_refl _)
  have hqb:-20000 ≤ lowE f (topE N E) ∧ lowE f (topE N E) ≤ 20000 ∧ 1 - (fX f:Int) - (fP f:Int) + 1 ≤ lowE f (topE N E):=by
    rw [hlow.2]; split <;> omega
  have hU:=hcut _ hlow.1
  have hblen:=blen_bound (show cutN m neg N E (lowE f (topE N E)) false < 2 ^ 60 by omega)
  have q136:=p136 _ hqb.1 hqb.2.1
  have q137:=p137 _ hlow.1
  have q138:=p138 _ hlow.1
  have q136':=p136 (topE N E - (fP f:Int) + 1) (by omega) (by omega)
  have q137':=p137 _ (Int.le_refl (topE N E - (fP f:Int) + 1))
  have q138':=p138 _ (Int.le_refl (topE N E - (fP f:Int) + 1))
  have hU0:cutN m neg N E (lowE f (topE N E)) false = 0 → lowE f (topE N E) = 1 - (fX f:Int) - (fP f:Int) + 1:=fun h=>by
    by_cases hq:lowE f (topE N E) = 1 - (fX f:Int) - (fP f:Int) + 1
    · exact hq
    · exfalso
      have h2:lowE f (topE N E) = topE N E - (fP f:Int) + 1:=by
        have h3:=hlow.2
        split at h3 <;> omega
      rw [h2] at h
      rw [h] at hge2
      have:blen 0 = 0:=rfl
      omega
  have hov1:topE N E > fX f → lowE f (topE N E) + (blen (cutN m neg N E (lowE f (topE N E)) false):Int) > (fX f:Int) + 1:=fun h=>by
    have h2:lowE f (topE N E) = topE N E - (fP f:Int) + 1:=by rw [hlow.2,if_neg (by omega)]
    rw [h2]; omega
  have hRr:cutR N E (lowE f (topE N E)) false = rstE N E (lowE f (topE N E)):=rfl
  have hrnd:rndN f m neg N E false = (if lowE f (topE N E) + (blen (cutN m neg N E (lowE f (topE N E)) false):Int) > (fX f:Int) + 1 then (beyB f m neg,20)
      else ((lowE f (topE N E) - (1 - (fX f:Int) - fP f + 1)).toNat * 2 ^ (fP f - 1) + cutN m neg N E (lowE f (topE N E)) false + sgnF f neg,
        if rstE N E (lowE f (topE N E)) = 0 then 0 else if (blen (cutN m neg N E (topE N E - (fP f:Int) + 1) false):Int) + topE N E - (fP f:Int) + 1 ≤ 1 - (fX f:Int) then 24 else 16)):=by
    unfold rndN
    dsimp only
    rw [hRr]
    by_cases h1:topE N E > fX f
    · rw [if_pos h1,if_pos (hov1 h1)]
    · rw [if_neg h1]
      by_cases h2:lowE f (topE N E) + (blen (cutN m neg N E (lowE f (topE N E)) false):Int) > (fX f:Int) + 1
      · rw [if_pos h2,if_pos (by omega)]
      · rw [if_neg h2,if_neg (by omega)]
        congr 1
        by_cases h3:rstE N E (lowE f (topE N E)) = 0
        · rw [if_pos h3,if_pos h3]
        · rw [if_neg h3,if_neg h3]
          by_cases h4:(blen (cutN m neg N E (topE N E - (fP f:Int) + 1) false):Int) + topE N E - (fP f:Int) + 1 ≤ 1 - (fX f:Int)
          · rw [if_pos h4,if_pos (show isTiny f m neg N E false from ⟨by omega,by omega⟩)]
          · rw [if_neg h4,if_neg (fun h:isTiny f m neg N E false=>by have:=h.2; omega)]
  rw [hrnd]
  obtain ⟨k,hk⟩:=Int.eq_ofNat_of_zero_le (show 0 ≤ lowE f (topE N E) - (1 - (fX f:Int) - (fP f:Int) + 1) by omega)
  have hR4:=rest_lt N E (lowE f (topE N E))
  have hle0:=hlow.2
  have hhalf:=half_eq hf
  have hpp:=Nat.two_pow_pos (fP f - 1)
  have hW1:2 ^ (fW f - 1) ≤ 2 ^ 63:=Nat.pow_le_pow_right (by decide) (by omega)
  have hcl:=cut_lt_big (m:=m) (neg:=neg) hf hlow.1
  unfold t88
  dsimp only
  simp only [pre133 pT,fun133 pT,pre134 pS,fun134 pS,Dw_len0,decide_eq_false h0,cond_false,pre131 pP,fun131 pP,cond_true,pre135 pTop,fun135 pTop,r1,r2,r3,e4,e5,e6,e10]
  clear hcut hquo p136 p137 p138 hov1 hrnd hRr
  generalize hq:lowE f (topE N E) = q at *
  generalize hUd:cutN m neg N E q false = U at *
  generalize hU2d:cutN m neg N E (topE N E - (fP f:Int) + 1) false = U2 at *
  generalize hRd:rstE N E q = R at *
  have e7:IntKind.wrap .i64 ((blen U:Int) + q) = (blen U:Int) + q:=wrapI (by omega)
  have e8:IntKind.wrap .i64 (IntKind.wrap .i64 (IntKind.wrap .i64 ((blen U2:Int) + topE N E) - (fP f:Int)) + 1) = (blen U2:Int) + topE N E - (fP f:Int) + 1:=by
    rw [wrapI (n:=(blen U2:Int) + _) (by omega),wrapI (n:=_ - (fP f:Int)) (by omega),wrapI (by omega)]
  have e9:IntKind.wrap .u64 (IntKind.wrap .i64 (k:Int)) = (k:Int):=by
    rw [wrapI (by omega),wu_id _ (by omega)]
  have hDg:(Dw U).getD (Int.toNat 0) 0 = (U:Int):=by rw [Int.toNat_zero,Dw_get,Nat.mod_eq_of_lt (by omega)]
  by_cases hov:q + (blen U:Int) > (fX f:Int) + 1
  · have hov':decide ((blen U:Int) + q > (fX f:Int) + 1) = true:=decide_eq_true (by omega)
    rw [if_pos hov]
    by_cases hc:topE N E - (fP f:Int) + 1 < 1 - (fX f:Int) - (fP f:Int) + 1
    · rw [if_pos hc] at hle0
      rw [← hle0] at hc ⊢
      simp only [decide_eq_true hc,cond_true,pre136 q136,fun136 q136,pre137 q137,fun137 q137,pre138 q138,fun138 q138,e7,hov',pre139 pY,fun139 pY]
      rfl
    · rw [if_neg hc] at hle0
      rw [← hle0] at hc ⊢
      simp only [decide_eq_false hc,cond_false,cond_true,pre136 q136,fun136 q136,pre137 q137,fun137 q137,pre138 q138,fun138 q138,e7,hov',pre139 pY,fun139 pY]
      rfl
  · have hov':decide ((blen U:Int) + q > (fX f:Int) + 1) = false:=decide_eq_false (by omega)
    rw [if_neg hov]
    have hk2:k ≤ 2 * fX f - 1 ∨ U = 0:=by
      rcases Nat.eq_zero_or_pos U with h | h
      · exact .inr h
      · have:=blen_pos (n:=U) (by omega)
        left
        by_cases hc:topE N E - (fP f:Int) + 1 < 1 - (fX f:Int) - (fP f:Int) + 1
        · rw [if_pos hc] at hle0; omega
        · rw [if_neg hc] at hle0
          rw [← hle0,hUd] at hU2d
          subst hU2d
          omega
    have hk3:k ≤ 2 * fX f - 1:=by
      rcases hk2 with h | h
      · exact h
      · have:=hU0 h; omega
    have hkp:k * 2 ^ (fP f - 1) ≤ (2 * fX f - 1) * 2 ^ (fP f - 1):=Nat.mul_le_mul_right _ hk3
    have e11:shlI .u64 (k:Int) ((fP f - 1:Nat):Int) = ((k * 2 ^ (fP f - 1):Nat):Int):=by
      rw [shlN _ _ (by omega),Nat.mod_eq_of_lt (by omega)]
    have e12:IntKind.wrap .u64 (((k * 2 ^ (fP f - 1):Nat):Int) + (U:Int)) = ((k * 2 ^ (fP f - 1) + U:Nat):Int):=wu_add _ _ (by omega)
    have e12':U = 0 → IntKind.wrap .u64 (((k * 2 ^ (fP f - 1):Nat):Int) + 0) = ((k * 2 ^ (fP f - 1) + U:Nat):Int):=fun h=>by rw [h] at e12 ⊢; exact e12
    have e13:=or_sgn hf neg (v:=k * 2 ^ (fP f - 1) + U) (by omega)
    have hgt0:decide ((R:Int) > 0) = decide (R ≠ 0):=by rw [Bool.eq_iff_iff,decide_eq_true_eq,decide_eq_true_eq]; omega
    have hfl:((if R = 0 then 0 else if (blen U2:Int) + topE N E - (fP f:Int) + 1 ≤ 1 - (fX f:Int) then 24 else 16:Nat):Int) =
        (bif decide (R ≠ 0) then (bif decide ((blen U2:Int) + topE N E - (fP f:Int) + 1 ≤ 1 - (fX f:Int)) then (24:Int) else 16) else 0):=by
      by_cases h1:R = 0
      · rw [if_pos h1,decide_eq_false (by omega)]; rfl
      · rw [if_neg h1,decide_eq_true h1]
        by_cases h2:(blen U2:Int) + topE N E - (fP f:Int) + 1 ≤ 1 - (fX f:Int)
        · rw [if_pos h2,decide_eq_true h2]; rfl
        · rw [if_neg h2,decide_eq_false h2]; rfl
    rw [hfl,hk,Int.toNat_natCast]
    have eL:U ≠ 0 → decide ((((Dw U).length:Nat):Int) > 0) = true:=Dw_len_gt
    have eL2:U ≠ 0 → decide ((0:Int) < (((Dw U).length:Nat):Int)) = true:=Dw_len_pos
    have eL0:U = 0 → decide ((((Dw U).length:Nat):Int) > 0) = false:=fun h=>by rw [h,Dw_zero]; rfl
    by_cases hc:topE N E - (fP f:Int) + 1 < 1 - (fX f:Int) - (fP f:Int) + 1
    · rw [if_pos hc] at hle0
      rw [← hle0] at hk ⊢
      simp only [show decide (topE N E - (fP f:Int) + 1 < q) = true from decide_eq_true (by omega),cond_true,pre136 q136,fun136 q136,pre137 q137,fun137 q137,pre138 q138,fun138 q138,pre136 q136',fun136 q136',pre137 q137',fun137 q137',pre138 q138',fun138 q138',e7,hov',cond_false,hgt0,e8,hk,e9,e11,pre132 pM,fun132 pM,hDg]
      by_cases hz:U = 0
      · simp only [eL0 hz,e12' hz,e13,cond_false]
        cases decide (R ≠ 0) <;> cases decide ((blen U2:Int) + topE N E - (fP f:Int) + 1 ≤ 1 - (fX f:Int)) <;> rfl
      · simp only [eL hz,eL2 hz,e12,e13,cond_true]
        cases decide (R ≠ 0) <;> cases decide ((blen U2:Int) + topE N E - (fP f:Int) + 1 ≤ 1 - (fX f:Int)) <;> rfl
    · rw [if_neg hc] at hle0
      rw [decide_eq_false hc,cond_false,← hle0]
      simp only [pre136 q136,fun136 q136,pre137 q137,fun137 q137,pre138 q138,fun138 q138,e7,hov',cond_false,cond_true,hgt0,hk,e9,e11,pre132 pM,fun132 pM,hDg]
      rw [← hle0,hUd] at hU2d
      subst hU2d
      simp only [e8]
      by_cases hz:U = 0
      · simp only [eL0 hz,e12' hz,e13,cond_false]
        cases decide (R ≠ 0) <;> cases decide ((blen U:Int) + topE N E - (fP f:Int) + 1 ≤ 1 - (fX f:Int)) <;> rfl
      · simp only [eL hz,eL2 hz,e12,e13,cond_true]
        cases decide (R ≠ 0) <;> cases decide ((blen U:Int) + topE N E - (fP f:Int) + 1 ≤ 1 - (fX f:Int)) <;> rfl
end VL
namespace VL
open Go Vx
theorem T85_eq {f:Int} (hf:Fm f) {a:Nat} (ha:a < 2 ^ 64):T85 (f,(a:Int),()) = some (isInf f a,()):=by
  show t85 S113.pre S113.F f a = _
  unfold t85
  have p0:=T113_eq hf ha
  simp only [pre113 p0,fun113 p0,cond_true]
  unfold isInf
  rw [nbeq,nbeq0]
theorem T86_eq {f:Int} (hf:Fm f) {a:Nat} (ha:a < 2 ^ 64):T86 (f,(a:Int),()) = some (eF f a == 0 && mF f a == 0,()):=by
  show t86 S113.pre S113.F f a = _
  unfold t86
  have p0:=T113_eq hf ha
  simp only [pre113 p0,fun113 p0,cond_true]
  rw [nbeq0,nbeq0]
theorem T87_eq {f:Int} (hf:Fm f) {a:Nat} (ha:a < 2 ^ 64):T87 (f,(a:Int),()) = some ((mant f a:Int),xpn f a,()):=by
  show t87 S131.pre S131.F S113.pre S113.F f a = _
  unfold t87
  have p0:=T113_eq hf ha
  have p1:=T131_ok hf
  have h1:=fP_ge hf
  have h2:=fX_le hf
  have h3:=fP_le hf
  have h4:=fX_ge hf
  have h5:=eF_lt hf a
  have hm:=mF_lt f a
  have hX:=fX_eq hf
  have hpp:2 ^ (fP f - 1) ≤ 2 ^ 52:=Nat.pow_le_pow_right (by decide) (by omega)
  have hE:eF f a ≤ 4000:=by omega
  simp only [pre113 p0,fun113 p0,pre131 p1,fun131 p1,cond_true]
  have r1:(rowOf f).2.1 = (fP f:Int):=rfl
  have r2:(rowOf f).2.2.1 = 1 - (fX f:Int):=rfl
  rw [r1,r2,nbeq0]
  unfold mant xpn
  by_cases h0:eF f a = 0
  · rw [beq_iff_eq.2 h0,cond_true,if_pos h0,if_pos h0,wrapI (n:=1 - (fX f:Int) - _) (by omega),wrapI (by omega),Int.add_zero]
  · have hb:(eF f a == 0) = false:=by simpa using h0
    have e10:IntKind.wrap .u64 (IntKind.wrap .i64 ((fP f:Int) - 1)) = ((fP f - 1:Nat):Int):=by
      rw [wsub1 _ (by omega),wu_id _ (by omega)]
    have e11:=one_shl (fP f - 1) (by omega)
    have e12:IntKind.wrap .u64 (((2 ^ (fP f - 1):Nat):Int) + (mF f a:Int)) = ((2 ^ (fP f - 1) + mF f a:Nat):Int):=wu_add _ _ (by omega)
    rw [hb,cond_false,if_neg h0,if_neg h0,e10,e11,e12]
    rw [wrapI (n:=(eF f a:Int)) (by omega),wrapI (n:=(eF f a:Int) - 1) (by omega),wrapI (n:=(eF f a:Int) - 1 + _) (by omega),wrapI (n:=(eF f a:Int) - 1 + (1 - (fX f:Int)) - _) (by omega),wrapI (by omega)]
    refine congrArg some (Prod.ext ?_ (Prod.ext ?_ rfl))
    · exact congrArg Int.ofNat (Nat.add_comm _ _)
    · show @Eq Int _ _
      dsimp only
      omega
end VL
namespace VL
open Go Vx
theorem a32 {x:Nat} (h:x < 2 ^ 64):andI .u64 (x:Int) 4294967295 = ((x % 2 ^ 32:Nat):Int):=andI_mask (n:=32) h (by decide)
theorem s32 (x:Nat):shrI .u64 (x:Int) 32 = ((x / 2 ^ 32:Nat):Int):=by
  have h:=shrI_u64 (a:=(x:Int)) 32 (by decide)
  rw [show ((32:Nat):Int) = 32 from rfl] at h
  rw [h]; norm_cast
theorem mul_hi {x0 x1 y0 y1:Nat} (h0:x0 < 2 ^ 32) (h1:x1 < 2 ^ 32) (k0:y0 < 2 ^ 32) (k1:y1 < 2 ^ 32) :
    ((x1 * y1 % 2 ^ 64 + (x1 * y0 % 2 ^ 64 + x0 * y0 % 2 ^ 64 / 2 ^ 32) % 2 ^ 64 / 2 ^ 32) % 2 ^ 64 + ((x1 * y0 % 2 ^ 64 + x0 * y0 % 2 ^ 64 / 2 ^ 32) % 2 ^ 64 % 2 ^ 32 + x0 * y1 % 2 ^ 64) % 2 ^ 64 / 2 ^ 32) % 2 ^ 64 = (x0 + 2 ^ 32 * x1) * (y0 + 2 ^ 32 * y1) / 2 ^ 64:=by
  have b00:x0 * y0 ≤ (2 ^ 32 - 1) * (2 ^ 32 - 1):=Nat.mul_le_mul (by omega) (by omega)
  have b01:x0 * y1 ≤ (2 ^ 32 - 1) * (2 ^ 32 - 1):=Nat.mul_le_mul (by omega) (by omega)
  have b10:x1 * y0 ≤ (2 ^ 32 - 1) * (2 ^ 32 - 1):=Nat.mul_le_mul (by omega) (by omega)
  have b11:x1 * y1 ≤ (2 ^ 32 - 1) * (2 ^ 32 - 1):=Nat.mul_le_mul (by omega) (by omega)
  have e1:x0 * (2 ^ 32 * y1) = 2 ^ 32 * (x0 * y1):=Nat.mul_left_comm _ _ _
  have e2:2 ^ 32 * x1 * y0 = 2 ^ 32 * (x1 * y0):=Nat.mul_assoc _ _ _
  have e3:2 ^ 32 * x1 * (2 ^ 32 * y1) = 2 ^ 64 * (x1 * y1):=by
    rw [Nat.mul_assoc,Nat.mul_left_comm x1,← Nat.mul_assoc]
  rw [Nat.add_mul,Nat.mul_add,Nat.mul_add,e1,e2,e3]
  generalize x0 * y0 = a at *
  generalize x0 * y1 = b at *
  generalize x1 * y0 = c at *
  generalize x1 * y1 = d at *
  have ha:a % 2 ^ 64 = a:=Nat.mod_eq_of_lt (by omega)
  have hb:b % 2 ^ 64 = b:=Nat.mod_eq_of_lt (by omega)
  have hc:c % 2 ^ 64 = c:=Nat.mod_eq_of_lt (by omega)
  have hd:d % 2 ^ 64 = d:=Nat.mod_eq_of_lt (by omega)
  rw [ha,hb,hc,hd]
  have ht:(c + a / 2 ^ 32) % 2 ^ 64 = c + a / 2 ^ 32:=Nat.mod_eq_of_lt (by omega)
  rw [ht]
  generalize hT:c + a / 2 ^ 32 = t
  have hw:(t % 2 ^ 32 + b) % 2 ^ 64 = t % 2 ^ 32 + b:=Nat.mod_eq_of_lt (by omega)
  rw [hw]
  have hq:(d + t / 2 ^ 32) % 2 ^ 64 = d + t / 2 ^ 32:=Nat.mod_eq_of_lt (by omega)
  rw [hq]
  omega
theorem T315_eq {x y:Nat} (hx:x < 2 ^ 64) (hy:y < 2 ^ 64):T315 ((x:Int),(y:Int),()) = some (((x * y / 2 ^ 64:Nat):Int),((x * y % 2 ^ 64:Nat):Int),()):=by
  show t315 (x:Int) (y:Int) = _
  unfold t315
  dsimp only
  rw [a32 hx,a32 hy,s32 x,s32 y]
  have hm:∀ z:Nat,z % 2 ^ 64 < 2 ^ 64:=fun z=>Nat.mod_lt _ (by decide)
  have am:∀ z:Nat,andI .u64 ((z % 2 ^ 64:Nat):Int) 4294967295 = ((z % 2 ^ 64 % 2 ^ 32:Nat):Int):=fun z=>a32 (hm z)
  have wm:∀ a b:Nat,IntKind.wrap .u64 ((a:Int) * (b:Int)) = ((a * b % 2 ^ 64:Nat):Int):=fun a b=>by rw [← Int.natCast_mul]; exact wrapN _
  have wa:∀ a b:Nat,IntKind.wrap .u64 ((a:Int) + (b:Int)) = (((a + b) % 2 ^ 64:Nat):Int):=fun a b=>by rw [← Int.natCast_add]; exact wrapN _
  simp only [wm,wa,s32,am]
  have e:=mul_hi (x0:=x % 2 ^ 32) (x1:=x / 2 ^ 32) (y0:=y % 2 ^ 32) (y1:=y / 2 ^ 32) (by omega) (by omega) (by omega) (by omega)
  rw [Nat.mod_add_div,Nat.mod_add_div] at e
  rw [e]
theorem T316_eq {x y:Nat} (hx:x < 2 ^ 64) (hy:y < 2 ^ 64):T316 ((x:Int),(y:Int),()) = some (Wi (x * y),()):=by
  show t316 S315.pre S315.F (x:Int) (y:Int) = _
  unfold t316
  have p:=T315_eq hx hy
  simp only [pre315 p,fun315 p,cond_true]
  rfl
def zro (f:Int) (a:Nat):Bool:=eF f a == 0 && mF f a == 0
theorem cls_zro {f:Int} (hf:Fm f) (a:Nat):(cls f a == 5 || cls f a == 6) = zro f a:=by
  have hp:=full_pos hf
  have hne:(eF f a == fullF f && eF f a == 0) = false:=by
    cases h:eF f a == fullF f
    · rfl
    · have:=beq_iff_eq.1 h
      rw [Bool.true_and,this]
      exact beq_eq_false_iff_ne.2 (by omega)
  unfold cls zro
  cases h1:eF f a == fullF f <;> cases h2:eF f a == 0 <;> rw [h1,h2] at hne <;> cases mF f a == 0 <;> cases sF f a <;> cases mF f a / 2 ^ (fP f - 2) != 0 <;> first | rfl | cases hne
theorem zro_mant {f:Int} {a:Nat} (h:zro f a = false):mant f a ≠ 0:=by
  unfold zro at h
  unfold mant
  by_cases hz:eF f a = 0
  · rw [if_pos hz]
    intro hm
    rw [hz,hm] at h
    cases h
  · rw [if_neg hz]
    have:=Nat.two_pow_pos (fP f - 1)
    omega
end VL
