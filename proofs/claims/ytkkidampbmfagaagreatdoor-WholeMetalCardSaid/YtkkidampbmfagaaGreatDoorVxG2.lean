/- Part 2 of the proof. What is proved: symbolic execution of the functions, proved sound; what each function of the program computes, and that every run ends with it; what these functions compute, in plain numbers. Conditions: each theorem bears its own. -/
import Derived.Test.YtkkidampbmfagaaGreatDoorVxG1
set_option linter.all false
set_option exponentiation.threshold 1000000
noncomputable section
namespace Vx
open Go Go.RowKit
variable {C:Cfg} {base:Base} {S0:Nat->Prop} {σ:Sit} {s:St} {a:Act} {ctx:List (Nat×Bool)} {o:Oper} {x:TV} {mem':Ae}
theorem MO {P:Program} {e:TypeId} {τ:Shape} (eτ:Cr P e=some τ):∃ i,P.info? e=some i:=by
 have:JV P 12 e=some τ:=by
  unfold Cr at eτ
  split at eτ
  ·rename_i τ' e'
   cases hb:Nat.beq (P.cellsOf e) τ'.width with
   | false=>rw [hb] at eτ; cases eτ
   | true=>rw [hb] at eτ; cases eτ; exact e'
  ·cases eτ
 unfold JV at this
 cases hu:P.underlying e with
 | none=>rw [hu] at this; cases this
 | some d=>exact To hu
theorem rL {P:Program} {T e:TypeId} {n:Nat} {τ:Shape} (hT:P.underlying T=some (.array n e)) (eτ:Cr P e=some τ) {r q:Nat} {k:IntKind} {i:Int} (h0:0<=i) (h1:i<(n:Int)) (w:World) :
  (Instr.indexAt T (.pointer (some ⟨r,q,none⟩)) (.int k i)).run P w=.ok (.pointer (some ⟨r,q+i.toNat*τ.width,none⟩)) w:=by
 unfold Instr.indexAt
 simp [Cf hT,asIntOf,Instr.sureAddr,h0,h1,EE (MO eτ),HK eτ,HF]
theorem cX {P:Program} {T e:TypeId} {n c:Nat} {τ:Shape} (hT:P.underlying T=some (.slice e)) (eτ:Cr P e=some τ) {r q:Nat} {k:IntKind} {i:Int} (h0:0<=i) (h1:i<(n:Int)) (w:World) :
  (Instr.indexAt T (.slice (some ⟨r,q,none⟩) n c) (.int k i)).run P w=.ok (.pointer (some ⟨r,q+i.toNat*τ.width,none⟩)) w:=by
 unfold Instr.indexAt
 simp [Cf hT,asIntOf,h0,h1,EE (MO eτ),HK eτ,HF]
theorem getD_some {α:Type} {xs:List α} {i:Nat} {d:α} (h:i<xs.length):xs[i]? = some (xs.getD i d):=by
 rw [List.getD_eq_getElem?_getD,List.getElem?_eq_getElem h]; rfl
theorem rV {τ:Shape} {xs:List (Aa τ)} {r q:Nat} {vs:Array Value} {T:TypeId} {fz:Nat×Nat} {i:Nat} (hS:σ.S r) (hh:σ.w.heap[r]? = some (.cells vs T fz)) (hrow:Rows σ.w σ.S τ vs q xs) (hi:i<xs.length) :
  Ap σ (.iptr τ (xs.getD i τ.dflt) 0) (.pointer (some ⟨r,q+i*τ.width,none⟩)):=by
 obtain ⟨ds,d1,d2⟩:=hrow i _ (getD_some (d:=τ.dflt) hi)
 exact ⟨r,q+i*τ.width,vs,T,fz,ds,rfl,hS,hh,d1,d2⟩
theorem dD {P:Program} {T e:TypeId} {τ:Shape} {xs:List (Aa τ)} {y:Value} (hT:P.underlying T=some (.slice e)) (eτ:Cr P e=some τ) (hd:AI σ.w σ.S (.slice τ) xs [y]) {k:IntKind} {i:Int} (h0:0<=i) (h1:i<(xs.length:Int)) (w:World) :
  ∃ v,(Instr.indexAt T y (.int k i)).run P w=.ok v w/\Ap σ (.iptr τ (xs.getD i.toNat τ.dflt) 0) v:=by
 obtain ⟨A,c,hy,hc,hl,hne⟩:=hd
 cases hy
 have hlt:i.toNat<xs.length:=by omega
 obtain ⟨r,q,vs,T',fz,rfl,g1,g2,g3⟩:=hne (fun e=>by subst e; simp at hlt)
 exact ⟨_,cX hT eτ h0 h1 w,rV g1 g2 g3 hlt⟩
theorem aES (ho:Ok base S0 σ) (hr:RelT σ s a) (hx:A5 a ctx) (hG:gY C σ.w σ.S) {T:TypeId} {y z:Operand} (hop:o.op=.indexAddr T y z) (h:Aq C s ctx o=some (.ok true x mem')):Bj C base S0 id σ a o x mem':=by
 unfold Aq at h
 rw [hop] at h
 simp only at h
 have hex:∀ {v:Value},(Instr.indexAt T (a.eval y) (a.eval z)).run C.P σ.w=.ok v σ.w->(execOp a.eval o).run C.P σ.w=.ok (.value v) σ.w:=fun hv=>by
  simp only [execOp,hop]; exact BF hv
 split at h
 ·rename_i n e g i hT ec ei
  obtain ⟨k,hi,_⟩:=MV hr hx ei
  have hc:a.eval y=.pointer (some ⟨g,0,none⟩):=Ba hr hx ec
  split at h
  ·rename_i τ xs τ' eg eτ
   split at h
   ·rename_i hττ
    subst hττ
    cases hb:Nat.beq xs.length n with
    | false=>rw [hb] at h; cases h
    | true =>
     rw [hb] at h
     simp only [cond_true,Option.some.injEq,Res.ok.injEq,aIK,Bool.and_eq_true,decide_eq_true_eq] at h
     obtain ⟨⟨g1,g2⟩,rfl,rfl⟩:=h
     have hn:xs.length=n:=Nat.eq_of_beq_eq_true hb
     obtain ⟨hS,vs,T',fz,hh,hrow⟩:=hG g _ _ eg
     refine AO (σ':=σ) (hex (by rw [hc,hi]; exact rL hT eτ g1 g2 σ.w)) ho (Goes.refl σ).moves hr.mem ?_
     exact rV (q:=0) hS hh hrow (by omega)
   ·cases h
  ·cases h
 ·rename_i n e b i hT ec ei
  obtain ⟨k,hi,_⟩:=MV hr hx ei
  have hc:=Ba hr hx ec
  split at h
  ·rename_i τ xs τ' eb eτ
   split at h
   ·rename_i hττ
    subst hττ
    simp only [Option.some.injEq,Res.ok.injEq,Bool.and_eq_true,decide_eq_true_eq] at h
    obtain ⟨⟨⟨g1,g2⟩,g3⟩,rfl,rfl⟩:=h
    rw [← hr.mem] at eb
    obtain ⟨hlt,_,hm⟩:=hc
    rw [eb] at hm
    obtain ⟨r,hβ,hy⟩:=hm
    refine AO (σ':=σ) (hex (by rw [hy,hi]; exact rL hT eτ g1 g2 σ.w)) ho (Goes.refl σ).moves hr.mem ?_
    refine ⟨hlt,trivial,?_⟩
    rw [eb]
    exact ⟨by omega,r,hβ,by simp⟩
   ·cases h
  ·cases h
 ·rename_i e c i hT ec ei
  obtain ⟨k,hi,_⟩:=MV hr hx ei
  have hc:=Ba hr hx ec
  split at h
  ·rename_i τ eτ
   split at h
   ·rename_i b
    split at h
    ·rename_i τ' xs eb
     split at h
     ·rename_i hττ
      subst hττ
      simp only [Option.some.injEq,Res.ok.injEq,Bool.and_eq_true,decide_eq_true_eq] at h
      obtain ⟨⟨g1,g2⟩,rfl,rfl⟩:=h
      rw [← hr.mem] at eb
      obtain ⟨hlt,_,hm⟩:=hc
      rw [eb] at hm
      obtain ⟨r,hβ⟩:=aH (ho.ent b) eb (by omega)
      simp only [hβ,Option.map_some] at hm
      have hy:=hm
      refine AO (σ':=σ) (hex (by rw [hy,hi]; exact cX hT eτ g1 g2 σ.w)) ho (Goes.refl σ).moves hr.mem ?_
      refine ⟨hlt,trivial,?_⟩
      rw [eb]
      exact ⟨by omega,r,hβ,by simp⟩
     ·cases h
    ·rename_i τ' xs eb
     split at h
     ·rename_i hττ
      subst hττ
      simp only [Option.some.injEq,Res.ok.injEq,Bool.and_eq_true,decide_eq_true_eq] at h
      obtain ⟨⟨g1,g2⟩,rfl,rfl⟩:=h
      rw [← hr.mem] at eb
      obtain ⟨σ1,a1,a2,a3,a4,a5⟩:=We ho (.inr eb)
      have hc1:=a5.repC hc
      obtain ⟨_,_,hm⟩:=hc1
      rw [a1,BB (C1 (by rw [eb]; simp)),if_pos rfl] at hm
      obtain ⟨v,h1,h2⟩:=dD hT eτ hm (k:=k) g1 g2 σ.w
      refine AO (σ':=σ1) (v:=v) (by rw [a2]; exact hex (by rw [hi]; exact h1)) a4 a5.moves (by rw [a1,hr.mem]) h2
     ·cases h
    ·rename_i τ' xs eb
     split at h
     ·rename_i hττ
      subst hττ
      simp only [Option.some.injEq,Res.ok.injEq,Bool.and_eq_true,decide_eq_true_eq] at h
      obtain ⟨⟨g1,g2⟩,rfl,rfl⟩:=h
      rw [← hr.mem] at eb
      obtain ⟨_,_,hm⟩:=hc
      rw [eb] at hm
      obtain ⟨v,h1,h2⟩:=dD hT eτ hm (k:=k) g1 g2 σ.w
      exact AO (σ':=σ) (v:=v) (hex (by rw [hi]; exact h1)) ho (Goes.refl σ).moves hr.mem h2
     ·cases h
    ·cases h
   ·rename_i τ' xs
    split at h
    ·rename_i hττ
     subst hττ
     simp only [Option.some.injEq,Res.ok.injEq,Bool.and_eq_true,decide_eq_true_eq] at h
     obtain ⟨⟨g1,g2⟩,rfl,rfl⟩:=h
     obtain ⟨v,h1,h2⟩:=dD hT eτ hc (k:=k) g1 g2 σ.w
     exact AO (σ':=σ) (v:=v) (hex (by rw [hi]; exact h1)) ho (Goes.refl σ).moves hr.mem h2
    ·cases h
   ·rename_i b lo n
    split at h
    ·rename_i τ' xs eb
     split at h
     ·rename_i hττ
      subst hττ
      simp only [Option.some.injEq,Res.ok.injEq,Bool.and_eq_true,decide_eq_true_eq] at h
      obtain ⟨⟨g1,g2⟩,rfl,rfl⟩:=h
      rw [← hr.mem] at eb
      obtain ⟨hlt,_,hm⟩:=hc
      rw [eb] at hm
      obtain ⟨q1,A,cc,hy,q2,q3,q4⟩:=hm
      obtain ⟨r,hβ,rfl⟩:=q4 (by omega)
      refine AO (σ':=σ) (hex (by rw [hy,hi]; exact cX hT eτ g1 g2 σ.w)) ho (Goes.refl σ).moves hr.mem ?_
      refine ⟨hlt,trivial,?_⟩
      rw [eb]
      exact ⟨by omega,r,hβ,by rw [Nat.add_mul]; simp⟩
     ·cases h
    ·cases h
   ·cases h
  ·cases h
 ·cases h
theorem sZ {τ:Shape} {d:Aa τ} {z:Array Value} (hd:AI σ.w σ.S τ d z.toList) (_hw:0<z.size) (n:Nat):Rows σ.w σ.S τ (madeCells z (n*z.size)) 0 (List.replicate n d):=by
 have hl:=hd.len
 simp at hl
 intro i x hi
 rw [List.getElem?_replicate] at hi
 split at hi
 ·rename_i hin
  cases hi
  refine ⟨z.toList,hd,fun j v hj=>?_⟩
  have hjl:j<z.size:=by simpa using (List.getElem?_eq_some_iff.1 hj).1
  rw [← hl,Nat.zero_add]
  refine sY ?_ ?_
  ·have:=Nat.mul_le_mul_right z.size (show i+1<=n by omega)
   rw [Nat.succ_mul] at this
   omega
  ·rw [Nat.add_comm,Nat.add_mul_mod_self_right,Nat.mod_eq_of_lt hjl]
   simpa using hj
 ·cases hi
theorem aII {a:Act} {l c:Operand} (h:Xh l c=true) {n m:Int} {kn km:IntKind} (hn:a.eval l=.int kn n) (hm:a.eval c=.int km m):kn=km/\n=m:=by
 unfold Xh at h
 split at h
 ·rename_i t t'
  have:=Nat.eq_of_beq_eq_true h
  subst this
  rw [hn] at hm; cases hm; exact ⟨rfl,rfl⟩
 ·simp only [Bool.and_eq_true,decide_eq_true_eq] at h
  obtain ⟨rfl,rfl⟩:=h
  have h1:=hn.symm.trans hm
  cases h1
  exact ⟨rfl,rfl⟩
 ·cases h
theorem aEZ (ho:Ok base S0 σ) (hr:RelT σ s a) (hx:A5 a ctx) {T:TypeId} {l c:Operand} (hop:o.op=.makeSlice T l c) (h:Aq C s ctx o=some (.ok true x mem')):Bj C base S0 id σ a o x mem':=by
 unfold Aq at h
 rw [hop] at h
 simp only at h
 split at h
 ·rename_i e n m hT en em
  obtain ⟨kn,hn,_⟩:=MV hr hx en
  obtain ⟨km,hm,_⟩:=MV hr hx em
  split at h
  ·rename_i τ z eτ hz
   split at h
   ·rename_i d ep
    obtain ⟨ie,zv,hi,hzv,hzr⟩:=gV hz
    obtain ⟨y1,y2,hyy,p1,p2⟩:=JN (hzr σ).cells ep
    cases p2
    rw [List.append_nil] at hyy
    rw [← hyy] at p1
    have hw:=HK eτ
    have hzl:=p1.len
    have hsz:ie.size=C.P.cellsOf e:=by simp [Program.cellsOf,hi]
    have hby:(ie.bytes:Int)=(C.P.bytesOf e:Int):=by simp [Program.bytesOf,hi]
    cases hb0:(Xh l c&&Nat.blt 0 (C.P.cellsOf e)&&Nat.blt 0 (C.P.bytesOf e)) with
    | true =>
     rw [hb0] at h
     simp only [Bool.and_eq_true] at hb0
     simp only [cond_true,Option.some.injEq,Res.ok.injEq,Bool.and_eq_true,decide_eq_true_eq] at h
     obtain ⟨⟨g1,g2⟩,rfl,rfl⟩:=h
     have hnm:kn=km/\n=m:=aII hb0.1.1 hn hm
     obtain ⟨rfl,rfl⟩:=hnm
     have hpos:0<C.P.cellsOf e:=by simpa using hb0.1.2
     have hbpos:0<C.P.bytesOf e:=by simpa using hb0.2
     have hnle:n<=D3:=by
      refine Int.le_trans ?_ g2
      have:=Int.mul_le_mul_of_nonneg_left (a:=1) (b:=(C.P.bytesOf e:Int)) (c:=n) (by omega) g1
      omega
     have hrun:=run_make (P:=C.P) σ.w T e ie zv hT hi hzv kn kn n n g1 (Int.le_refl _) (by rw [hby,Int.mul_comm]; unfold D3 at g2; omega) (by unfold D3 at hnle; omega)
     have hzs:zv.cells.size=C.P.cellsOf e:=by simpa [hw] using hzl
     obtain ⟨k1,k2,k3,k4,k5⟩:=aG ho (T:=e) (τ:=τ) (xs:=List.replicate n.toNat d) (vs:=madeCells zv.cells (n.toNat*ie.size)) (k:=n.toNat) (by simp) (by unfold Br; unfold D3 at hnle; omega) (by rw [size_madeCells,hsz,hw])
      (by rw [hsz,← hzs]; exact sZ p1 (by omega) n.toNat)
     refine AO (σ':=σ.push (.arr τ (List.replicate n.toNat d)) (.cells (madeCells zv.cells (n.toNat*ie.size)) e) n.toNat) ?_ k1 k2.moves (by simp [Sit.push,hr.mem]) ?_ (v:=.slice (some ⟨σ.w.heap.size,0,none⟩) n.toNat n.toNat)
     ·simp only [execOp,hop,hn,hm]; exact BF hrun
     ·rw [← hr.mem]
      refine ⟨by simp [Sit.push],trivial,?_⟩
      rw [k3]
      simp only [k4,k5,Option.map_some,List.length_replicate]
    | false =>
     rw [hb0] at h
     simp only [cond_false] at h
     cases hb:(Nat.blt 0 (C.P.cellsOf e)&&Nat.blt 0 (C.P.bytesOf e)) with
     | false=>rw [hb] at h; cases h
     | true =>
      rw [hb] at h
      simp only [Bool.and_eq_true] at hb
      simp only [cond_true,Option.some.injEq,Res.ok.injEq,Bool.and_eq_true,decide_eq_true_eq] at h
      obtain ⟨⟨⟨g0,g1⟩,g2⟩,rfl,rfl⟩:=h
      have hpos:0<C.P.cellsOf e:=by simpa using hb.1
      have hbpos:0<C.P.bytesOf e:=by simpa using hb.2
      have hnle:m<=D3:=by
       refine Int.le_trans ?_ g2
       have:=Int.mul_le_mul_of_nonneg_left (a:=1) (b:=(C.P.bytesOf e:Int)) (c:=m) (by omega) (Int.le_trans g0 g1)
       omega
      have hrun:=run_make (P:=C.P) σ.w T e ie zv hT hi hzv kn km n m g0 g1 (by rw [hby,Int.mul_comm]; unfold D3 at g2; omega) (by unfold D3 at hnle; omega)
      have hzs:zv.cells.size=C.P.cellsOf e:=by simpa [hw] using hzl
      have hg:=W7 ho (.acc τ (List.replicate n.toNat d)) (.cells (madeCells zv.cells (m.toNat*ie.size)) e) m.toNat
      have hblk:Ad (σ.push (.acc τ (List.replicate n.toNat d)) (.cells (madeCells zv.cells (m.toNat*ie.size)) e) m.toNat).mem σ.mem.length=.acc τ (List.replicate n.toNat d):=Jp
      have hrows:Rows σ.w σ.S τ (madeCells zv.cells (m.toNat*ie.size)) 0 (List.replicate n.toNat d):=by
       have:=sZ p1 (by omega) m.toNat
       rw [hsz,← hzs]
       intro i x hi
       refine this i x ?_
       rw [List.getElem?_replicate] at hi ⊢
       split at hi
       ·rw [if_pos (by omega)]; exact hi
       ·cases hi
      have hok:Ok base S0 (σ.push (.acc τ (List.replicate n.toNat d)) (.cells (madeCells zv.cells (m.toNat*ie.size)) e) m.toNat):=by
       refine fG ho _ _ _ ?_
       unfold AD
       rw [hblk]
       refine ⟨by simp [Sit.push,AB]; omega,by simp [Sit.push,AB]; unfold Br; unfold D3 at hnle; omega,.inr ⟨σ.w.heap.size,_,e,by simp [Sit.push,AB],P2,?_,hrows.mono hg.stab hg.heap⟩⟩
       rw [size_madeCells,hsz,hw]
       simp [Sit.push,AB]
      refine AO (σ':=σ.push (.acc τ (List.replicate n.toNat d)) (.cells (madeCells zv.cells (m.toNat*ie.size)) e) m.toNat) ?_ hok hg.moves (by simp [Sit.push,hr.mem]) ?_ (v:=.slice (some ⟨σ.w.heap.size,0,none⟩) n.toNat m.toNat)
      ·simp only [execOp,hop,hm,hn]; exact BF hrun
      ·rw [← hr.mem]
       refine ⟨by simp [Sit.push],trivial,?_⟩
       rw [hblk]
       simp [Sit.push,AB]
   ·cases h
  ·cases h
 ·cases h
theorem aEN (ho:Ok base S0 σ) (hr:RelT σ s a) (hx:A5 a ctx) {y:Operand} {i:Nat} (hop:o.op=.extract y i) (h:Aq C s ctx o=some (.ok true x mem')):Bj C base S0 id σ a o x mem':=by
 unfold Aq at h
 rw [hop] at h
 simp only at h
 split at h
 ·rename_i l e
  split at h
  ·rename_i v ev
   simp only [Option.some.injEq,Res.ok.injEq,true_and] at h
   obtain ⟨rfl,rfl⟩:=h
   obtain ⟨_,ys,hy,ha⟩:=S4 hr hx e
   obtain ⟨u,hu,hR⟩:=ha.get ev
   refine AO (σ':=σ) (v:=u) ?_ ho (Goes.refl σ).moves hr.mem hR
   simp only [execOp,hop,hy]
   refine BF ?_
   simp [Instr.extract,hu]
  ·cases h
 ·cases h
theorem aER (ho:Ok base S0 σ) (hr:RelT σ s a) (hx:A5 a ctx) {T:TypeId} {y z:Operand} (hop:o.op=.index T y z) (h:Aq C s ctx o=some (.ok true x mem')):Bj C base S0 id σ a o x mem':=by
 unfold Aq at h
 rw [hop] at h
 simp only at h
 split at h
 ·rename_i str i hT ec ei
  obtain ⟨k,hi,_⟩:=MV hr hx ei
  obtain ⟨hy,_⟩:=Ba hr hx ec
  simp only [Option.some.injEq,Res.ok.injEq,Bool.and_eq_true,decide_eq_true_eq] at h
  obtain ⟨⟨g1,g2⟩,rfl,rfl⟩:=h
  have hlt:i.toNat<str.size:=by omega
  have hb:str.data.toList.getD i.toNat 0=str[i.toNat]:=by
   rw [List.getD_eq_getElem?_getD,List.getElem?_eq_getElem (by simpa using hlt)]
   rfl
  refine AO (σ':=σ) (v:=.int .u8 ((str.data.toList.getD i.toNat 0).toNat:Int)) ?_ ho (Goes.refl σ).moves hr.mem ⟨rfl,?_⟩
  ·simp only [execOp,hop,hy,hi]
   refine BF ?_
   unfold Instr.index
   simp only [Sem.run_bind,asIntOf,Sem.run_pure,Result.andThen_ok,Cf hT]
   rw [if_pos g1,getElem?_pos str i.toNat hlt]
   rw [hb]
   rfl
  ·generalize str.data.toList.getD i.toNat 0=u
   have:=u.toNat_lt
   simp only [QC,IntKind.min,IntKind.max,IntKind.signed,IntKind.bits]
   simp
   omega
 ·cases h
theorem aEO (ho:Ok base S0 σ) (hr:RelT σ s a) (hx:A5 a ctx) {T:TypeId} {y:Operand} {i:Nat} (hop:o.op=.field T y i) (h:Aq C s ctx o=some (.ok true x mem')):Bj C base S0 id σ a o x mem':=by
 unfold Aq at h
 rw [hop] at h
 simp only at h
 split at h
 ·rename_i cs d ft ec ef
  obtain ⟨ys,hy,ha⟩:=Fz hr hx ec
  have hfd:∃ fs f,C.P.underlying T=some (.struct fs)/\fs[i]? = some f/\f.offset=d/\f.type=ft:=by
   unfold S6 at ef
   split at ef
   ·rename_i fs e
    split at ef
    ·rename_i f eff
     cases hb:Nat.beq (C.P.cellsOf f.type) 0 with
     | true=>rw [hb] at ef; cases ef
     | false=>rw [hb] at ef; cases ef; exact ⟨fs,f,e,by simpa using eff,rfl,rfl⟩
    ·cases ef
   ·cases ef
  obtain ⟨fs,f,hu,hf,rfl,rfl⟩:=hfd
  have hex:∀ {v:Value},(part f.type ys.toArray f.offset).run C.P σ.w=.ok v σ.w->(execOp a.eval o).run C.P σ.w=.ok (.value v) σ.w:=fun hv=>by
   simp only [execOp,hop,hy]
   refine BF ?_
   unfold Instr.field
   simp [Cf hu,hf,asAgg,hv]
  split at h
  ·rename_i hT
   split at h
   ·rename_i l et
    simp only [Option.some.injEq,Res.ok.injEq,true_and] at h
    obtain ⟨rfl,rfl⟩:=h
    obtain ⟨v,h1,h2⟩:=eJ ha hT et σ.w
    exact AO (σ':=σ) (v:=v) (hex h1) ho (Goes.refl σ).moves hr.mem h2
   ·cases h
  ·rename_i hT
   split at h
   ·rename_i c l et
    simp only [Option.some.injEq,Res.ok.injEq,true_and] at h
    obtain ⟨rfl,rfl⟩:=h
    obtain ⟨v,h1,h2⟩:=eK ha hT et σ.w
    exact AO (σ':=σ) (v:=v) (hex h1) ho (Goes.refl σ).moves hr.mem h2
   ·cases h
  ·cases h
 ·cases h
end Vx
namespace Vx
open Go Go.RowKit
variable {C:Cfg} {base:Base} {S0:Nat->Prop} {σ:Sit} {s:St} {a:Act} {ctx:List (Nat×Bool)} {o:Oper} {x:TV} {mem':Ae}
theorem M6 {P:Program} {c:Call} {b:Builtin} (hop:o.op=.call c) (hc:c.callee=.builtin b) (w:World) :
  ∃ cs:Array Bool,(execOp a.eval o).run P w=(builtin b c.argTypes o.type cs (c.args.map a.eval)).run P w:=by
 simp only [execOp,hop,resolve,hc]
 simp only [Sem.run_bind,Sem.run_pure,Result.andThen_ok,invoke]
 exact ⟨_,rfl⟩
theorem ME {c:Call} {l:List Operand} (h:c.args.toList=l):c.args.map a.eval=(l.map a.eval).toArray:=by
 apply Array.toList_inj.1; simp [h]
theorem QB {c:Call} {l:List TypeId} (h:c.argTypes.toList=l):c.argTypes=l.toArray:=by
 apply Array.toList_inj.1; simp [h]
theorem MW {n:Nat} (h:n<Br):QC (.int .i64 (n:Int)):=by
 simp only [QC,IntKind.min,IntKind.max,IntKind.signed,IntKind.bits]
 unfold Br at h
 simp
 omega
theorem aEU (ho:Ok base S0 σ) (hr:RelT σ s a) (hx:A5 a ctx) {c:Call} (hop:o.op=.call c) (hc:c.callee=.builtin .len) (h:Aq C s ctx o=some (.ok true x mem')):Bj C base S0 id σ a o x mem':=by
 unfold Aq at h
 rw [hop] at h
 simp only [hc] at h
 have hex:∀ {y:Operand} {T:TypeId} {v:Value},c.args.toList=[y]->c.argTypes.toList=[T]->(Builtin.len_ #[T] o.type #[a.eval y]).run C.P σ.w=.ok v σ.w->(execOp a.eval o).run C.P σ.w=.ok (.value v) σ.w :=
  fun h1 h2 hv=>by
   obtain ⟨cs,hcs⟩:=M6 (a:=a) (P:=C.P) hop hc σ.w
   rw [hcs,ME h1,QB h2]
   simp only [builtin]
   exact BF hv
 split at h
 ·rename_i y T e1 e2
  split at h
  ·rename_i n e hT
   cases hb:Nat.blt n 9223372036854775808 with
   | false=>rw [hb] at h; cases h
   | true =>
    rw [hb] at h
    simp only [cond_true,Option.some.injEq,Res.ok.injEq,true_and] at h
    obtain ⟨rfl,rfl⟩:=h
    refine AO (σ':=σ) (v:=.int .i64 (n:Int)) (hex e1 e2 ?_) ho (Goes.refl σ).moves hr.mem ⟨rfl,MW (by simpa [Br] using hb)⟩
    unfold Builtin.len_
    simp [Cf hT,goInt]
  ·rename_i e hT
   split at h
   ·rename_i q eq
    split at h
    ·cases h
    ·rename_i b lo n
     split at h
     ·rename_i τ' xs eb
      simp only [Option.some.injEq,Res.ok.injEq,true_and] at h
      obtain ⟨rfl,rfl⟩:=h
      have hq:=Ba hr hx eq
      rw [← hr.mem] at eb
      obtain ⟨_,_,hm⟩:=hq
      rw [eb] at hm
      obtain ⟨q1,A,cc,hy,q2,q3,q4⟩:=hm
      refine AO (σ':=σ) (v:=.int .i64 (n:Int)) (hex e1 e2 ?_) ho (Goes.refl σ).moves hr.mem ⟨rfl,MW (by omega)⟩
      rw [hy]
      unfold Builtin.len_
      simp [Cf hT,goInt]
     ·cases h
    ·rename_i hns hns2
     split at h
     ·rename_i n en
      simp only [Option.some.injEq,Res.ok.injEq,true_and] at h
      obtain ⟨rfl,rfl⟩:=h
      have hq:=Ba hr hx eq
      rw [← hr.mem] at en
      obtain ⟨A,k,hy⟩:=aDZ hq (fun str e=>hns str e) en
      refine AO (σ':=σ) (v:=.int .i64 (n:Int)) (hex e1 e2 ?_) ho (Goes.refl σ).moves hr.mem ⟨rfl,MW (aDY ho hq en)⟩
      rw [hy]
      unfold Builtin.len_
      simp [Cf hT,goInt]
     ·cases h
   ·cases h
  ·rename_i hT
   split at h
   ·rename_i str es
    simp only [Option.some.injEq,Res.ok.injEq,true_and] at h
    obtain ⟨rfl,rfl⟩:=h
    obtain ⟨hy,hl⟩:=Ba hr hx es
    refine AO (σ':=σ) (v:=.int .i64 (str.size:Int)) (hex e1 e2 ?_) ho (Goes.refl σ).moves hr.mem ⟨rfl,MW hl⟩
    rw [hy]
    unfold Builtin.len_
    simp [Cf hT,goInt]
   ·cases h
  ·cases h
 ·cases h
theorem aE1 (ho:Ok base S0 σ) (hr:RelT σ s a) (hx:A5 a ctx) {c:Call} (hop:o.op=.call c) (hc:c.callee=.builtin .min) (h:Aq C s ctx o=some (.ok true x mem')):Bj C base S0 id σ a o x mem':=by
 unfold Aq at h
 rw [hop] at h
 simp only [hc] at h
 split at h
 ·rename_i y z e1
  split at h
  ·rename_i k p k' q ep eq
   split at h
   ·rename_i hk
    subst hk
    simp only [Option.some.injEq,Res.ok.injEq,true_and] at h
    obtain ⟨rfl,rfl⟩:=h
    obtain ⟨hp,wp⟩:=Ba hr hx ep
    obtain ⟨hq,wq⟩:=Ba hr hx eq
    refine AO (σ':=σ) (v:=.int k' (if q<p then q else p)) ?_ ho (Goes.refl σ).moves hr.mem ⟨rfl,?_⟩
    ·obtain ⟨cs,hcs⟩:=M6 (a:=a) (P:=C.P) hop hc σ.w
     rw [hcs,ME e1]
     simp only [builtin]
     refine BF ?_
     simp only [Builtin.min_,List.map_cons,List.map_nil,hp,hq]
     simp [Builtin.min2]
    ·split
     ·exact wq
     ·exact wp
   ·cases h
  ·cases h
 ·cases h
theorem aE0 (ho:Ok base S0 σ) (hr:RelT σ s a) (hx:A5 a ctx) {c:Call} (hop:o.op=.call c) (hc:c.callee=.builtin .max) (h:Aq C s ctx o=some (.ok true x mem')):Bj C base S0 id σ a o x mem':=by
 unfold Aq at h
 rw [hop] at h
 simp only [hc] at h
 split at h
 ·rename_i y z e1
  split at h
  ·rename_i k p k' q ep eq
   split at h
   ·rename_i hk
    subst hk
    simp only [Option.some.injEq,Res.ok.injEq,true_and] at h
    obtain ⟨rfl,rfl⟩:=h
    obtain ⟨hp,wp⟩:=Ba hr hx ep
    obtain ⟨hq,wq⟩:=Ba hr hx eq
    refine AO (σ':=σ) (v:=.int k' (if q>p then q else p)) ?_ ho (Goes.refl σ).moves hr.mem ⟨rfl,?_⟩
    ·obtain ⟨cs,hcs⟩:=M6 (a:=a) (P:=C.P) hop hc σ.w
     rw [hcs,ME e1]
     simp only [builtin]
     refine BF ?_
     simp only [Builtin.max_,List.map_cons,List.map_nil,hp,hq]
     simp [Builtin.max2]
    ·split
     ·exact wq
     ·exact wp
   ·cases h
  ·cases h
 ·cases h
theorem uZ:∀ {l:List SV} {ys:List Value} {cl:List (Nat×Nat)},All2 (AS σ) l ys->Dt σ.mem l=some cl ->
  (∀ p∈cl,p.1<σ.mem.length)/\∃ rs:List Nat,cl.map (fun p=>σ.E.β p.1)=rs.map some/\ys=(cl.zip rs).map fun q=>Value.pointer (some ⟨q.2,q.1.2,none⟩)
 | [],_,cl,.nil,h=>by simp [Dt] at h; subst h; exact ⟨by simp,[],rfl,rfl⟩
 | .one (.ptr b off)::r,_,cl,.cons hc ht,h=>by
  simp only [Dt] at h
  split at h
  ·rename_i cs l e1 e2
   cases h
   obtain ⟨g1,rs,g2,g3⟩:=uZ ht e2
   obtain ⟨q,hq,hy⟩:=Ap.ptr_raw hc e1
   refine ⟨?_,q::rs,?_,?_⟩
   ·intro p hp
    rcases List.mem_cons.1 hp with rfl | hp
    ·exact hc.1
    ·exact g1 p hp
   ·simp [hq,g2]
   ·simp [hy,g3]
  ·cases h
 | .one .undef::_,_,_,_,h=>by simp [Dt] at h
 | .one (.v _)::_,_,_,_,h=>by simp [Dt] at h
 | .one (.fl _ _)::_,_,_,_,h=>by simp [Dt] at h
 | .one (.sl _ _)::_,_,_,_,h=>by simp [Dt] at h
 | .one (.own _)::_,_,_,_,h=>by simp [Dt] at h
 | .one (.eptr _ _ _)::_,_,_,_,h=>by simp [Dt] at h
 | .one (.iptr _ _ _)::_,_,_,_,h=>by simp [Dt] at h
 | .one (.sub _ _ _)::_,_,_,_,h=>by simp [Dt] at h
 | .one (.gptr _)::_,_,_,_,h=>by simp [Dt] at h
 | .one (.fnv _)::_,_,_,_,h=>by simp [Dt] at h
 | .one (.ifv _)::_,_,_,_,h=>by simp [Dt] at h
 | .one (.fn _ _)::_,_,_,_,h=>by simp [Dt] at h
 | .agg _::_,_,_,_,h=>by simp [Dt] at h
theorem aEX (ho:Ok base S0 σ) (hr:RelT σ s a) (hx:A5 a ctx) {fn:Fn} {first captured:Array Operand} (hop:o.op=.makeFunc fn first captured) (h:Aq C s ctx o=some (.ok true x mem')):Bj C base S0 id σ a o x mem':=by
 unfold Aq at h
 rw [hop] at h
 simp only at h
 split at h
 ·rename_i f hf
  split at h
  ·rename_i vs ev
   split at h
   ·rename_i cl ecl
    simp only [Option.some.injEq,Res.ok.injEq,true_and] at h
    obtain ⟨rfl,rfl⟩:=h
    rw [← hr.mem] at ecl
    obtain ⟨g1,rs,g2,g3⟩:=uZ (NL hr hx ev) ecl
    have e1:first.map a.eval=#[]:=by apply Array.toList_inj.1; simp [hf]
    have e2:captured.map a.eval=((cl.zip rs).map fun q=>Value.pointer (some ⟨q.2,q.1.2,none⟩)).toArray:=by
     apply Array.toList_inj.1; simpa using g3
    refine AO (σ':=σ) (v:=.func (.func f) #[] ((cl.zip rs).map fun q=>Value.pointer (some ⟨q.2,q.1.2,none⟩)).toArray) ?_ ho (Goes.refl σ).moves hr.mem ⟨g1,trivial,.inr ⟨rs,g2,rfl⟩⟩
    simp only [execOp,hop,e1,e2]
    exact BF rfl
   ·cases h
  ·cases h
 ·cases h
end Vx
namespace Vx
open Go Go.RowKit
variable {C:Cfg} {base:Base} {S0:Nat->Prop} {σ:Sit} {s:St} {a:Act} {ctx:List (Nat×Bool)} {o:Oper} {x:TV} {mem':Ae}
theorem fH:∀ (L:List Value) (vs:Array Value) (p q:Nat),p+L.length<=vs.size->(Cd vs p L)[q]? = if p<=q/\q<p+L.length then L[q-p]? else vs[q]?:=by
 intro L vs p q h
 rw [← Array.getElem?_toList,Qq L vs p h,List.append_assoc]
 split
 ·rename_i hq
  rw [List.getElem?_append_right (by simp; omega)]
  have:(List.take p vs.toList).length=p:=by simp; omega
  rw [this,List.getElem?_append_left (by omega)]
 ·rename_i hq
  rcases Nat.lt_or_ge q p with hlt | hge
  ·rw [List.getElem?_append_left (by simp; omega),List.getElem?_take_of_lt hlt]; simp
  ·rw [List.getElem?_append_right (by simp; omega)]
   have:(List.take p vs.toList).length=p:=by simp; omega
   rw [this,List.getElem?_append_right (by omega),List.getElem?_drop]
   rw [show p+L.length+(q-p-L.length)=q by omega]; simp
def Oo (w:World) (S:Nat->Prop) (e:Shape) (L:List Value) (xs:List (Aa e)):Prop :=
 ∀ i x,xs[i]? = some x->∃ ds,AI w S e x ds/\∀ j d,ds[j]? = some d->L[i*e.width+j]? = some d
theorem M4 {i k w j:Nat} (h:i<k) (hj:j<w):i*w+j<k*w:=by
 have:=Nat.mul_le_mul_right w (show i+1<=k by omega)
 rw [Nat.succ_mul] at this
 omega
theorem pU {P:Program} {w:World} {S:Nat->Prop} {e:Shape} {ys:List (Aa e)} {A:Option Addr} {m c:Nat} (hne:ys≠[]->∃ r q vs T fz,A=some ⟨r,q,none⟩/\w.heap[r]? = some (.cells vs T fz)/\Rows w S e vs q ys) {n:Nat} (hn:n<=ys.length) :
  ∃ L:List Value,(Builtin.firstCells e.width n (.slice A m c)).run P w=.ok L.toArray w/\L.length=n*e.width/\Oo w S e L (ys.take n)/\(∀ v∈L,scalar v):=by
 rcases Nat.eq_zero_or_pos n with h0 | hpos
 ·subst h0
  refine ⟨[],?_,by simp,fun i x hi=>by simp at hi,by simp⟩
  cases A with
  | none=>simp [Builtin.firstCells]
  | some ad=>simp [Builtin.firstCells,loadCells,loadCellsFrom]
 ·have hys:ys≠[]:=by intro e; subst e; simp at hn; omega
  obtain ⟨r,q,vs,T,fz,rfl,hh,hrow⟩:=hne hys
  have hsz:q+n*e.width<=vs.size∨e.width=0:=by
   rcases Nat.eq_zero_or_pos e.width with hw | hw
   ·exact .inr hw
   ·left
    obtain ⟨ds,d1,d2⟩:=hrow (n-1) (ys.getD (n-1) e.dflt) (getD_some (by omega))
    have hdl:=d1.len
    obtain ⟨v,hv⟩:∃ v,ds[e.width-1]? = some v:=⟨ds[e.width-1]'(by omega),List.getElem?_eq_getElem (by omega)⟩
    have:=(Array.getElem?_eq_some_iff.1 (d2 _ _ hv)).1
    have h1:(n-1)*e.width+e.width=n*e.width:=by
     rw [← Nat.succ_mul]; congr 1; omega
    omega
  have hfirst:(ys.take n).length=n:=by simp; omega
  rcases hsz with hsz | hw0
  ·refine ⟨(vs.toList.drop q).take (n*e.width),by simp [Builtin.firstCells,aIe hh hsz],by simp; omega,fun i x hi=>?_,?_⟩
   ·have hin:=(List.getElem?_eq_some_iff.1 hi).1
    rw [hfirst] at hin
    rw [List.getElem?_take_of_lt hin] at hi
    obtain ⟨ds,d1,d2⟩:=hrow i x hi
    refine ⟨ds,d1,fun j d hj=>?_⟩
    have hjl:=(List.getElem?_eq_some_iff.1 hj).1
    rw [d1.len] at hjl
    rw [List.getElem?_take_of_lt (M4 hin hjl),List.getElem?_drop]
    have:=d2 j d hj
    rw [← Nat.add_assoc]
    simpa using this
   ·intro v hv
    obtain ⟨k,hk⟩:=List.mem_iff_getElem?.1 hv
    have hkl:=(List.getElem?_eq_some_iff.1 hk).1
    have hkn:k<n*e.width:=by simp at hkl; omega
    rw [List.getElem?_take_of_lt hkn,List.getElem?_drop] at hk
    have hw:0<e.width:=by
     rcases Nat.eq_zero_or_pos e.width with h | h
     ·rw [h] at hkn; simp at hkn
     ·exact h
    have hi:k/e.width<ys.length:=Nat.lt_of_lt_of_le ((Nat.div_lt_iff_lt_mul hw).2 hkn) hn
    obtain ⟨ds,d1,d2⟩:=hrow (k/e.width) _ (getD_some (d:=e.dflt) hi)
    have hdl:=d1.len
    have hjl:k%e.width<ds.length:=by rw [hdl]; exact Nat.mod_lt _ hw
    have h2:=d2 (k%e.width) _ (List.getElem?_eq_getElem hjl)
    have h3:q+k/e.width*e.width+k%e.width=q+k:=by
     have:=Nat.div_add_mod k e.width
     rw [Nat.mul_comm] at this
     omega
    rw [h3] at h2
    have h4:vs.toList[q+k]? = some ds[k%e.width]:=by simpa using h2
    rw [hk] at h4
    cases h4
    exact d1.scalar _ (List.getElem_mem _)
  ·refine ⟨[],by rw [hw0]; simp [Builtin.firstCells,loadCells,loadCellsFrom],by rw [hw0]; simp,fun i x hi=>?_,by simp⟩
   have hin:=(List.getElem?_eq_some_iff.1 hi).1
   rw [hfirst] at hin
   rw [List.getElem?_take_of_lt hin] at hi
   obtain ⟨ds,d1,d2⟩:=hrow i x hi
   refine ⟨ds,d1,fun j d hj=>?_⟩
   have hjl:=(List.getElem?_eq_some_iff.1 hj).1
   rw [d1.len,hw0] at hjl
   omega
theorem S8 {P:Program} {e:Shape} {ys:List (Aa e)} {y:Value} (hd:AI σ.w σ.S (.slice e) ys [y]) {n:Nat} (hn:n<=ys.length) :
  ∃ L:List Value,(Builtin.firstCells e.width n y).run P σ.w=.ok L.toArray σ.w/\L.length=n*e.width/\Oo σ.w σ.S e L (ys.take n)/\(∀ v∈L,scalar v):=by
 obtain ⟨A,c,hy,hc,hl,hne⟩:=hd
 cases hy
 exact pU (fun h=>by obtain ⟨r,q,vs,T,fz,h1,_,h2,h3⟩:=hne h; exact ⟨r,q,vs,T,fz,h1,h2,h3⟩) hn
theorem fY {w:World} {S:Nat->Prop} {e:Shape} {vs:Array Value} {xs ys:List (Aa e)} {L:List Value} {k:Nat} (hx:Rows w S e vs 0 xs) (hy:Oo w S e L ys) (hl:L.length=ys.length*e.width) (hk:k<=xs.length)
  (hfit:k*e.width+L.length<=vs.size):Rows w S e (Cd vs (k*e.width) L) 0 (xs.take k++ys++xs.drop (k+ys.length)):=by
 intro i x hi
 rw [List.append_assoc] at hi
 have hkl:(xs.take k).length=k:=by simp; omega
 rcases Nat.lt_or_ge i k with h1 | h1
 ·rw [List.getElem?_append_left (by omega),List.getElem?_take_of_lt h1] at hi
  obtain ⟨ds,d1,d2⟩:=hx i x hi
  refine ⟨ds,d1,fun j d hj=>?_⟩
  have hjl:=(List.getElem?_eq_some_iff.1 hj).1
  rw [d1.len] at hjl
  have:=M4 h1 hjl
  rw [fH _ _ _ _ hfit,if_neg (by omega)]
  exact d2 j d hj
 ·rw [List.getElem?_append_right (by omega),hkl] at hi
  rcases Nat.lt_or_ge (i-k) ys.length with h2 | h2
  ·rw [List.getElem?_append_left h2] at hi
   obtain ⟨ds,d1,d2⟩:=hy (i-k) x hi
   refine ⟨ds,d1,fun j d hj=>?_⟩
   have hjl:=(List.getElem?_eq_some_iff.1 hj).1
   rw [d1.len] at hjl
   have h3:=M4 h2 hjl
   have h4:(i-k)*e.width+k*e.width=i*e.width:=by rw [← Nat.add_mul]; congr 1; omega
   rw [fH _ _ _ _ hfit,if_pos (by omega)]
   rw [show 0+i*e.width+j-k*e.width=(i-k)*e.width+j by omega]
   exact d2 j d hj
  ·rw [List.getElem?_append_right h2,List.getElem?_drop] at hi
   rw [show k+ys.length+(i-k-ys.length)=i by omega] at hi
   obtain ⟨ds,d1,d2⟩:=hx i x hi
   refine ⟨ds,d1,fun j d hj=>?_⟩
   have h3:=Nat.mul_le_mul_right e.width (show k+ys.length<=i by omega)
   rw [Nat.add_mul] at h3
   rw [fH _ _ _ _ hfit,if_neg (by omega)]
   exact d2 j d hj
theorem Oo.mono {w w':World} {S S':Nat->Prop} (hS:∀ r,S r->S' r) (hH:∀ r,S r->w'.heap[r]? = w.heap[r]?) {e:Shape} {L:List Value} {xs:List (Aa e)}
  (h:Oo w S e L xs):Oo w' S' e L xs:=fun i x hi=>by
 obtain ⟨ds,h1,h2⟩:=h i x hi
 exact ⟨ds,h1.mono hS hH,h2⟩
theorem NW {P:Program} {e:Shape} {ys:List (Aa e)} {y:Value} (hd:AI σ.w σ.S (.slice e) ys [y]) (w:World):(Builtin.lenOf y).run P w=.ok ys.length w:=by
 obtain ⟨A,c,hy,_⟩:=hd
 cases hy
 rfl
theorem aEM (ho:Ok base S0 σ) (hr:RelT σ s a) (hx:A5 a ctx) {c:Call} (hop:o.op=.call c) (hc:c.callee=.builtin .copy) (h:Aq C s ctx o=some (.ok true x mem')):Bj C base S0 id σ a o x mem':=by
 unfold Aq at h
 rw [hop] at h
 simp only [hc] at h
 split at h
 ·rename_i y z T Ts e1 e2
  split at h
  ·rename_i e b yc hT eb ey
   split at h
   ·rename_i τ eτ
    cases hf:CM s.mem yc with
    | mk yc' m1 =>
     rw [hf] at h
     simp only at h
     rw [← hr.mem] at hf
     obtain ⟨σ1,a1,a2,a3,a4,a5,a6⟩:=MU ho hf
     split at h
     ·rename_i ys τ' xs0 eys exs
      split at h
      ·rename_i xs ecast
       obtain ⟨hττ,hxs⟩:=Gw ecast
       subst hττ
       simp only at hxs
       subst hxs
       simp only [Option.some.injEq,Res.ok.injEq,true_and] at h
       obtain ⟨rfl,rfl⟩:=h
       have hd:=SM (a6 _ (Ba hr hx ey)) (S9 hf) (by rw [a1]; exact eys)
       have hb:=a5.repC (Ba hr hx eb)
       rw [← a1] at exs
       obtain ⟨hlt,_,hm⟩:=hb
       rw [exs] at hm
       simp only at hm
       cases hβ:σ1.E.β b with
       | none =>
        have hnil:xs=[]/\σ1.E.κ b=0:=by
         have he:=a4.ent b
         unfold AD at he
         rw [exs] at he
         obtain ⟨q1,q2,q3⟩:=he
         rcases q3 with ⟨_,q4⟩ | ⟨r,_,_,q4,_⟩
         ·exact ⟨List.eq_nil_of_length_eq_zero (by omega),q4⟩
         ·rw [hβ] at q4; cases q4
        obtain ⟨rfl,hκ⟩:=hnil
        rw [hβ,hκ] at hm
        have hset:m1.set b (.arr τ' (ys.take ([]:List (Aa τ')).length++([]:List (Aa τ')).drop ys.length))=m1:=by
         have e0:(ys.take ([]:List (Aa τ')).length++([]:List (Aa τ')).drop ys.length)=[]:=by simp
         rw [e0,← a1]
         exact f9 exs (by simp)
        rw [hset]
        obtain ⟨L,f1,f2,f3,f4⟩:=S8 (P:=C.P) hd (n:=0) (Nat.zero_le _)
        refine AO (σ':=σ1) (v:=.int .i64 ((min ys.length 0:Nat):Int)) ?_ a4 a5.moves a1 ⟨rfl,MW (n:=min ys.length 0) (Nat.lt_of_le_of_lt (Nat.min_le_right _ _) (by decide))⟩
        obtain ⟨cs,hcs⟩:=M6 (a:=a) (P:=C.P) hop hc σ.w
        rw [hcs,ME e1,QB e2]
        simp only [builtin]
        refine BF ?_
        unfold Builtin.copy_
        simp only [List.map_cons,List.map_nil,List.getElem?_toArray,List.getElem?_cons_zero,List.getElem?_cons_succ,hm,Option.map_none,List.length_nil]
        have hmz:Nat.min ys.length 0=0:=Nat.min_zero _
        simp only [Sem.run_bind,Cf hT,Result.andThen_ok,NW hd,EE (MO eτ),HK eτ,hmz]
        rw [← a2,f1]
        simp [goInt]
       | some r =>
       rw [hβ] at hm
       have hy:=hm
       simp only [Option.map_some] at hy
       obtain ⟨hl0,hl1,vs,T',h2,h3,h4⟩:=VH (a4.ent b) exs hβ
       have hown:σ1.owned b r:=⟨by rw [exs]; trivial,hβ⟩
       have hrl:=(a4.own b r hown).2.1
       obtain ⟨L,f1,f2,f3,f4⟩:=S8 (P:=C.P) hd (n:=Nat.min ys.length xs.length) (Nat.min_le_left _ _)
       have hmin:(ys.take (Nat.min ys.length xs.length)).length=Nat.min ys.length xs.length:=by simp
       have hnle:Nat.min ys.length xs.length<=xs.length:=Nat.min_le_right _ _
       have hfit:0*τ'.width+L.length<=vs.size:=by
        rw [f2,h3]
        have:=Nat.mul_le_mul_right τ'.width (Nat.le_trans hnle hl0)
        omega
       have hrows:=fY (k:=0) h4 f3 (by rw [hmin]; exact f2) (Nat.zero_le _) hfit
       have hres:xs.take 0++ys.take (Nat.min ys.length xs.length)++xs.drop (0+(ys.take (Nat.min ys.length xs.length)).length)=ys.take xs.length++xs.drop ys.length:=by
        rw [hmin]
        simp only [List.take_zero,List.nil_append,Nat.zero_add]
        rcases Nat.le_total ys.length xs.length with hle | hle
        ·have:Nat.min ys.length xs.length=ys.length:=Nat.min_eq_left hle
         rw [this,List.take_of_length_le (Nat.le_refl _),List.take_of_length_le hle]
        ·have:Nat.min ys.length xs.length=xs.length:=Nat.min_eq_right hle
         rw [this,List.drop_of_length_le (Nat.le_refl _),List.drop_of_length_le hle]
       rw [hres] at hrows
       have hlen:(ys.take xs.length++xs.drop ys.length).length=xs.length:=by simp; omega
       obtain ⟨g1,g2⟩:=Xk a4 hown (e:=.arr τ' (ys.take xs.length++xs.drop ys.length)) (vs:=Cd vs (0*τ'.width) L) (T:=T') (by rw [exs]; exact ⟨_,rfl,hlen⟩) (fun hg=>by
        unfold AD
        simp only [Sit.store]
        rw [BB hlt,if_pos rfl]
        exact ⟨by rw [hlen]; exact hl0,hl1,.inr ⟨r,_,T',hβ,P3 hrl,by rw [TK,h3],hrows.mono hg.stab hg.heap⟩⟩)
       refine AO (σ':=σ1.store b r (.arr τ' (ys.take xs.length++xs.drop ys.length)) (Cd vs (0*τ'.width) L) T') (v:=.int .i64 ((min ys.length xs.length:Nat):Int)) ?_ g1 (a5.trans g2).moves (by simp [Sit.store,a1]) ⟨rfl,MW (by omega)⟩
       obtain ⟨cs,hcs⟩:=M6 (a:=a) (P:=C.P) hop hc σ.w
       rw [hcs,ME e1,QB e2]
       simp only [builtin]
       refine BF ?_
       unfold Builtin.copy_
       simp only [List.map_cons,List.map_nil,List.getElem?_toArray,List.getElem?_cons_zero,List.getElem?_cons_succ,hy]
       simp only [Sem.run_bind,Cf hT,Result.andThen_ok,NW hd,EE (MO eτ),HK eτ]
       rw [← a2,f1]
       simp only [Result.andThen_ok]
       have h0:=TT (P:=C.P) (r:=r) (o:=0) (T:=T') L 0 σ1.w vs h2 (by simpa using hfit) f4
       rw [h0]
       simp [goInt,Sit.store]
      ·cases h
     ·cases h
   ·cases h
  ·rename_i e b lo n yc hT eb ey
   split at h
   ·rename_i τ eτ
    cases hf:CM s.mem yc with
    | mk yc' m1 =>
     rw [hf] at h
     simp only at h
     rw [← hr.mem] at hf
     obtain ⟨σ1,a1,a2,a3,a4,a5,a6⟩:=MU ho hf
     split at h
     ·rename_i ys τ' xs0 eys exs
      split at h
      ·rename_i xs ecast
       obtain ⟨hττ,hxs⟩:=Gw ecast
       subst hττ
       simp only at hxs
       subst hxs
       simp only [Option.some.injEq,Res.ok.injEq,true_and] at h
       obtain ⟨rfl,rfl⟩:=h
       have hd:=SM (a6 _ (Ba hr hx ey)) (S9 hf) (by rw [a1]; exact eys)
       have hb:=a5.repC (Ba hr hx eb)
       rw [← a1] at exs
       obtain ⟨hlt,_,hm⟩:=hb
       rw [exs] at hm
       obtain ⟨p1,A,cc,hy,p2,p3,p4⟩:=hm
       obtain ⟨L,f1,f2,f3,f4⟩:=S8 (P:=C.P) hd (n:=Nat.min ys.length n) (Nat.min_le_left _ _)
       have hmin:(ys.take (Nat.min ys.length n)).length=Nat.min ys.length n:=by
        rw [List.length_take]; exact Nat.min_eq_left (Nat.min_le_left _ _)
       have hmn:Nat.min ys.length n<=n:=Nat.min_le_right _ _
       have htake:ys.take (Nat.min ys.length n)=ys.take n:=by
        rcases Nat.le_total ys.length n with hle | hle
        ·have:Nat.min ys.length n=ys.length:=Nat.min_eq_left hle
         rw [this,List.take_of_length_le (Nat.le_refl _),List.take_of_length_le hle]
        ·have:Nat.min ys.length n=n:=Nat.min_eq_right hle
         rw [this]
       have hlen:(xs.take lo++ys.take n++xs.drop (lo+min ys.length n)).length=xs.length:=by
        rw [← htake]
        simp only [List.length_append,hmin,List.length_take,List.length_drop]
        show min lo xs.length+Nat.min ys.length n+(xs.length-(lo+Nat.min ys.length n))=_
        omega
       by_cases hz:Nat.min ys.length n=0
       ·have e0:xs.take lo++ys.take n++xs.drop (lo+min ys.length n)=xs:=by
         have e1:ys.take n=[]:=by rw [← htake,hz]; simp
         have e2:min ys.length n=0:=hz
         rw [e1,e2]; simp
        have hL:L=[]:=List.eq_nil_of_length_eq_zero (by rw [f2,hz]; simp)
        rw [e0]
        refine AO (σ':=σ1) (v:=.int .i64 ((min ys.length n:Nat):Int)) ?_ a4 a5.moves (by rw [← a1]; exact (f9 exs (by simp)).symm) ⟨rfl,MW (n:=min ys.length n) (Nat.lt_of_le_of_lt (show Nat.min ys.length n<=0 by omega) (by decide))⟩
        obtain ⟨cs,hcs⟩:=M6 (a:=a) (P:=C.P) hop hc σ.w
        rw [hcs,ME e1,QB e2]
        simp only [builtin]
        refine BF ?_
        unfold Builtin.copy_
        simp only [List.map_cons,List.map_nil,List.getElem?_toArray,List.getElem?_cons_zero,List.getElem?_cons_succ,hy]
        simp only [Sem.run_bind,Cf hT,Result.andThen_ok,NW hd,EE (MO eτ),HK eτ]
        rw [← a2,f1,hL]
        cases A <;> simp [goInt,storeCells]
       ·obtain ⟨r,hβ,rfl⟩:=p4 (by omega)
        obtain ⟨hl0,hl1,vs,T',h2,h3,h4⟩:=VH (a4.ent b) exs hβ
        have hown:σ1.owned b r:=⟨by rw [exs]; trivial,hβ⟩
        have hrl:=(a4.own b r hown).2.1
        have hfit:lo*τ'.width+L.length<=vs.size:=by
         rw [f2,h3,← Nat.add_mul]
         exact Nat.mul_le_mul_right τ'.width (by omega)
        have hrows:=fY (k:=lo) h4 f3 (by rw [hmin]; exact f2) (by omega) hfit
        rw [hmin,htake] at hrows
        obtain ⟨g1,g2⟩:=Xk a4 hown (e:=.arr τ' (xs.take lo++ys.take n++xs.drop (lo+min ys.length n))) (vs:=Cd vs (lo*τ'.width) L) (T:=T') (by rw [exs]; exact ⟨_,rfl,hlen⟩) (fun hg=>by
         unfold AD
         simp only [Sit.store]
         rw [BB hlt,if_pos rfl]
         exact ⟨by rw [hlen]; exact hl0,hl1,.inr ⟨r,_,T',hβ,P3 hrl,by rw [TK,h3],hrows.mono hg.stab hg.heap⟩⟩)
        refine AO (σ':=σ1.store b r (.arr τ' (xs.take lo++ys.take n++xs.drop (lo+min ys.length n))) (Cd vs (lo*τ'.width) L) T') (v:=.int .i64 ((min ys.length n:Nat):Int)) ?_ g1 (a5.trans g2).moves (by simp [Sit.store,a1]) ⟨rfl,MW (by show Nat.min ys.length n<Br; omega)⟩
        obtain ⟨cs,hcs⟩:=M6 (a:=a) (P:=C.P) hop hc σ.w
        rw [hcs,ME e1,QB e2]
        simp only [builtin]
        refine BF ?_
        unfold Builtin.copy_
        simp only [List.map_cons,List.map_nil,List.getElem?_toArray,List.getElem?_cons_zero,List.getElem?_cons_succ,hy]
        simp only [Sem.run_bind,Cf hT,Result.andThen_ok,NW hd,EE (MO eτ),HK eτ]
        rw [← a2,f1]
        simp only [Result.andThen_ok]
        have h0:=TT (P:=C.P) (r:=r) (o:=lo*τ'.width) (T:=T') L 0 σ1.w vs h2 (by simpa using hfit) f4
        rw [h0]
        simp [goInt,Sit.store]
      ·cases h
     ·cases h
   ·cases h
  ·cases h
 ·cases h
end Vx
namespace Vx
open Go Go.RowKit
variable {C:Cfg} {base:Base} {S0:Nat->Prop} {σ:Sit} {s:St} {a:Act} {ctx:List (Nat×Bool)} {o:Oper} {x:TV} {mem':Ae}
theorem rG:∀ (r newLen c:Nat),256<=c->c<=2*newLen->Builtin.growBy newLen r c<=2*newLen
 | 0,newLen,c,_,h=>h
 | r+1,newLen,c,h1,h2=>by
  unfold Builtin.growBy
  split
  ·exact h2
  ·exact rG r newLen _ (by omega) (by omega)
theorem aEx {need cap:Nat} (h:cap<need):Builtin.nextslicecap need cap<=2*need:=by
 unfold Builtin.nextslicecap
 split
 ·omega
 ·split
  ·omega
  ·exact rG 4 need cap (by omega) (by omega)
theorem Moves.of_acc {σ σ':Sit} {b:Nat} (stab:∀ r,σ.S r->σ'.S r) (heap:∀ r,σ.S r->σ'.w.heap[r]? = σ.w.heap[r]?) (len:σ.mem.length<=σ'.mem.length)
  (turns:∀ b',b'<σ.mem.length->b'≠b->A6 σ σ' b') (hb:∃ τ xs τ' xs',Ad σ.mem b=.acc τ xs/\Ad σ'.mem b=.acc τ' xs'):Moves (Do b) σ σ':=by
 refine ⟨stab,heap,fun c y hc=>?_,len,fun b' hb' ha=>by
  by_cases h:b'=b
  ·subst h; obtain ⟨_,_,_,_,e,_⟩:=hb; rw [e]; trivial
  ·have ht:=turns b' hb' h
   unfold A6 at ht
   cases e:Ad σ.mem b' with
   | gone=>rw [e] at ht; simp only at ht; rw [ht] at ha; exact ha
   | raw cs=>rw [e] at ht; rcases ht with ⟨_,cs',h2⟩ | h2 <;> (rw [h2] at ha; exact ha)
   | arr τ xs =>
    rw [e] at ht
    rcases ht with ⟨_,_,xs',h2,_⟩ | ⟨xs',h2,_⟩ | h2
    ·rw [h2] at ha; exact ha
    ·rw [h2] at ha; exact ha
    ·rw [h2] at ha; exact ha
   | acc τ xs=>trivial
   | froz τ xs=>rw [e] at ht; simp only at ht; rw [ht] at ha; exact ha⟩
 have key:(∀ b',c=.own b'->¬ b'=b)->Ap σ' c y:=fun hne=>vF stab heap len (fun b'=>b'=b) (fun b' hb'=>by
  by_cases h:b'=b
  ·subst h; exact .inr ⟨rfl,hb⟩
  ·exact .inl (turns b' hb' h)) hc hne
 cases c with
 | own b' =>
  simp only [Do]
  cases hbb:Nat.beq b b' with
  | true=>exact hc.2.1
  | false=>exact key fun b'' e=>by cases e; intro e; subst e; simp [Nat.beq_refl] at hbb
 | undef=>exact key fun _ e=>by cases e
 | v _=>exact key fun _ e=>by cases e
 | fl _ _=>exact key fun _ e=>by cases e
 | sl _ _=>exact key fun _ e=>by cases e
 | ptr _ _=>exact key fun _ e=>by cases e
 | eptr _ _ _=>exact key fun _ e=>by cases e
 | iptr _ _ _=>exact key fun _ e=>by cases e
 | sub _ _ _=>exact key fun _ e=>by cases e
 | gptr _=>exact key fun _ e=>by cases e
 | fnv _=>exact key fun _ e=>by cases e
 | ifv _=>exact key fun _ e=>by cases e
 | fn _ _=>exact key fun _ e=>by cases e
def Sit.grow (σ:Sit) (b:Nat) (e:Blk) (r:Option Nat) (k:Nat) (w':World):Sit :=
 { E:={ β:=AB σ.E.β b r,κ:=AB σ.E.κ b k },mem:=(σ.mem.set b e).map (MN b),w:=w',S:=σ.S }
theorem aK {mem:Ae} {f:Blk->Blk} (hf:f .gone=.gone) {b:Nat}:Ad (mem.map f) b=f (Ad mem b):=by
 unfold Ad
 rw [List.getElem?_map]
 cases mem[b]? <;> simp [hf]
theorem Pz {b:Nat} {τ:Shape} {zs:List (Aa τ)} {r:Option Nat} {k:Nat} {w':World} (hb:b<σ.mem.length) (b':Nat) :
  Ad (σ.grow b (.acc τ zs) r k w').mem b'=if b'=b then .acc τ zs else MN b (Ad σ.mem b'):=by
 simp only [Sit.grow]
 rw [aK rfl,BB hb]
 split <;> rfl
theorem aFf {b:Nat} {e:Blk}:HU (MN b e)↔HU e:=by
 cases e <;> exact Iff.rfl
theorem cV (ho:Ok base S0 σ) {b:Nat} {τ:Shape} {xs zs:List (Aa τ)} (hb:Ad σ.mem b=.acc τ xs) {r:Option Nat} {k:Nat} {w':World}
  (hw:Low base w') (hsz:σ.w.heap.size<=w'.heap.size) (hheap:∀ q,q<σ.w.heap.size->σ.E.β b≠some q->w'.heap[q]? = σ.w.heap[q]?)
  (hr:∀ q,r=some q->base.new q/\q<w'.heap.size/\(σ.E.β b=some q∨σ.w.heap.size<=q))
  (hlen:zs.length<=k) (hk:k<Br)
  (hat:(r=none/\k=0)∨∃ q vs T,r=some q/\w'.heap[q]? = some (.cells vs T (0,0))/\vs.size=k*τ.width/\Rows w' σ.S τ vs 0 zs) :
  Ok base S0 (σ.grow b (.acc τ zs) r k w')/\Moves (Do b) σ (σ.grow b (.acc τ zs) r k w')/\Ap (σ.grow b (.acc τ zs) r k w') (.own b) (.slice (r.map fun q=>⟨q,0,none⟩) zs.length k):=by
 have hlt:b<σ.mem.length:=C1 (by rw [hb]; simp)
 have hS:∀ q,σ.S q->w'.heap[q]? = σ.w.heap[q]?:=fun q hq=>hheap q (ho.stab q hq).1 (fun e=>(ho.own b q ⟨by rw [hb]; trivial,e⟩).2.2 hq)
 have hturn:∀ b',b'<σ.mem.length->b'≠b->A6 σ (σ.grow b (.acc τ zs) r k w') b':=fun b' hb' hne=>by
  have e1:Ad (σ.grow b (.acc τ zs) r k w').mem b'=MN b (Ad σ.mem b'):=by rw [Pz hlt,if_neg hne]
  have e2:(σ.grow b (.acc τ zs) r k w').E.β b'=σ.E.β b':=by simp [Sit.grow,AB,hne]
  have e3:(σ.grow b (.acc τ zs) r k w').E.κ b'=σ.E.κ b':=by simp [Sit.grow,AB,hne]
  unfold A6
  cases e:Ad σ.mem b' with
  | gone=>simp only; rw [e1,e]; rfl
  | raw cs=>exact .inl ⟨e2,_,by rw [e1,e]; rfl⟩
  | arr τ' ys=>exact .inl ⟨e2,e3,ys,by rw [e1,e]; rfl,rfl⟩
  | acc τ' ys=>exact .inl ⟨e2,e3,by rw [e1,e]; rfl⟩
  | froz τ' ys=>simp only; rw [e1,e]; rfl
 have hmv:Moves (Do b) σ (σ.grow b (.acc τ zs) r k w') :=
  Moves.of_acc (fun _ h=>h) (fun q hq=>hS q hq) (by simp [Sit.grow]) hturn ⟨τ,xs,τ,zs,hb,by rw [Pz hlt,if_pos rfl]⟩
 have hold:∀ b' q,b'≠b->(σ.grow b (.acc τ zs) r k w').owned b' q->σ.owned b' q:=fun b' q hne ⟨h1,h2⟩=>by
  rw [Pz hlt,if_neg hne] at h1
  exact ⟨aFf.1 h1,by simpa [Sit.grow,AB,hne] using h2⟩
 have hnew:∀ q,(σ.grow b (.acc τ zs) r k w').owned b q->r=some q:=fun q h=>by simpa [Sit.grow,AB] using h.2
 have hbown:∀ q,σ.E.β b=some q->σ.owned b q:=fun q e=>⟨by rw [hb]; trivial,e⟩
 refine ⟨⟨hw,ho.stab0,fun q hq=>⟨Nat.lt_of_lt_of_le (ho.stab q hq).1 hsz,(ho.stab q hq).2⟩,fun b'=>?_,fun b' q h=>?_,fun b1 b2 q h1 h2=>?_⟩,hmv,?_⟩
 ·by_cases hbb:b'=b
  ·subst hbb
   unfold AD
   rw [Pz hlt,if_pos rfl]
   refine ⟨by simpa [Sit.grow,AB] using hlen,by simpa [Sit.grow,AB] using hk,?_⟩
   rcases hat with ⟨h1,h2⟩ | ⟨q,vs,T,h1,h2,h3,h4⟩
   ·exact .inl ⟨by simp [Sit.grow,AB,h1],by simp [Sit.grow,AB,h2]⟩
   ·exact .inr ⟨q,vs,T,by simp [Sit.grow,AB,h1],h2,by simpa [Sit.grow,AB] using h3,h4⟩
  ·have he:=ho.ent b'
   have howned:∀ q,σ.owned b' q->w'.heap[q]? = σ.w.heap[q]?:=fun q hq=>hheap q (ho.own b' q hq).2.1 (fun e=>hbb (ho.inj b' b q hq (hbown q e)))
   unfold AD at he ⊢
   rw [Pz hlt,if_neg hbb]
   have e2:(σ.grow b (.acc τ zs) r k w').E.β b'=σ.E.β b':=by simp [Sit.grow,AB,hbb]
   have e3:(σ.grow b (.acc τ zs) r k w').E.κ b'=σ.E.κ b':=by simp [Sit.grow,AB,hbb]
   cases e:Ad σ.mem b' with
   | gone=>trivial
   | froz τ' ys=>trivial
   | raw cs =>
    rw [e] at he
    obtain ⟨q,vs,T,h1,h2,h3⟩:=he
    exact ⟨q,vs,T,e2.trans h1,(howned q ⟨by rw [e]; trivial,h1⟩).trans h2,h3.mapL (Do b) hmv.rep⟩
   | arr τ' ys =>
    rw [e] at he
    obtain ⟨h0,h00,h⟩:=he
    refine ⟨by rw [e3]; exact h0,by rw [e3]; exact h00,?_⟩
    rcases h with ⟨h1,h2⟩ | ⟨q,vs,T,h1,h2,h3,h4⟩
    ·exact .inl ⟨e2.trans h1,e3.trans h2⟩
    ·exact .inr ⟨q,vs,T,e2.trans h1,(howned q ⟨by rw [e]; trivial,h1⟩).trans h2,by rw [e3]; exact h3,h4.mono (fun _ h=>h) hS⟩
   | acc τ' ys =>
    rw [e] at he
    obtain ⟨h0,h00,h⟩:=he
    refine ⟨by rw [e3]; exact h0,by rw [e3]; exact h00,?_⟩
    rcases h with ⟨h1,h2⟩ | ⟨q,vs,T,h1,h2,h3,h4⟩
    ·exact .inl ⟨e2.trans h1,e3.trans h2⟩
    ·exact .inr ⟨q,vs,T,e2.trans h1,(howned q ⟨by rw [e]; trivial,h1⟩).trans h2,by rw [e3]; exact h3,h4.mono (fun _ h=>h) hS⟩
 ·by_cases hbb:b'=b
  ·subst hbb
   obtain ⟨g1,g2,g3⟩:=hr q (hnew q h)
   refine ⟨g1,g2,fun hs=>?_⟩
   rcases g3 with g3 | g3
   ·exact (ho.own b' q (hbown q g3)).2.2 hs
   ·exact absurd (ho.stab q hs).1 (by omega)
  ·have:=ho.own b' q (hold b' q hbb h)
   exact ⟨this.1,Nat.lt_of_lt_of_le this.2.1 hsz,this.2.2⟩
 ·have key:∀ b' q,b'≠b->(σ.grow b (.acc τ zs) r k w').owned b' q->r=some q->False:=fun b' q hne h e=>by
   have h':=hold b' q hne h
   rcases (hr q e).2.2 with g | g
   ·exact hne (ho.inj b' b q h' (hbown q g))
   ·exact absurd (ho.own b' q h').2.1 (by omega)
  by_cases hb1:b1=b <;> by_cases hb2:b2=b
  ·rw [hb1,hb2]
  ·subst hb1; exact (key b2 q hb2 h2 (hnew q h1)).elim
  ·subst hb2; exact (key b1 q hb1 h1 (hnew q h2)).elim
  ·exact ho.inj b1 b2 q (hold b1 q hb1 h1) (hold b2 q hb2 h2)
 ·refine ⟨by simp [Sit.grow]; exact hlt,trivial,?_⟩
  rw [Pz hlt,if_pos rfl]
  simp [Sit.grow,AB]
theorem aJy {P:Program} {e:TypeId} (h:Uc P e=true):∃ z:Value,z.cells.size=P.cellsOf e/\∀ w,(zeroValue e).run P w=.ok z w:=by
 unfold Uc at h
 split at h
 ·rename_i x ex
  obtain ⟨z,h1,h2⟩:=Ud (P:=P) (σ:=⟨⟨fun _=>none,fun _=>0⟩,[],default,fun _=>False⟩) ex
  refine ⟨z,?_,h2⟩
  have:=h1.cells.length
  rw [P7 h] at this
  simpa using this.symm
 ·cases h
theorem rZ {L1 L2:List Value} {rest:Array Value} {q:Nat}:((L1.toArray++L2.toArray)++rest)[q]? = if q<L1.length then L1[q]? else if q<L1.length+L2.length then L2[q-L1.length]? else rest[q-(L1.length+L2.length)]?:=by
 rw [Array.getElem?_append,Array.getElem?_append]
 simp only [Array.size_append,List.size_toArray,List.getElem?_toArray]
 by_cases h1:q<L1.length
 ·rw [if_pos (by omega),if_pos h1,if_pos h1]
 ·by_cases h2:q<L1.length+L2.length
  ·rw [if_pos h2,if_neg h1,if_neg h1,if_pos h2]
  ·rw [if_neg h2,if_neg h1,if_neg h2]
theorem nJ (ho:Ok base S0 σ) {b:Nat} {τ:Shape} {xs ys:List (Aa τ)} {yv:Value} {T T2 e:TypeId} {ty:TypeId} {e2:TypeId} {Ts:List TypeId} (hb:Ad σ.mem b=.acc τ xs) (hd:AI σ.w σ.S (.slice τ) ys [yv])
  (hT:C.P.underlying T=some (.slice e)) (hT2:C.P.underlying T2=some (.slice e2)) (eτ:Cr C.P e=some τ) (hg:((xs.length:Int)+(ys.length:Int))*2*(C.P.bytesOf e:Int)<=D3) (hby:0<C.P.bytesOf e) (hz:Uc C.P e=true) :
  ∃ r k w',(Builtin.append_ (T::T2::Ts).toArray ty #[.slice ((σ.E.β b).map fun r=>⟨r,0,none⟩) xs.length (σ.E.κ b),yv]).run C.P σ.w=.ok (.slice (r.map fun q=>⟨q,0,none⟩) (xs++ys).length k) w' /\
   Ok base S0 (σ.grow b (.acc τ (xs++ys)) r k w')/\Moves (Do b) σ (σ.grow b (.acc τ (xs++ys)) r k w')/\Ap (σ.grow b (.acc τ (xs++ys)) r k w') (.own b) (.slice (r.map fun q=>⟨q,0,none⟩) (xs++ys).length k):=by
 have he:=ho.ent b
 unfold AD at he
 rw [hb] at he
 obtain ⟨hle,hlim,hblk⟩:=he
 have hw:=HK eτ
 have hsize:∀ w,(Go.sizeOf e).run C.P w=.ok τ.width w:=fun w=>by rw [EE (MO eτ),hw]
 obtain ⟨ie,hie⟩:=MO eτ
 have hbytes:ie.bytes=C.P.bytesOf e:=by simp [Program.bytesOf,hie]
 have hneed:xs.length+ys.length<=70368744177664:=by
  have h1:(((xs.length+ys.length)*2*C.P.bytesOf e:Nat):Int)<=D3:=by push_cast; exact hg
  have h2:(xs.length+ys.length)*2*C.P.bytesOf e<=140737488355328:=by unfold D3 at h1; omega
  have h3:=Nat.le_mul_of_pos_right ((xs.length+ys.length)*2) hby
  omega
 obtain ⟨L,f1,f2,f3,f4⟩:=S8 (P:=C.P) hd (Nat.le_refl ys.length)
 rw [List.take_length] at f3
 by_cases hroom:xs.length+ys.length<=σ.E.κ b
 ·-- in Ay
  rcases hblk with ⟨h1,h2⟩ | ⟨r,vs,T',h1,h2,h3,h4⟩
  ·have hx0:xs=[]:=List.eq_nil_of_length_eq_zero (by omega)
   have hy0:ys=[]:=List.eq_nil_of_length_eq_zero (by omega)
   subst hx0; subst hy0
   obtain ⟨k1,k2,k3⟩:=cV ho hb (zs:=[]) (r:=none) (k:=0) (w':=σ.w) ho.below (Nat.le_refl _) (fun _ _ _=>rfl) (fun q hq=>by cases hq) (by simp) (by unfold Br; omega) (.inl ⟨rfl,rfl⟩)
   refine ⟨none,0,σ.w,?_,k1,k2,k3⟩
   unfold Builtin.append_
   simp [Cf hT,Cf hT2,hsize,NW hd,h1,h2]
   rw [show (0:Nat)=([]:List (Aa τ)).length from rfl,f1]
   simp
  ·have hfit:xs.length*τ.width+L.length<=vs.size:=by
    rw [f2,h3,← Nat.add_mul]
    exact Nat.mul_le_mul_right _ hroom
   have hrows:=fY (k:=xs.length) h4 f3 f2 (Nat.le_refl _) hfit
   rw [List.take_length,List.drop_of_length_le (by omega),List.append_nil] at hrows
   have hrl:=(ho.own b r ⟨by rw [hb]; trivial,h1⟩)
   have hS:∀ q,σ.S q->(CP σ.w r (.cells (Cd vs (xs.length*τ.width) L) T' (0,0))).heap[q]? = σ.w.heap[q]?:=fun q hq=>P4 (fun e=>hrl.2.2 (e ▸ hq))
   obtain ⟨k1,k2,k3⟩:=cV ho hb (zs:=xs++ys) (r:=some r) (k:=σ.E.κ b) (w':=CP σ.w r (.cells (Cd vs (xs.length*τ.width) L) T' (0,0)))
    (ho.below.step rfl rfl rfl (by simp [CP]) (fun k _ hn=>P4 (fun e=>hn (e ▸ hrl.1)))) (by simp [CP]) (fun q _ hne=>P4 (fun e=>hne (e ▸ h1))) (fun q hq=>by cases hq; exact ⟨hrl.1,by rw [gA]; exact hrl.2.1,.inl h1⟩)
    (by simpa using hroom) hlim (.inr ⟨r,_,T',rfl,P3 hrl.2.1,by rw [TK]; exact h3,hrows.mono (fun _ h=>h) hS⟩)
   refine ⟨some r,σ.E.κ b,_,?_,k1,k2,k3⟩
   have h0:=TT (P:=C.P) (r:=r) (o:=xs.length*τ.width) (T:=T') L 0 σ.w vs h2 (by simpa using hfit) f4
   unfold Builtin.append_
   simp [Cf hT,Cf hT2,hsize,NW hd,h1,hroom,f1,HF]
   rw [h0]
   simp
 ·-- a new block
  obtain ⟨z,z1,z2⟩:=aJy hz
  have hnext:Builtin.nextslicecap (xs.length+ys.length) (σ.E.κ b)*C.P.bytesOf e<=281474976710656:=by
   have h1:=aEx (need:=xs.length+ys.length) (cap:=σ.E.κ b) (by omega)
   have h2:=Nat.mul_le_mul_right (C.P.bytesOf e) h1
   have h3:((2*(xs.length+ys.length)*C.P.bytesOf e:Nat):Int)<=D3:=by
    push_cast
    have:(2:Int)*((xs.length:Int)+(ys.length:Int))=((xs.length:Int)+(ys.length:Int))*2:=Int.mul_comm _ _
    rw [this]
    exact hg
   unfold D3 at h3
   omega
  obtain ⟨L0,g1,g2,g3,g4⟩:=pU (P:=C.P) (w:=σ.w.drew) (S:=σ.S) (e:=τ) (ys:=xs) (A:=(σ.E.β b).map fun r=>⟨r,0,none⟩) (m:=xs.length) (c:=σ.E.κ b) (fun hne=>by
   rcases hblk with ⟨h1,h2⟩ | ⟨r,vs,T',h1,h2,h3,h4⟩
   ·exact absurd (List.eq_nil_of_length_eq_zero (by omega)) hne
   ·exact ⟨r,0,vs,T',(0,0),by rw [h1]; rfl,h2,Rows.mono (w:=σ.w) (w':=σ.w.drew) (fun _ h=>h) (fun _ _=>rfl) h4⟩) (Nat.le_refl xs.length)
  rw [List.take_length] at g3
  obtain ⟨L',f1',f2',f3',f4'⟩:=S8 (P:=C.P) (σ:={ σ with w:=σ.w.drew }) (AI.mono (w:=σ.w) (w':=σ.w.drew) (fun _ h=>h) (fun _ _=>rfl) hd) (Nat.le_refl ys.length)
  rw [List.take_length] at f3'
  let q:Question:=.appendCap (xs.length+ys.length) (σ.E.κ b) e
  let k:=xs.length+ys.length+σ.w.tape σ.w.drawn q%(2^63-(xs.length+ys.length))
  have hk:xs.length+ys.length<=k/\k<Br:=by
   have hpos:0<2^63-(xs.length+ys.length):=by omega
   have:=Nat.mod_lt (σ.w.tape σ.w.drawn q) hpos
   unfold Br
   omega
  let vs':Array Value:=L0.toArray++L'.toArray++Builtin.zeroCells z.cells (k-(xs.length+ys.length))
  have hzs:(Builtin.zeroCells z.cells (k-(xs.length+ys.length))).size=(k-(xs.length+ys.length))*τ.width:=by
   simp [Builtin.zeroCells,z1,hw]
  have hvs:vs'.size=k*τ.width:=by
   simp only [vs',Array.size_append,List.size_toArray,hzs,g2,f2']
   rw [← Nat.add_mul,← Nat.add_mul]
   congr 1
   omega
  have hrows:Rows (σ.w.drew.alloc (.cells vs' e)) σ.S τ vs' 0 (xs++ys):=by
   have hS:∀ p,σ.S p->(σ.w.drew.alloc (.cells vs' e)).heap[p]? = σ.w.drew.heap[p]?:=fun p hp=>JF (ho.stab p hp).1
   intro i x hi
   rcases Nat.lt_or_ge i xs.length with h1 | h1
   ·rw [List.getElem?_append_left h1] at hi
    obtain ⟨ds,d1,d2⟩:=g3 i x hi
    refine ⟨ds,d1.mono (fun _ h=>h) hS,fun j d hj=>?_⟩
    have hjl:=(List.getElem?_eq_some_iff.1 hj).1
    rw [d1.len] at hjl
    have:=M4 h1 hjl
    simp only [vs']
    rw [rZ,if_pos (by omega),Nat.zero_add]
    exact d2 j d hj
   ·rw [List.getElem?_append_right h1] at hi
    have h2:=(List.getElem?_eq_some_iff.1 hi).1
    obtain ⟨ds,d1,d2⟩:=f3' (i-xs.length) x hi
    refine ⟨ds,d1.mono (fun _ h=>h) hS,fun j d hj=>?_⟩
    have hjl:=(List.getElem?_eq_some_iff.1 hj).1
    rw [d1.len] at hjl
    have h3:=M4 h2 hjl
    have h4:(i-xs.length)*τ.width+xs.length*τ.width=i*τ.width:=by rw [← Nat.add_mul]; congr 1; omega
    simp only [vs']
    rw [rZ,if_neg (by omega),if_pos (by omega)]
    rw [show 0+i*τ.width+j-L0.length=(i-xs.length)*τ.width+j by omega]
    exact d2 j d hj
  obtain ⟨k1,k2,k3⟩:=cV ho hb (zs:=xs++ys) (r:=some σ.w.heap.size) (k:=k) (w':=σ.w.drew.alloc (.cells vs' e)) (ho.below.drew.alloc _) (by simp)
   (fun p hp _=>JF (w:=σ.w.drew) hp) (fun p hp=>by cases hp; exact ⟨.inl ho.below.size,by simp,.inr (Nat.le_refl _)⟩) (by simpa using hk.1) hk.2
   (.inr ⟨σ.w.heap.size,vs',e,rfl,P2 (w:=σ.w.drew),hvs,hrows⟩)
  refine ⟨some σ.w.heap.size,k,_,?_,k1,k2,k3⟩
  have hti:∀ w,(typeInfo e).run C.P w=.ok ie w:=fun w=>by simp [typeInfo,hie]
  have hn1:¬ ((xs.length+ys.length:Nat):Int)>IntKind.i64.max:=by
   simp [IntKind.max,IntKind.signed,IntKind.bits]; omega
  have hn2:¬ Builtin.nextslicecap (xs.length+ys.length) (σ.E.κ b)*ie.bytes>2^48:=by rw [hbytes]; omega
  have hcut:(choose (.appendCap (xs.length+ys.length) (σ.E.κ b) e)).run C.P σ.w=.ok k σ.w.drew:=by
   simp [q,k,Question.forced,Question.cut]
  unfold Builtin.append_
  simp only [List.getElem?_toArray,List.getElem?_cons_zero,List.getElem?_cons_succ,Sem.run_bind,Cf hT,Cf hT2,Result.andThen_ok,hsize,Sem.run_pure,Bool.false_eq_true,if_false,NW hd,if_neg hroom,hti]
  rw [if_neg (fun h=>hn1 h.1)]
  simp only [Sem.run_bind,hti,Result.andThen_ok]
  rw [if_neg hn2]
  have f1'':(Builtin.firstCells τ.width ys.length yv).run C.P σ.w.drew=.ok L'.toArray σ.w.drew:=f1'
  simp only [Sem.run_bind,hcut,Result.andThen_ok,hti,run_askRoom,g1,z2,Sem.run_pure]
  simp [newRow,vs',f1'']
def xT (C:Cfg) (base:Base) (S0:Nat->Prop) (b:Nat) (σ:Sit) (a:Act) (o:Oper) (mem':Ae):Prop :=
 Bj C base S0 (Do b) σ a o (.val (.one (.own b))) (mem'.map (MN b))
theorem Goes.dropMoves {σ σ1 σ2:Sit} {b:Nat} (h:Goes σ σ1) (h':Moves (Do b) σ1 σ2):Moves (Do b) σ σ2 :=
 ⟨fun r hr=>h'.stab r (h.stab r hr),fun r hr=>(h'.heap r (h.stab r hr)).trans (h.heap r hr),fun c y hc=>h'.rep c y (h.repC hc),Nat.le_trans h.len h'.len,fun b hb ha=>h.noacc b hb (h'.noacc b (Nat.lt_of_lt_of_le hb h.len) ha)⟩
theorem vP {n b:Nat} (h:fU n b=true):(n:Int)*2*(b:Int)<=D3:=by
 have h:=Nat.le_of_ble_eq_true h
 have e:((n*2*b:Nat):Int)=(n:Int)*2*(b:Int):=by rw [Int.natCast_mul,Int.natCast_mul]; rfl
 rw [← e]
 exact Int.ofNat_le.2 h
theorem aEG (ho:Ok base S0 σ) (hr:RelT σ s a) (hx:A5 a ctx) {c:Call} (hop:o.op=.call c) (hc:c.callee=.builtin .append) (h:Aq C s ctx o=some (.ok true x mem')) :
  ∃ b,x=.val (.one (.own b))/\Fv (Ad (mem'.map (MN b)) b)/\xT C base S0 b σ a o mem':=by
 unfold Aq at h
 rw [hop] at h
 simp only [hc] at h
 split at h
 ·rename_i y z T T2 Ts e1 e2
  split at h
  ·rename_i e e3 ac yc hT hT2 ea ey
   split at h
   ·rename_i τ eτ
    cases hf:CM s.mem yc with
    | mk yc' m1 =>
     rw [hf] at h
     simp only at h
     rw [← hr.mem] at hf
     obtain ⟨σ1,a1,a2,a3,a4,a5,a6⟩:=MU ho hf
     have hya:=Ba hr hx ey
     have hexec:∀ {v w'},(Builtin.append_ (T::T2::Ts).toArray o.type #[a.eval y,a.eval z]).run C.P σ.w=.ok v w'->(execOp a.eval o).run C.P σ.w=.ok (.value v) w':=fun hv=>by
      obtain ⟨cs,hcs⟩:=M6 (a:=a) (P:=C.P) hop hc σ.w
      rw [hcs,ME e1,QB e2]
      simp only [builtin]
      exact BF hv
     split at h
     ·rename_i ys eys
      simp only [Option.some.injEq,Res.ok.injEq,Bool.and_eq_true] at h
      obtain ⟨⟨⟨g1,g2⟩,g3⟩,rfl,rfl⟩:=h
      have hd:=SM (a6 _ hya) (S9 hf) (by rw [a1]; exact eys)
      obtain ⟨hay,_⟩:=Ba hr hx ea
      have ho2:=tK a4 τ
      have hg2:=dO σ1 (.acc τ [])
      have hb2:Ad (σ1.name (.acc τ [])).mem σ1.mem.length=.acc τ []:=Jp
      have hβ:(σ1.name (.acc τ [])).E.β σ1.mem.length=none:=by simp [Sit.name,AB]
      have hκ:(σ1.name (.acc τ [])).E.κ σ1.mem.length=0:=by simp [Sit.name,AB]
      obtain ⟨r,k,w',k1,k2,k3,k4⟩:=nJ (C:=C) (T2:=T2) (ty:=o.type) (Ts:=Ts) ho2 hb2 (hd.mono hg2.stab hg2.heap) hT hT2 eτ (by simpa using vP g1) (by simpa using g2) g3
      rw [hβ,hκ] at k1
      refine ⟨σ1.mem.length,by rw [a1],by rw [← a1,aK rfl,Jp]; trivial,AO (σ':=_) (v:=.slice (r.map fun q=>⟨q,0,none⟩) (([]:List (Aa τ))++ys).length k) ?_ k2 ((a5.trans hg2).dropMoves k3) ?_ k4⟩
      ·refine hexec ?_
       rw [hay]
       have:(σ1.name (.acc τ [])).w=σ.w:=by simp [Sit.name,a2]
       rw [this] at k1
       exact k1
      ·simp [Sit.grow,Sit.name,a1]
     ·rename_i ys b eys
      split at h
      ·rename_i τ' xs0 eb
       split at h
       ·rename_i xs ecast
        obtain ⟨hττ,hxs⟩:=Gw ecast
        subst hττ
        simp only at hxs
        subst hxs
        simp only [Option.some.injEq,Res.ok.injEq,Bool.and_eq_true,decide_eq_true_eq] at h
        obtain ⟨⟨⟨g1,g2⟩,g3⟩,rfl,rfl⟩:=h
        have hd:=SM (a6 _ hya) (S9 hf) (by rw [a1]; exact eys)
        have hb:=a5.repC (Ba hr hx ea)
        rw [← a1] at eb
        obtain ⟨hlt,_,hm⟩:=hb
        rw [eb] at hm
        obtain ⟨r,k,w',k1,k2,k3,k4⟩:=nJ (C:=C) (T2:=T2) (ty:=o.type) (Ts:=Ts) a4 eb hd hT hT2 eτ (by have:=vP g1; rw [Int.natCast_add] at this; exact this) (by simpa using g2) g3
        refine ⟨b,rfl,by rw [← a1,aK rfl,BB hlt,if_pos rfl]; trivial,AO (σ':=_) (v:=.slice (r.map fun q=>⟨q,0,none⟩) (xs++ys).length k) ?_ k2 (a5.dropMoves k3) ?_ k4⟩
        ·refine hexec ?_
         rw [hm,← a2]
         exact k1
        ·simp [Sit.grow,a1]
       ·cases h
      ·cases h
     ·cases h
   ·cases h
  ·cases h
 ·cases h
end Vx
namespace Vx
open Go Go.RowKit
def Dh (w:World) (S:Nat->Prop) (a:Bool) (τ:Shape) (x:Aa τ) (y:Value):Prop :=
 match a with
 | true=>∃ cs:List Value,y=.agg cs.toArray/\AI w S τ x cs
 | false=>AI w S τ x [y]
def EN (w:World) (S:Nat->Prop) (τ:Shape) (xs:List (Aa τ)) (y:Value) (rs:List Nat):Prop :=
 ∃ k,xs.length<=k/\k<Br/\((y=.slice none xs.length k/\k=0/\rs=[]) ∨
  ∃ r vs T,y=.slice (some ⟨r,0,none⟩) xs.length k/\rs=[r]/\w.heap[r]? = some (.cells vs T (0,0))/\vs.size=k*τ.width/\Rows w S τ vs 0 xs)
def GL (w:World) (S:Nat->Prop) (a:Bool):(τ:Shape)->Aa τ->Value->List Nat->Prop
 | .slice e,x,y,rs=>(match a with
  | true=>EN w S e x y rs
  | false=>rs=[]/\Dh w S false (.slice e) x y)
 | .int k,x,y,rs=>rs=[]/\Dh w S a (.int k) x y
 | .flt k,x,y,rs=>rs=[]/\Dh w S a (.flt k) x y
 | .bool,x,y,rs=>rs=[]/\Dh w S a .bool x y
 | .str,x,y,rs=>rs=[]/\Dh w S a .str x y
 | .fn,x,y,rs=>rs=[]/\Dh w S a .fn x y
 | .unit,x,y,rs=>rs=[]/\Dh w S a .unit x y
 | .pair σ τ,x,y,rs=>rs=[]/\Dh w S a (.pair σ τ) x y
 | .box σ,x,y,rs=>rs=[]/\Dh w S a (.box σ) x y
 | .ifc,x,y,rs=>rs=[]/\Dh w S a .ifc x y
 | .pfn,x,y,rs=>rs=[]/\Dh w S a .pfn x y
def Ch (w:World) (S:Nat->Prop):(sg:Ac)->DenS sg->List Value->List Nat->Prop
 | [],_,ys,rs=>ys=[]/\rs=[]
 | (a,τ)::sg,x,ys,rs=>∃ y ys' r1 r2,ys=y::ys'/\rs=r1++r2/\GL w S a τ x.1 y r1/\Ch w S sg x.2 ys' r2
theorem Dh.mono {w w':World} {S S':Nat->Prop} (hS:∀ r,S r->S' r) (hH:∀ r,S r->w'.heap[r]? = w.heap[r]?) {a:Bool} {τ:Shape} {x:Aa τ} {y:Value} (h:Dh w S a τ x y):Dh w' S' a τ x y:=by
 cases a with
 | true=>obtain ⟨cs,h1,h2⟩:=h; exact ⟨cs,h1,h2.mono hS hH⟩
 | false=>exact AI.mono hS hH h
theorem GL.mono {w w':World} {S S':Nat->Prop} (hS:∀ r,S r->S' r) (hH:∀ r,S r->w'.heap[r]? = w.heap[r]?) {a:Bool} {τ:Shape} {x:Aa τ} {y:Value} {rs:List Nat} (hR:∀ r∈rs,w'.heap[r]? = w.heap[r]?) (h:GL w S a τ x y rs):GL w' S' a τ x y rs:=by
 cases τ with
 | slice e =>
  cases a with
  | true =>
   obtain ⟨k,h1,h2,h3⟩:=h
   refine ⟨k,h1,h2,?_⟩
   rcases h3 with h3 | ⟨r,vs,T,h4,rfl,h5,h6,h7⟩
   ·exact .inl h3
   ·exact .inr ⟨r,vs,T,h4,rfl,(hR r (by simp)).trans h5,h6,h7.mono hS hH⟩
  | false=>exact ⟨h.1,h.2.mono hS hH⟩
 | _=>exact ⟨h.1,Dh.mono hS hH h.2⟩
theorem Ch.mono {w w':World} {S S':Nat->Prop} (hS:∀ r,S r->S' r) (hH:∀ r,S r->w'.heap[r]? = w.heap[r]?):∀ {sg:Ac} {x:DenS sg} {ys:List Value} {rs:List Nat},(∀ r∈rs,w'.heap[r]? = w.heap[r]?)->Ch w S sg x ys rs->Ch w' S' sg x ys rs
 | [],_,_,_,_,h=>h
 | (a,τ)::sg,_,_,_,hR,⟨y,ys',r1,r2,h1,h2,h3,h4⟩=>by
  subst h2
  exact ⟨y,ys',r1,r2,h1,rfl,h3.mono hS hH (fun r hr=>hR r (List.mem_append.2 (.inl hr))),h4.mono hS hH (fun r hr=>hR r (List.mem_append.2 (.inr hr)))⟩
variable {base:Base} {S0:Nat->Prop} {σ:Sit}
theorem P8 (ho:Ok base S0 σ) {b:Nat} {τ:Shape} {xs:List (Aa τ)} (he:Ad σ.mem b=.arr τ xs∨Ad σ.mem b=.acc τ xs) {y:Value} (hy:Ap σ (.own b) y) :
  ∃ (σ':Sit) (rs:List Nat),σ'.mem=σ.mem.set b .gone/\σ'.w=σ.w/\σ'.E=σ.E/\σ'.S=σ.S/\Ok base S0 σ'/\Goes σ σ'/\EN σ.w σ.S τ xs y rs/\rs.Nodup/\(∀ r∈rs,(∃ b,σ.owned b r)/\∀ b,¬ σ'.owned b r)/\∀ b r,σ'.owned b r->σ.owned b r:=by
 have hlt:b<σ.mem.length:=C1 (by rcases he with h | h <;> rw [h] <;> simp)
 have hset:∀ b',Ad (σ.mem.set b .gone) b'=if b'=b then .gone else Ad σ.mem b':=fun b'=>BB hlt
 have hold:∀ b' r,Sit.owned ⟨σ.E,σ.mem.set b .gone,σ.w,σ.S⟩ b' r->σ.owned b' r/\b'≠b:=fun b' r ⟨h1,h2⟩=>by
  simp only at h1
  rw [hset] at h1
  split at h1
  ·exact h1.elim
  ·rename_i hne; exact ⟨⟨h1,h2⟩,hne⟩
 have hg:Goes σ ⟨σ.E,σ.mem.set b .gone,σ.w,σ.S⟩:=by
  refine ⟨fun _ h=>h,fun _ _=>rfl,by simp,fun b' hb'=>?_⟩
  by_cases hbb:b'=b
  ·subst hbb
   have hgone:Ad (σ.mem.set b' .gone) b'=.gone:=by rw [hset,if_pos rfl]
   unfold A6
   rcases he with h | h
   ·rw [h]; exact .inr (.inr hgone)
   ·rw [h]; exact .inr (.inr hgone)
  ·exact A6.refl (by simp only; rw [hset,if_neg hbb]) rfl rfl
 have hok:Ok base S0 ⟨σ.E,σ.mem.set b .gone,σ.w,σ.S⟩:=by
  refine ⟨ho.below,ho.stab0,ho.stab,fun b'=>?_,fun b' r h=>ho.own b' r (hold b' r h).1,fun b1 b2 r h1 h2=>ho.inj b1 b2 r (hold b1 r h1).1 (hold b2 r h2).1⟩
  by_cases hbb:b'=b
  ·subst hbb
   unfold AD; simp only; rw [hset,if_pos rfl]; trivial
  ·exact AD.keep hg (by simp only; rw [hset,if_neg hbb]) rfl rfl (fun _ _=>rfl) (ho.ent b')
 have hent:xs.length<=σ.E.κ b/\σ.E.κ b<Br/\((σ.E.β b=none/\σ.E.κ b=0) ∨
   ∃ r vs T,σ.E.β b=some r/\σ.w.heap[r]? = some (.cells vs T (0,0))/\vs.size=σ.E.κ b*τ.width/\Rows σ.w σ.S τ vs 0 xs):=by
  have:=ho.ent b
  unfold AD at this
  rcases he with h | h
  ·rw [h] at this; exact this
  ·rw [h] at this; exact this
 have hyv:y=.slice ((σ.E.β b).map fun r=>⟨r,0,none⟩) xs.length (σ.E.κ b):=by
  obtain ⟨_,_,hm⟩:=hy
  rcases he with h | h
  ·rw [h] at hm; exact hm
  ·rw [h] at hm; exact hm
 obtain ⟨h1,h2,h3⟩:=hent
 rcases h3 with ⟨h4,h5⟩ | ⟨r,vs,T,h4,h5,h6,h7⟩
 ·rw [h4] at hyv
  exact ⟨⟨σ.E,σ.mem.set b .gone,σ.w,σ.S⟩,[],rfl,rfl,rfl,rfl,hok,hg,⟨_,h1,h2,.inl ⟨hyv,h5,rfl⟩⟩,List.nodup_nil,fun r hr=>by simp at hr,fun b' r h=>(hold b' r h).1⟩
 ·rw [h4] at hyv
  have hown:σ.owned b r:=⟨by rcases he with h | h <;> rw [h] <;> trivial,h4⟩
  refine ⟨⟨σ.E,σ.mem.set b .gone,σ.w,σ.S⟩,[r],rfl,rfl,rfl,rfl,hok,hg,⟨_,h1,h2,.inr ⟨r,vs,T,hyv,rfl,h5,h6,h7⟩⟩,by simp,fun r' hr'=>?_,fun b' r h=>(hold b' r h).1⟩
  simp at hr'
  subst hr'
  exact ⟨⟨b,hown⟩,fun b' h=>(hold b' r' h).2 (ho.inj b' b r' (hold b' r' h).1 hown)⟩
theorem aJd (ho:Ok base S0 σ) {a:Bool} {τ:Shape} {z:SV} {y:Value} (hz:AS σ z y) {x:Aa τ} {mem':Ae} (h:GK σ.mem a τ z=some (x,mem')) :
  ∃ (σ':Sit) (rs:List Nat),σ'.mem=mem'/\σ'.w=σ.w/\σ'.E=σ.E/\σ'.S=σ.S/\Ok base S0 σ'/\Goes σ σ'/\GL σ.w σ.S a τ x y rs/\rs.Nodup/\(∀ r∈rs,(∃ b,σ.owned b r)/\∀ b,¬ σ'.owned b r)/\∀ b r,σ'.owned b r->σ.owned b r:=by
 have plain:∀ {a:Bool} {τ:Shape} {x:Aa τ},Ds σ.mem a τ z=some (x,mem')->mem'=σ.mem/\Dh σ.w σ.S a τ x y:=fun {a τ x} h=>by
  unfold Ds at h
  split at h
  ·rename_i c
   cases a with
   | true=>cases h
   | false =>
    simp only [cond_false] at h
    split at h
    ·rename_i u eu
     cases h
     obtain ⟨y1,y2,e,d,r⟩:=JN (All2.cons hz All2.nil) eu
     cases r
     rw [List.append_nil] at e
     exact ⟨rfl,by show AI _ _ _ _ _; rw [e]; exact d⟩
    ·cases h
  ·rename_i cs
   cases a with
   | false=>cases h
   | true =>
    simp only [cond_true] at h
    split at h
    ·rename_i u eu
     cases h
     obtain ⟨zs,e0,ha⟩:=hz
     obtain ⟨y1,y2,e,d,r⟩:=JN ha eu
     cases r
     rw [List.append_nil] at e
     exact ⟨rfl,zs,e0,by rw [e]; exact d⟩
    ·cases h
 have Ck:∀ {rs:List Nat},mem'=σ.mem->rs=[]->GL σ.w σ.S a τ x y rs->∃ (σ':Sit) (rs:List Nat),σ'.mem=mem'/\σ'.w=σ.w/\σ'.E=σ.E/\σ'.S=σ.S/\Ok base S0 σ'/\Goes σ σ'/\GL σ.w σ.S a τ x y rs/\rs.Nodup/\(∀ r∈rs,(∃ b,σ.owned b r)/\∀ b,¬ σ'.owned b r)/\∀ b r,σ'.owned b r->σ.owned b r :=
  fun hm hr he=>⟨σ,_,hm.symm,rfl,rfl,rfl,ho,Goes.refl σ,he,by subst hr; exact List.nodup_nil,fun r h=>by subst hr; simp at h,fun _ _ h=>h⟩
 cases τ with
 | slice e =>
  cases a with
  | false=>obtain ⟨h1,h2⟩:=plain h; exact Ck h1 rfl ⟨rfl,h2⟩
  | true =>
   simp only [GK,cond_true] at h
   split at h
   ·rename_i b
    split at h
    ·rename_i τ' xs eb
     split at h
     ·rename_i xs' ec
      cases h
      obtain ⟨hττ,hxs⟩:=Gw ec
      subst hττ
      simp only at hxs
      subst hxs
      exact P8 ho (.inl eb) hz
     ·cases h
    ·rename_i τ' xs eb
     split at h
     ·rename_i xs' ec
      cases h
      obtain ⟨hττ,hxs⟩:=Gw ec
      subst hττ
      simp only at hxs
      subst hxs
      exact P8 ho (.inr eb) hz
     ·cases h
    ·cases h
   ·cases h
    exact Ck rfl rfl ⟨0,Nat.le_refl _,by decide,.inl ⟨hz.1,rfl,rfl⟩⟩
   ·cases h
 | _=>obtain ⟨h1,h2⟩:=plain h; exact Ck h1 rfl ⟨rfl,h2⟩
theorem T7:∀ {sg:Ac} {σ:Sit} (_:Ok base S0 σ) {args:List SV} {ys:List Value} (_:All2 (AS σ) args ys) {x:DenS sg} {mem':Ae},Cg σ.mem sg args=some (x,mem') ->
  ∃ (σ':Sit) (rs:List Nat),σ'.mem=mem'/\σ'.w=σ.w/\σ'.E=σ.E/\σ'.S=σ.S/\Ok base S0 σ'/\Goes σ σ'/\Ch σ.w σ.S sg x ys rs/\rs.Nodup/\(∀ r∈rs,(∃ b,σ.owned b r)/\∀ b,¬ σ'.owned b r)/\∀ b r,σ'.owned b r->σ.owned b r
 | [],σ,ho,[],_,.nil,x,mem',h=>by
  simp only [Cg] at h; cases h
  exact ⟨σ,[],rfl,rfl,rfl,rfl,ho,Goes.refl σ,⟨rfl,rfl⟩,List.nodup_nil,fun r h=>by simp at h,fun _ _ h=>h⟩
 | [],σ,ho,_::_,_,_,x,mem',h=>by simp [Cg] at h
 | _::_,σ,ho,[],_,_,x,mem',h=>by simp [Cg] at h
 | (a,τ)::sg,σ,ho,z::args,_,.cons (b:=y) (bs:=ys) hz ht,x,mem',h=>by
  simp only [Cg] at h
  split at h
  ·rename_i u m1 e1
   split at h
   ·rename_i v m2 e2
    cases h
    obtain ⟨σ1,r1,a1,a2,a3,a4,a5,a6,a7,a8,a9,a10⟩:=aJd ho hz e1
    rw [← a1] at e2
    obtain ⟨σ2,r2,b1,b2,b3,b4,b5,b6,b7,b8,b9,b10⟩:=T7 a5 (ht.mono fun _ _=>a6.repV) e2
    rw [a2,a4] at b7
    refine ⟨σ2,r1++r2,b1,b2.trans a2,b3.trans a3,b4.trans a4,b5,a6.trans b6,⟨y,ys,r1,r2,rfl,rfl,a7,b7⟩,?_,fun r hr=>?_,fun b r h=>a10 b r (b10 b r h)⟩
    ·refine List.nodup_append.2 ⟨a8,b8,fun r h1 r' h2 e=>?_⟩
     subst e
     obtain ⟨b,hb⟩:=(b9 r h2).1
     exact (a9 r h1).2 b hb
    ·rcases List.mem_append.1 hr with hr | hr
     ·exact ⟨(a9 r hr).1,fun b h=>(a9 r hr).2 b (b10 b r h)⟩
     ·obtain ⟨⟨b,hb⟩,h2⟩:=b9 r hr
      exact ⟨⟨b,a10 b r hb⟩,h2⟩
   ·cases h
  ·cases h
theorem NS:∀ {sg:Ac} {σ:Sit} (_:Ok base S0 σ) {args args':List SV} {mem':Ae},AY σ.mem sg args=(args',mem') ->
  ∃ σ':Sit,σ'.mem=mem'/\σ'.w=σ.w/\σ'.E=σ.E/\Ok base S0 σ'/\Goes σ σ'/\∀ ys,All2 (AS σ) args ys->All2 (AS σ') args' ys
 | [],σ,ho,args,args',mem',h=>by
  simp only [AY] at h; cases h
  exact ⟨σ,rfl,rfl,rfl,ho,Goes.refl σ,fun _ h=>h⟩
 | _::_,σ,ho,[],args',mem',h=>by
  simp only [AY] at h; cases h
  exact ⟨σ,rfl,rfl,rfl,ho,Goes.refl σ,fun _ h=>h⟩
 | (a,τ)::sg,σ,ho,z::args,args',mem',h=>by
  simp only [AY] at h
  cases hb:HT a τ with
  | true =>
   rw [hb] at h
   simp only [cond_true] at h
   cases e:AY σ.mem sg args with
   | mk r' m' =>
    rw [e] at h; simp only at h; cases h
    obtain ⟨σ1,a1,a2,a3,a4,a5,a6⟩:=NS ho e
    exact ⟨σ1,a1,a2,a3,a4,a5,fun ys hy=>by
     cases hy with
     | cons h1 h2=>exact .cons (a5.repV h1) (a6 _ h2)⟩
  | false =>
   rw [hb] at h
   simp only [cond_false] at h
   cases e1:Ex σ.mem z with
   | mk z' m1 =>
    rw [e1] at h; simp only at h
    obtain ⟨σ1,a1,a2,a3,a4,a5,a6⟩:=qD ho e1
    cases e2:AY m1 sg args with
    | mk r' m' =>
     rw [e2] at h; simp only at h; cases h
     rw [← a1] at e2
     obtain ⟨σ2,b1,b2,b3,b4,b5,b6⟩:=NS a4 e2
     refine ⟨σ2,b1,b2.trans a2,b3.trans a3,b4,a5.trans b5,fun ys hy=>?_⟩
     cases hy with
     | cons h1 h2=>exact .cons (b5.repV (a6 _ h1)) (b6 _ (h2.mono fun _ _=>a5.repV))
def D7 (base:Base) (σ:Sit) (r:Nat):Prop:=base.new r/\r<σ.w.heap.size/\¬ σ.S r/\∀ b,¬ σ.owned b r
theorem rC (ho:Ok base S0 σ) {τ:Shape} {xs:List (Aa τ)} {y:Value} {rs:List Nat} (h:EN σ.w σ.S τ xs y rs) (hl:∀ r∈rs,D7 base σ r) :
  ∃ σ':Sit,σ'.mem=σ.mem++[.arr τ xs]/\σ'.w=σ.w/\σ'.S=σ.S/\Ok base S0 σ'/\Goes σ σ'/\Ap σ' (.own σ.mem.length) y/\∀ b r,σ'.owned b r->σ.owned b r∨r∈rs:=by
 obtain ⟨k,h1,h2,h3⟩:=h
 have main:∀ (A:Option Nat),y=.slice (A.map fun r=>⟨r,0,none⟩) xs.length k->(∀ r,A=some r->r∈rs)->((A=none/\k=0)∨∃ r vs T,A=some r/\σ.w.heap[r]? = some (.cells vs T (0,0))/\vs.size=k*τ.width/\Rows σ.w σ.S τ vs 0 xs) ->
   ∃ σ':Sit,σ'.mem=σ.mem++[.arr τ xs]/\σ'.w=σ.w/\σ'.S=σ.S/\Ok base S0 σ'/\Goes σ σ'/\Ap σ' (.own σ.mem.length) y/\∀ b r,σ'.owned b r->σ.owned b r∨r∈rs:=fun A hy hA hc=>by
  let σ':Sit:={ E:=⟨AB σ.E.β σ.mem.length A,AB σ.E.κ σ.mem.length k⟩,mem:=σ.mem++[.arr τ xs],w:=σ.w,S:=σ.S }
  have hblk:Ad σ'.mem σ.mem.length=.arr τ xs:=Jp
  have hold:∀ b r,b≠σ.mem.length->σ'.owned b r->σ.owned b r:=fun b r hne ⟨g1,g2⟩=>by
   rcases Nat.lt_or_ge b σ.mem.length with hb | hb
   ·simp only [σ'] at g1 g2
    rw [Fx hb] at g1
    exact ⟨g1,by simpa [AB,hne] using g2⟩
   ·simp only [σ'] at g1
    rw [MG (by omega)] at g1
    exact g1.elim
  have hnew:∀ r,σ'.owned σ.mem.length r->A=some r:=fun r ⟨_,g2⟩=>by simpa [σ',AB] using g2
  have hg:Goes σ σ':=⟨fun _ h=>h,fun _ _=>rfl,by simp [σ'],fun b hb=>A6.refl (Fx hb) (by simp [σ',AB]; omega) (by simp [σ',AB]; omega)⟩
  refine ⟨σ',rfl,rfl,rfl,⟨ho.below,ho.stab0,ho.stab,fun b=>?_,fun b r h=>?_,fun b b' r h h'=>?_⟩,hg,⟨by simp [σ'],by rw [hy]; trivial,?_⟩,fun b r h=>?_⟩
  ·by_cases hb:b=σ.mem.length
   ·subst hb
    unfold AD
    rw [hblk]
    refine ⟨by simpa [σ',AB] using h1,by simpa [σ',AB] using h2,?_⟩
    rcases hc with ⟨g1,g2⟩ | ⟨r,vs,T,g1,g2,g3,g4⟩
    ·exact .inl ⟨by simp [σ',AB,g1],by simp [σ',AB,g2]⟩
    ·exact .inr ⟨r,vs,T,by simp [σ',AB,g1],g2,by simpa [σ',AB] using g3,g4⟩
   ·rcases Nat.lt_or_ge b σ.mem.length with h' | h'
    ·exact AD.keep hg (Fx h') (by simp [σ',AB,hb]) (by simp [σ',AB,hb]) (fun _ _=>rfl) (ho.ent b)
    ·unfold AD; simp only [σ']; rw [MG (by omega)]; trivial
  ·by_cases hb:b=σ.mem.length
   ·subst hb
    have:=hl r (hA r (hnew r h))
    exact ⟨this.1,this.2.1,this.2.2.1⟩
   ·exact ho.own b r (hold b r hb h)
  ·by_cases hb:b=σ.mem.length <;> by_cases hb':b'=σ.mem.length
   ·rw [hb,hb']
   ·subst hb
    exact ((hl r (hA r (hnew r h))).2.2.2 b' (hold b' r hb' h')).elim
   ·subst hb'
    exact ((hl r (hA r (hnew r h'))).2.2.2 b (hold b r hb h)).elim
   ·exact ho.inj b b' r (hold b r hb h) (hold b' r hb' h')
  ·rw [hblk]
   simp only [σ',AB,if_true]
   exact hy
  ·by_cases hb:b=σ.mem.length
   ·subst hb; exact .inr (hA r (hnew r h))
   ·exact .inl (hold b r hb h)
 rcases h3 with ⟨g1,g2,g3⟩ | ⟨r,vs,T,g1,g2,g3,g4,g5⟩
 ·exact main none g1 (fun r h=>by cases h) (.inl ⟨rfl,g2⟩)
 ·subst g2
  exact main (some r) g1 (fun r' h=>by cases h; simp) (.inr ⟨r,vs,T,rfl,g3,g4,g5⟩)
theorem aDK (ho:Ok base S0 σ) {a:Bool} {τ:Shape} {x:Aa τ} {y:Value} {rs:List Nat} (h:GL σ.w σ.S a τ x y rs) (hl:∀ r∈rs,D7 base σ r) {v:SV} {mem':Ae} (hg:C2 σ.mem a τ x=some (v,mem')) :
  ∃ σ':Sit,σ'.mem=mem'/\σ'.w=σ.w/\σ'.S=σ.S/\Ok base S0 σ'/\Goes σ σ'/\AS σ' v y/\∀ b r,σ'.owned b r->σ.owned b r∨r∈rs:=by
 have plain:∀ {a:Bool} {τ:Shape} {x:Aa τ},Dh σ.w σ.S a τ x y->C2.giveP σ.mem a τ x=some (v,mem')->∃ σ':Sit,σ'.mem=mem'/\σ'.w=σ.w/\σ'.S=σ.S/\Ok base S0 σ'/\Goes σ σ'/\AS σ' v y/\∀ b r,σ'.owned b r->σ.owned b r∨r∈rs:=fun {a τ x} hp e=>by
  unfold C2.giveP at e
  cases a with
  | true =>
   simp only [cond_true,Option.some.injEq] at e
   cases e
   obtain ⟨cs,h4,h5⟩:=hp
   exact ⟨σ,rfl,rfl,rfl,ho,Goes.refl σ,⟨cs,h4,Jt h5⟩,fun _ _ h=>.inl h⟩
  | false =>
   simp only [cond_false] at e
   split at e
   ·rename_i c ec
    cases e
    have:=Jt (σ:=σ) hp
    rw [ec] at this
    cases this with
    | cons h _=>exact ⟨σ,rfl,rfl,rfl,ho,Goes.refl σ,h,fun _ _ h=>.inl h⟩
   ·cases e
 cases τ with
 | slice e =>
  cases a with
  | true =>
   simp only [C2,cond_true,Option.some.injEq] at hg
   cases hg
   exact rC ho h hl
  | false=>exact plain h.2 hg
 | _=>exact plain h.2 hg
theorem Ti:∀ {sg:Ac} {σ:Sit} (_:Ok base S0 σ) {x:DenS sg} {ys:List Value} {rs:List Nat} (_:Ch σ.w σ.S sg x ys rs) (_:rs.Nodup) (_:∀ r∈rs,D7 base σ r) {vs:List SV} {mem':Ae},Cb σ.mem sg x=some (vs,mem') ->
  ∃ σ':Sit,σ'.mem=mem'/\σ'.w=σ.w/\σ'.S=σ.S/\Ok base S0 σ'/\Goes σ σ'/\All2 (AS σ') vs ys
 | [],σ,ho,x,ys,rs,h,_,_,vs,mem',e=>by
  simp only [Cb] at e; cases e
  obtain ⟨rfl,_⟩:=h
  exact ⟨σ,rfl,rfl,rfl,ho,Goes.refl σ,.nil⟩
 | (a,τ)::sg,σ,ho,x,ys,rs,h,hn,hl,vs,mem',e=>by
  simp only [Cb] at e
  obtain ⟨y,ys',r1,r2,rfl,rfl,h1,h2⟩:=h
  split at e
  ·rename_i v m1 e1
   split at e
   ·rename_i r m2 e2
    cases e
    obtain ⟨n1,n2,n3⟩:=List.nodup_append.1 hn
    obtain ⟨σ1,a1,a2,a3,a4,a5,a6,a7⟩:=aDK ho h1 (fun r hr=>hl r (List.mem_append.2 (.inl hr))) e1
    rw [← a1] at e2
    rw [← a2,← a3] at h2
    obtain ⟨σ2,b1,b2,b3,b4,b5,b6⟩:=Ti a4 h2 n2 (fun r hr=>by
     obtain ⟨l1,l2,l3,l4⟩:=hl r (List.mem_append.2 (.inr hr))
     refine ⟨l1,by rw [a2]; exact l2,by rw [a3]; exact l3,fun b hb=>?_⟩
     rcases a7 b r hb with g | g
     ·exact l4 b g
     ·exact n3 r g r hr rfl) e2
    exact ⟨σ2,b1,b2.trans a2,b3.trans a3,b4,a5.trans b5,.cons (b5.repV a6) b6⟩
   ·cases e
  ·cases e
theorem aJb (ho:Ok base S0 σ) {a:Bool} {τ:Shape} {z:SV} {x:Aa τ} {mem':Ae} (h:GK σ.mem a τ z=some (x,mem')) :
  ∃ σ':Sit,σ'.mem=mem'/\σ'.w=σ.w/\Ok base S0 σ'/\Goes σ σ'/\mem'.length=σ.mem.length:=by
 have plain:∀ {a:Bool} {τ:Shape} {x:Aa τ},Ds σ.mem a τ z=some (x,mem')->mem'=σ.mem:=fun {a τ x} h=>by
  unfold Ds at h
  cases z <;> cases a <;> simp only [cond_true,cond_false] at h <;> first | (cases h; done) | skip
  ·split at h
   ·cases h; rfl
   ·cases h
  ·split at h
   ·cases h; rfl
   ·cases h
 have same:mem'=σ.mem->∃ σ':Sit,σ'.mem=mem'/\σ'.w=σ.w/\Ok base S0 σ'/\Goes σ σ'/\mem'.length=σ.mem.length:=fun e=>⟨σ,e.symm,rfl,ho,Goes.refl σ,by rw [e]⟩
 have gone:∀ {b:Nat} {τ:Shape} {xs:List (Aa τ)},Ad σ.mem b=.arr τ xs∨Ad σ.mem b=.acc τ xs->mem'=σ.mem.set b .gone->∃ σ':Sit,σ'.mem=mem'/\σ'.w=σ.w/\Ok base S0 σ'/\Goes σ σ'/\mem'.length=σ.mem.length:=fun {b τ xs} he e=>by
  have hy:Ap σ (.own b) (.slice ((σ.E.β b).map fun r=>⟨r,0,none⟩) xs.length (σ.E.κ b)):=by
   refine ⟨C1 (by rcases he with h | h <;> rw [h] <;> simp),trivial,?_⟩
   rcases he with h | h
   ·rw [h]
   ·rw [h]
  obtain ⟨σ',rs,a1,a2,a3,a4,a5,a6,_⟩:=P8 ho he hy
  exact ⟨σ',a1.trans e.symm,a2,a5,a6,by rw [e]; simp⟩
 cases τ with
 | slice e =>
  cases a with
  | false=>exact same (plain h)
  | true =>
   simp only [GK,cond_true] at h
   split at h
   ·split at h
    ·rename_i eb
     split at h
     ·cases h; exact gone (.inl eb) rfl
     ·cases h
    ·rename_i eb
     split at h
     ·cases h; exact gone (.inr eb) rfl
     ·cases h
    ·cases h
   ·cases h; exact same rfl
   ·cases h
 | _=>exact same (plain h)
theorem w9:∀ {sg:Ac} {σ:Sit} (_:Ok base S0 σ) {args:List SV} {x:DenS sg} {mem':Ae},Cg σ.mem sg args=some (x,mem')->∃ σ':Sit,σ'.mem=mem'/\σ'.w=σ.w/\Ok base S0 σ'/\Goes σ σ'/\mem'.length=σ.mem.length
 | [],σ,ho,[],x,mem',h=>by simp only [Cg] at h; cases h; exact ⟨σ,rfl,rfl,ho,Goes.refl σ,rfl⟩
 | [],σ,ho,_::_,x,mem',h=>by simp [Cg] at h
 | _::_,σ,ho,[],x,mem',h=>by simp [Cg] at h
 | (a,τ)::sg,σ,ho,z::args,x,mem',h=>by
  simp only [Cg] at h
  split at h
  ·rename_i u m1 e1
   split at h
   ·rename_i v m2 e2
    cases h
    obtain ⟨σ1,a1,a2,a3,a4,a5⟩:=aJb ho e1
    rw [← a1] at e2
    obtain ⟨σ2,b1,b2,b3,b4,b5⟩:=w9 a3 e2
    exact ⟨σ2,b1,b2.trans a2,b3,a4.trans b4,by rw [b5,a1,a5]⟩
   ·cases h
  ·cases h
theorem oB:∀ {l:List (Nat×Nat)} {mem m:Ae} {ns:List Nat},Gv mem l=some (ns,m)->m.length=mem.length
 | [],mem,m,ns,h=>by simp only [Gv] at h; cases h; rfl
 | (b,off+1)::l,mem,m,ns,h=>by simp [Gv] at h
 | (b,0)::l,mem,m,ns,h=>by
  simp only [Gv] at h
  split at h
  ·split at h
   ·rename_i e2
    cases h
    rw [oB e2]
    simp
   ·cases h
  ·cases h
theorem aCX:∀ {sg:Ac} {mem:Ae} {args args':List SV} {mem':Ae},AY mem sg args=(args',mem')->mem'.length=mem.length:=by
 have h1:∀ (mem:Ae) (c:SC),(CM mem c).2.length=mem.length:=fun mem c=>by
  unfold CM
  split
  ·split
   ·rename_i e; exact oB e
   ·rfl
  ·split <;> simp
  ·rfl
 have h2:∀ (l:List SC) (mem:Ae),(DZ mem l).2.length=mem.length:=fun l=>by
  induction l with
  | nil=>intro mem; rfl
  | cons c r ih=>intro mem; simp only [DZ]; rw [ih,h1]
 have h3:∀ (mem:Ae) (z:SV),(Ex mem z).2.length=mem.length:=fun mem z=>by
  cases z with
  | one c=>simp only [Ex]; exact h1 mem c
  | agg cs=>simp only [Ex]; exact h2 cs mem
 intro sg
 induction sg with
 | nil=>intro mem args args' mem' h; simp only [AY] at h; cases h; rfl
 | cons p sg ih =>
  intro mem args args' mem' h
  obtain ⟨a,τ⟩:=p
  cases args with
  | nil=>simp only [AY] at h; cases h; rfl
  | cons z r =>
   simp only [AY] at h
   cases hb:HT a τ with
   | true =>
    rw [hb] at h
    simp only [cond_true] at h
    cases e:AY mem sg r with
    | mk r' m'=>rw [e] at h; simp only at h; cases h; exact ih e
   | false =>
    rw [hb] at h
    simp only [cond_false] at h
    cases e:AY (Ex mem z).2 sg r with
    | mk r' m'=>rw [e] at h; simp only at h; cases h; rw [ih e,h3]
theorem cU:∀ {sg:Ac} {mem:Ae} {x:DenS sg} {vs:List SV} {mem':Ae},Cb mem sg x=some (vs,mem')->∃ l,mem'=mem++l
 | [],mem,x,vs,mem',h=>by simp only [Cb] at h; cases h; exact ⟨[],by simp⟩
 | (a,τ)::sg,mem,x,vs,mem',h=>by
  simp only [Cb] at h
  split at h
  ·rename_i v m1 e1
   split at h
   ·rename_i r m2 e2
    cases h
    obtain ⟨l2,h2⟩:=cU e2
    have plain:∀ {τ:Shape} {y:Aa τ},C2.giveP mem a τ y=some (v,m1)->m1=mem:=fun {τ y} h=>by
     unfold C2.giveP at h
     cases a with
     | true=>simp only [cond_true] at h; cases h; rfl
     | false =>
      simp only [cond_false] at h
      split at h
      ·cases h; rfl
      ·cases h
    have h1:∃ l,m1=mem++l:=by
     cases τ with
     | slice e =>
      simp only [C2] at e1
      cases a with
      | true=>simp only [cond_true] at e1; cases e1; exact ⟨_,rfl⟩
      | false =>
       simp only [cond_false] at e1
       split at e1
       ·cases e1; exact ⟨[],by simp⟩
       ·cases e1
     | _=>exact ⟨[],by rw [List.append_nil]; exact plain e1⟩
    obtain ⟨l1,h1⟩:=h1
    exact ⟨l1++l2,by rw [h2,h1,List.append_assoc]⟩
   ·cases h
  ·cases h
theorem rE {sg:Ac} {mem:Ae} {x:DenS sg} {vs:List SV} {mem':Ae} (h:Cb mem sg x=some (vs,mem')) (hl:mem'.length=mem.length):mem'=mem:=by
 obtain ⟨l,rfl⟩:=cU h
 have:l=[]:=List.eq_nil_of_length_eq_zero (by rw [List.length_append] at hl; omega)
 rw [this,List.append_nil]
end Vx
namespace Vx
open Go Go.RowKit
def Nh (w:World) (S:Nat->Prop):(k:LK)->k.D->Value->Value->List Nat->Prop
 | .win e,x,y,y0,rs=>EN w S e x.1 y0 rs/\x.2.1+x.2.2<=x.1.length/\∃ A c,y=.slice A x.2.2 c/\x.2.2<=c/\c<Br /\
   (0<x.2.2->∃ r k,y0=.slice (some ⟨r,0,none⟩) x.1.length k/\A=some ⟨r,x.2.1*e.width,none⟩)
 | .ref τ,x,y,y0,rs=>y0=y/\∃ r vs T,y=.pointer (some ⟨r,0,none⟩)/\rs=[r]/\w.heap[r]? = some (.cells vs T (0,0))/\AI w S τ x vs.toList
def HZ (w:World) (S:Nat->Prop):(k:LK)->k.B->Value->List Nat->Prop
 | .win e,xs,y0,rs=>EN w S e xs y0 rs
 | .ref τ,x,y0,rs=>∃ r vs T,y0=.pointer (some ⟨r,0,none⟩)/\rs=[r]/\w.heap[r]? = some (.cells vs T (0,0))/\AI w S τ x vs.toList
theorem EN.mono {w w':World} {S S':Nat->Prop} (hS:∀ r,S r->S' r) (hH:∀ r,S r->w'.heap[r]? = w.heap[r]?) {e:Shape} {xs:List (Aa e)} {y:Value} {rs:List Nat} (hR:∀ r∈rs,w'.heap[r]? = w.heap[r]?) (h:EN w S e xs y rs):EN w' S' e xs y rs:=by
 obtain ⟨k,h1,h2,h3⟩:=h
 refine ⟨k,h1,h2,?_⟩
 rcases h3 with h3 | ⟨r,vs,T,h4,rfl,h5,h6,h7⟩
 ·exact .inl h3
 ·exact .inr ⟨r,vs,T,h4,rfl,(hR r (by simp)).trans h5,h6,h7.mono hS hH⟩
theorem Nh.mono {w w':World} {S S':Nat->Prop} (hS:∀ r,S r->S' r) (hH:∀ r,S r->w'.heap[r]? = w.heap[r]?) {k:LK} {x:k.D} {y y0:Value} {rs:List Nat} (hR:∀ r∈rs,w'.heap[r]? = w.heap[r]?) (h:Nh w S k x y y0 rs):Nh w' S' k x y y0 rs:=by
 cases k with
 | win e=>exact ⟨h.1.mono hS hH hR,h.2⟩
 | ref τ =>
  obtain ⟨h1,r,vs,T,h2,rfl,h3,h4⟩:=h
  exact ⟨h1,r,vs,T,h2,rfl,(hR r (by simp)).trans h3,h4.mono hS hH⟩
theorem HZ.mono {w:World} {S S':Nat->Prop} (hS:∀ r,S r->S' r) {k:LK} {x:k.B} {y0:Value} {rs:List Nat} (h:HZ w S k x y0 rs):HZ w S' k x y0 rs:=by
 cases k with
 | win e=>exact EN.mono hS (fun _ _=>rfl) (fun _ _=>rfl) h
 | ref τ =>
  obtain ⟨r,vs,T,h2,h2',h3,h4⟩:=h
  exact ⟨r,vs,T,h2,h2',h3,h4.mono hS (fun _ _=>rfl)⟩
def jV (σ:Sit) (k:LK) (b:Nat) (y0:Value):Prop :=
 b<σ.mem.length/\match k with
  | .win e=>∃ xs:List (Aa e),Ad σ.mem b=.arr e xs/\y0=.slice ((σ.E.β b).map fun r=>⟨r,0,none⟩) xs.length (σ.E.κ b)
  | .ref _=>∃ cs r,Ad σ.mem b=.raw cs/\σ.E.β b=some r/\y0=.pointer (some ⟨r,0,none⟩)
variable {base:Base} {S0:Nat->Prop} {σ:Sit}
theorem nF {α β:Type} {R R':α->β->Prop}:∀ {as:List α} {bs:List β},All2 R as bs->(∀ a b,a∈as->R a b->R' a b)->All2 R' as bs
 | _,_,.nil,_=>.nil
 | _,_,.cons h t,hR=>.cons (hR _ _ (by simp) h) (nF t fun a b ha=>hR a b (by simp [ha]))
theorem A6.same {σ σ' σ'':Sit} {b:Nat} (h:A6 σ σ' b) (hm:Ad σ''.mem b=Ad σ'.mem b) (hβ:σ''.E.β b=σ'.E.β b) (hκ:σ''.E.κ b=σ'.E.κ b) (hw:σ''.w=σ'.w) (hS:σ''.S=σ'.S):A6 σ σ'' b:=by
 unfold A6 at h ⊢
 cases e:Ad σ.mem b with
 | gone=>rw [e] at h; simp only at h ⊢; rw [hm]; exact h
 | raw cs=>rw [e] at h; simp only at h ⊢; rw [hm,hβ]; exact h
 | arr τ xs=>rw [e] at h; simp only at h ⊢; rw [hm,hβ,hκ,hw,hS]; exact h
 | acc τ xs=>rw [e] at h; simp only at h ⊢; rw [hm,hβ,hκ,hw,hS]; exact h
 | froz τ xs=>rw [e] at h; simp only at h ⊢; rw [hm]; exact h
theorem aD2 (ho:Ok base S0 σ) {b:Nat} {cs:List SC} (he:Ad σ.mem b=.raw cs) :
  ∃ σ':Sit,σ'.mem=σ.mem.set b .gone/\σ'.w=σ.w/\σ'.E=σ.E/\σ'.S=σ.S/\Ok base S0 σ'/\Goes σ σ'/\(∀ r,σ.E.β b=some r->∀ b,¬ σ'.owned b r)/\∀ b r,σ'.owned b r->σ.owned b r:=by
 have hlt:b<σ.mem.length:=C1 (by rw [he]; simp)
 have hset:∀ b',Ad (σ.mem.set b .gone) b'=if b'=b then .gone else Ad σ.mem b':=fun b'=>BB hlt
 have hold:∀ b' r,Sit.owned ⟨σ.E,σ.mem.set b .gone,σ.w,σ.S⟩ b' r->σ.owned b' r/\b'≠b:=fun b' r ⟨h1,h2⟩=>by
  simp only at h1
  rw [hset] at h1
  split at h1
  ·exact h1.elim
  ·rename_i hne; exact ⟨⟨h1,h2⟩,hne⟩
 have hg:Goes σ ⟨σ.E,σ.mem.set b .gone,σ.w,σ.S⟩:=by
  refine ⟨fun _ h=>h,fun _ _=>rfl,by simp,fun b' hb'=>?_⟩
  by_cases hbb:b'=b
  ·subst hbb
   unfold A6
   rw [he]
   exact .inr (by rw [hset,if_pos rfl])
  ·exact A6.refl (by simp only; rw [hset,if_neg hbb]) rfl rfl
 refine ⟨⟨σ.E,σ.mem.set b .gone,σ.w,σ.S⟩,rfl,rfl,rfl,rfl,?_,hg,fun r hr b' h=>?_,fun b' r h=>(hold b' r h).1⟩
 ·refine ⟨ho.below,ho.stab0,ho.stab,fun b'=>?_,fun b' r h=>ho.own b' r (hold b' r h).1,fun b1 b2 r h1 h2=>ho.inj b1 b2 r (hold b1 r h1).1 (hold b2 r h2).1⟩
  by_cases hbb:b'=b
  ·subst hbb
   unfold AD; simp only; rw [hset,if_pos rfl]; trivial
  ·exact AD.keep hg (by simp only; rw [hset,if_neg hbb]) rfl rfl (fun _ _=>rfl) (ho.ent b')
 ·exact (hold b' r h).2 (ho.inj b' b r (hold b' r h).1 ⟨by rw [he]; trivial,hr⟩)
theorem uX (ho:Ok base S0 σ) (k:LK) (z:SV):∃ σ':Sit,σ'.mem=M0 σ.mem k z/\σ'.w=σ.w/\σ'.E=σ.E/\Ok base S0 σ'/\Goes σ σ':=by
 have same:∃ σ':Sit,σ'.mem=σ.mem/\σ'.w=σ.w/\σ'.E=σ.E/\Ok base S0 σ'/\Goes σ σ':=⟨σ,rfl,rfl,rfl,ho,Goes.refl σ⟩
 cases k with
 | win e=>exact same
 | ref τ =>
  simp only [M0]
  split
  ·rename_i b
   split
   ·rename_i cs eb
    cases hf:DZ σ.mem cs with
    | mk cs' m1 =>
     simp only
     obtain ⟨σ1,a1,a2,a3,a4,a5,a6⟩:=Ta ho hf
     have hlt:b<σ.mem.length:=C1 (by rw [eb]; simp)
     split
     case h_2=>exact same
     rename_i cs1 hraw
     rw [← a1] at hraw
     have hlt1:b<σ1.mem.length:=C1 (by rw [hraw]; simp)
     have he:=ho.ent b
     unfold AD at he
     rw [eb] at he
     obtain ⟨r,vs,T,h1,h2,h3⟩:=he
     have hset:∀ b',Ad (σ1.mem.set b (.raw cs')) b'=if b'=b then .raw cs' else Ad σ1.mem b':=fun b'=>BB hlt1
     have hg:Goes σ1 ⟨σ1.E,σ1.mem.set b (.raw cs'),σ1.w,σ1.S⟩:=by
      refine ⟨fun _ h=>h,fun _ _=>rfl,by simp,fun b' hb'=>?_⟩
      by_cases hbb:b'=b
      ·subst hbb
       unfold A6
       rw [hraw]
       exact .inl ⟨rfl,cs',by rw [hset,if_pos rfl]⟩
      ·exact A6.refl (by simp only; rw [hset,if_neg hbb]) rfl rfl
     have hold:∀ b' r,Sit.owned ⟨σ1.E,σ1.mem.set b (.raw cs'),σ1.w,σ1.S⟩ b' r->σ1.owned b' r:=fun b' r ⟨g1,g2⟩=>by
      simp only at g1
      rw [hset] at g1
      split at g1
      ·rename_i hbb; exact ⟨by rw [hbb,hraw]; trivial,g2⟩
      ·exact ⟨g1,g2⟩
     refine ⟨⟨σ1.E,σ1.mem.set b (.raw cs'),σ1.w,σ1.S⟩,by rw [a1],a2,a3,⟨a4.below,a4.stab0,a4.stab,fun b'=>?_,fun b' r h=>a4.own b' r (hold b' r h),fun b1 b2 r h1 h2=>a4.inj b1 b2 r (hold b1 r h1) (hold b2 r h2)⟩,a5.trans hg⟩
     by_cases hbb:b'=b
     ·subst hbb
      unfold AD
      simp only
      rw [hset,if_pos rfl]
      exact ⟨r,vs,T,by rw [a3]; exact h1,by rw [a2]; exact h2,(a6 _ h3).mono fun _ _=>hg.repC⟩
     ·exact AD.keep hg (by simp only; rw [hset,if_neg hbb]) rfl rfl (fun _ _=>rfl) (a4.ent b')
   ·exact same
  ·exact same
theorem aD0 (ho:Ok base S0 σ) {k:LK} {z:SV} {y:Value} (hz:AS σ z y) {b:Nat} {x:k.D} {mem':Ae} (h:Tt σ.mem k z=some (b,x,mem')) :
  ∃ (σ':Sit) (rs:List Nat) (y0:Value),σ'.mem=mem'/\σ'.w=σ.w/\σ'.S=σ.S/\Ok base S0 σ'/\Goes σ σ'/\Nh σ'.w σ'.S k x y y0 rs/\rs.Nodup/\(∀ r∈rs,D7 base σ' r)/\jV σ k b y0/\Ad σ'.mem b=.gone/\(∀ r∈rs,∃ b,σ.owned b r)/\∀ b r,σ'.owned b r->σ.owned b r:=by
 have row:∀ {τ:Shape} {xs:List (Aa τ)} {b:Nat},Ad σ.mem b=.arr τ xs ->
   ∃ (σ':Sit) (rs:List Nat),σ'.mem=σ.mem.set b .gone/\σ'.w=σ.w/\σ'.S=σ.S/\Ok base S0 σ'/\Goes σ σ'/\EN σ'.w σ'.S τ xs (.slice ((σ.E.β b).map fun r=>⟨r,0,none⟩) xs.length (σ.E.κ b)) rs/\rs.Nodup/\(∀ r∈rs,D7 base σ' r)/\Ad σ'.mem b=.gone/\(∀ r∈rs,∃ b,σ.owned b r)/\∀ b r,σ'.owned b r->σ.owned b r:=fun {τ xs b} eb=>by
  have hlt:b<σ.mem.length:=C1 (by rw [eb]; simp)
  obtain ⟨σ',rs,a1,a2,a3,a4,a5,a6,a7,a8,a9,a10⟩:=P8 ho (.inl eb) (y:=.slice ((σ.E.β b).map fun r=>⟨r,0,none⟩) xs.length (σ.E.κ b)) ⟨hlt,trivial,by rw [eb]⟩
  refine ⟨σ',rs,a1,a2,a4,a5,a6,by rw [a2,a4]; exact a7,a8,fun r hr=>?_,by rw [a1,BB hlt,if_pos rfl],fun r hr=>(a9 r hr).1,a10⟩
  obtain ⟨⟨b',hb'⟩,hn⟩:=a9 r hr
  have:=ho.own b' r hb'
  exact ⟨this.1,by rw [a2]; exact this.2.1,by rw [a4]; exact this.2.2,hn⟩
 cases k with
 | win e =>
  simp only [Tt] at h
  split at h
  ·rename_i b' lo len
   split at h
   ·rename_i τ xs eb
    split at h
    ·rename_i xs' ec
     simp only [Option.some.injEq,Prod.mk.injEq] at h
     obtain ⟨rfl,rfl,rfl⟩:=h
     obtain ⟨hττ,hxs⟩:=Gw ec
     subst hττ
     simp only at hxs
     subst hxs
     obtain ⟨σ',rs,a1,a2,a2',a3,a4,a5,a6,a7,a8,a9,a10⟩:=row eb
     obtain ⟨hlt,_,hm⟩:=hz
     rw [eb] at hm
     obtain ⟨q1,A,c,hy,q2,q3,q4⟩:=hm
     refine ⟨σ',rs,_,a1,a2,a2',a3,a4,⟨a5,q1,A,c,hy,q2,q3,fun hn=>?_⟩,a6,a7,⟨hlt,_,eb,rfl⟩,a8,a9,a10⟩
     obtain ⟨r,hr,hA⟩:=q4 hn
     exact ⟨r,_,by rw [hr]; rfl,hA⟩
    ·cases h
   ·cases h
  ·rename_i b'
   split at h
   ·rename_i τ xs eb
    split at h
    ·rename_i xs' ec
     simp only [Option.some.injEq,Prod.mk.injEq] at h
     obtain ⟨rfl,rfl,rfl⟩:=h
     obtain ⟨hττ,hxs⟩:=Gw ec
     subst hττ
     simp only at hxs
     subst hxs
     obtain ⟨σ',rs,a1,a2,a2',a3,a4,a5,a6,a7,a8,a9,a10⟩:=row eb
     obtain ⟨hlt,_,hm⟩:=hz
     rw [eb] at hm
     have he:=ho.ent b'
     unfold AD at he
     rw [eb] at he
     obtain ⟨q1,q2,_⟩:=he
     refine ⟨σ',rs,_,a1,a2,a2',a3,a4,⟨a5,by simp,_,_,hm,q1,q2,fun hn=>?_⟩,a6,a7,⟨hlt,_,eb,rfl⟩,a8,a9,a10⟩
     obtain ⟨r,hβ⟩:=aH (ho.ent b') eb hn
     exact ⟨r,_,by rw [hβ]; rfl,by rw [hβ]; simp⟩
    ·cases h
   ·cases h
  ·cases h
 | ref τ =>
  simp only [Tt] at h
  split at h
  ·rename_i b'
   split at h
   ·rename_i cs eb
    split at h
    ·rename_i x' ep
     simp only [Option.some.injEq,Prod.mk.injEq] at h
     obtain ⟨rfl,rfl,rfl⟩:=h
     obtain ⟨hlt,_,hm⟩:=hz
     rw [eb] at hm
     obtain ⟨r,hβ,hy⟩:=hm
     have he:=ho.ent b'
     unfold AD at he
     rw [eb] at he
     obtain ⟨r',vs,T,h1,h2,h3⟩:=he
     rw [hβ] at h1; cases h1
     obtain ⟨y1,y2,hyy,p1,p2⟩:=JN h3 ep
     cases p2
     rw [List.append_nil] at hyy
     obtain ⟨σ2,b1,b2,b3,b4,b5,b6,b7,b8⟩:=aD2 ho eb
     have hown:=ho.own b' r ⟨by rw [eb]; trivial,hβ⟩
     refine ⟨σ2,[r],_,b1,b2,b4,b5,b6,⟨rfl,r,vs,T,hy,rfl,by rw [b2]; exact h2,?_⟩,by simp,fun q hq=>?_,⟨hlt,cs,r,eb,hβ,hy⟩,?_,fun q hq=>?_,b8⟩
     ·rw [b2,b4,hyy]; exact p1
     ·simp at hq; subst hq
      exact ⟨hown.1,by rw [b2]; exact hown.2.1,by rw [b4]; exact hown.2.2,b7 q hβ⟩
     ·rw [b1,BB hlt,if_pos rfl]
     ·simp at hq; subst hq
      exact ⟨b',by rw [eb]; trivial,hβ⟩
    ·cases h
   ·cases h
  ·cases h
theorem aH4 {σ σ':Sit} {b:Nat} (hw:σ'.w=σ.w) (hS:σ'.S=σ.S) (hlen:σ'.mem.length=σ.mem.length) (hoth:∀ b',b'≠b->Ad σ'.mem b'=Ad σ.mem b'/\σ'.E.β b'=σ.E.β b'/\σ'.E.κ b'=σ.E.κ b') {c:SC} {y:Value} (hc:Ap σ c y) (hn:Qa b c=false):Ap σ' c y:=by
 have ne:∀ {b':Nat},Nat.beq b' b=false->b'≠b:=fun h e=>by subst e; rw [Nat.beq_refl] at h; cases h
 cases c with
 | undef=>exact hc
 | v x=>exact hc
 | fl k o=>exact hc
 | sl τ xs=>simp only [Ap]; rw [hw,hS]; exact hc
 | own b' =>
  obtain ⟨g1,g2,g3⟩:=hoth b' (ne hn)
  obtain ⟨h1,h2,h3⟩:=hc
  refine ⟨by rw [hlen]; exact h1,h2,?_⟩
  rw [g1,g2,g3,hw,hS]; exact h3
 | ptr b' off =>
  obtain ⟨g1,g2,g3⟩:=hoth b' (ne hn)
  obtain ⟨h1,h2,h3⟩:=hc
  refine ⟨by rw [hlen]; exact h1,h2,?_⟩
  rw [g1,g2]; exact h3
 | eptr b' i off =>
  obtain ⟨g1,g2,g3⟩:=hoth b' (ne hn)
  obtain ⟨h1,h2,h3⟩:=hc
  refine ⟨by rw [hlen]; exact h1,h2,?_⟩
  rw [g1,g2]; exact h3
 | sub b' lo n =>
  obtain ⟨g1,g2,g3⟩:=hoth b' (ne hn)
  obtain ⟨h1,h2,h3⟩:=hc
  refine ⟨by rw [hlen]; exact h1,h2,?_⟩
  rw [g1,g2]; exact h3
 | iptr τ x off=>simp only [Ap]; rw [hw,hS]; exact hc
 | gptr g=>exact hc
 | fnv o=>simp only [Ap]; rw [hw,hS]; exact hc
 | ifv o=>simp only [Ap]; rw [hw,hS]; exact hc
 | fn f caps =>
  have hne:∀ p∈caps,p.1≠b:=fun p hp e=>by
   simp only [Qa,List.any_eq_false] at hn
   have:=hn p hp
   rw [e,Nat.beq_refl] at this
   exact this rfl
  obtain ⟨h1,h2,h3⟩:=hc
  refine ⟨fun p hp=>by rw [hlen]; exact h1 p hp,h2,?_⟩
  rcases h3 with ⟨p,hp,hq⟩ | ⟨rs,g1,g2⟩
  ·exact .inl ⟨p,hp,by rw [(hoth p.1 (hne p hp)).1]; exact hq⟩
  ·refine .inr ⟨rs,?_,g2⟩
   rw [← g1]
   exact List.map_congr_left fun p hp=>(hoth p.1 (hne p hp)).2.1
theorem aCS {b:Nat} {mem:Ae} (h:NQ b mem=true) {b':Nat} {cs:List SC} (e:Ad mem b'=.raw cs):∀ c∈cs,Qa b c=false:=fun c hc=>by
 unfold NQ at h
 rw [List.all_eq_true] at h
 have hlt:b'<mem.length:=C1 (by rw [e]; simp)
 have hmem:(.raw cs:Blk)∈mem:=by
  unfold Ad at e
  rw [List.getElem?_eq_getElem hlt] at e
  simp only [Option.getD_some] at e
  rw [← e]; exact List.getElem_mem hlt
 have:=h _ hmem
 simp only [qC,List.all_eq_true,Bool.not_eq_true'] at this
 exact this c hc
theorem W8 (ho:Ok base S0 σ) {b:Nat} (hlt:b<σ.mem.length) (hgone:Ad σ.mem b=.gone) (hfree:NQ b σ.mem=true) (e:Blk) (A:Option Nat) (k:Nat) (hl:∀ r,A=some r->D7 base σ r)
  (hm:∀ σ':Sit,σ'.mem=σ.mem.set b e->σ'.w=σ.w->σ'.S=σ.S->Ad σ'.mem b=e->σ'.E.β b=A->σ'.E.κ b=k->AD σ' b) :
  ∃ σ':Sit,σ'.mem=σ.mem.set b e/\σ'.w=σ.w/\σ'.S=σ.S/\Ok base S0 σ'/\Ad σ'.mem b=e/\σ'.E.β b=A/\σ'.E.κ b=k/\(∀ b',b'≠b->Ad σ'.mem b'=Ad σ.mem b'/\σ'.E.β b'=σ.E.β b'/\σ'.E.κ b'=σ.E.κ b') /\
   ∀ b' r,σ'.owned b' r->σ.owned b' r∨A=some r:=by
 let σ':Sit:={ E:=⟨AB σ.E.β b A,AB σ.E.κ b k⟩,mem:=σ.mem.set b e,w:=σ.w,S:=σ.S }
 have hset:∀ b',Ad σ'.mem b'=if b'=b then e else Ad σ.mem b':=fun b'=>BB hlt
 have hself:Ad σ'.mem b=e:=by rw [hset,if_pos rfl]
 have hβ:σ'.E.β b=A:=by simp [σ',AB]
 have hκ:σ'.E.κ b=k:=by simp [σ',AB]
 have hoth:∀ b',b'≠b->Ad σ'.mem b'=Ad σ.mem b'/\σ'.E.β b'=σ.E.β b'/\σ'.E.κ b'=σ.E.κ b':=fun b' hne=>⟨by rw [hset,if_neg hne],by simp [σ',AB,hne],by simp [σ',AB,hne]⟩
 have hold:∀ b' r,b'≠b->σ'.owned b' r->σ.owned b' r:=fun b' r hne ⟨h1,h2⟩=>by
  obtain ⟨g1,g2,_⟩:=hoth b' hne
  rw [g1] at h1
  exact ⟨h1,g2.symm.trans h2⟩
 have hnew:∀ r,σ'.owned b r->A=some r:=fun r ⟨_,h2⟩=>hβ.symm.trans h2
 refine ⟨σ',rfl,rfl,rfl,⟨ho.below,ho.stab0,ho.stab,fun b'=>?_,fun b' r h=>?_,fun b1 b2 r h1 h2=>?_⟩,hself,hβ,hκ,hoth,fun b' r h=>?_⟩
 ·by_cases hbb:b'=b
  ·subst hbb; exact hm σ' rfl rfl rfl hself hβ hκ
  ·obtain ⟨g1,g2,g3⟩:=hoth b' hbb
   have he:=ho.ent b'
   unfold AD at he ⊢
   rw [g1,g2,g3]
   cases eb:Ad σ.mem b' with
   | gone=>trivial
   | froz τ xs=>trivial
   | arr τ xs=>rw [eb] at he; exact he
   | acc τ xs=>rw [eb] at he; exact he
   | raw cs =>
    rw [eb] at he
    obtain ⟨r,vs,T,h1,h2,h3⟩:=he
    refine ⟨r,vs,T,h1,h2,?_⟩
    have hcs:=aCS hfree eb
    exact nF h3 fun c y hc hy=>aH4 (σ:=σ) (σ':=σ') rfl rfl (by simp [σ']) hoth hy (hcs c hc)
 ·by_cases hbb:b'=b
  ·subst hbb
   have:=hl r (hnew r h)
   exact ⟨this.1,this.2.1,this.2.2.1⟩
  ·exact ho.own b' r (hold b' r hbb h)
 ·by_cases hb1:b1=b <;> by_cases hb2:b2=b
  ·rw [hb1,hb2]
  ·subst hb1
   exact ((hl r (hnew r h1)).2.2.2 b2 (hold b2 r hb2 h2)).elim
  ·subst hb2
   exact ((hl r (hnew r h2)).2.2.2 b1 (hold b1 r hb1 h1)).elim
  ·exact ho.inj b1 b2 r (hold b1 r hb1 h1) (hold b2 r hb2 h2)
 ·by_cases hbb:b'=b
  ·subst hbb; exact .inr (hnew r h)
  ·exact .inl (hold b' r hbb h)
theorem aBM {σ3:Sit} (ho:Ok base S0 σ3) (hg:Goes σ σ3) {k:LK} {b:Nat} {y0:Value} (hw:jV σ k b y0) (hgone:Ad σ3.mem b=.gone) (hfree:NQ b σ3.mem=true) {x:k.B} {rs:List Nat} (hb:HZ σ3.w σ3.S k x y0 rs) (hl:∀ r∈rs,D7 base σ3 r) :
  ∃ σ4:Sit,σ4.mem=NG σ3.mem b k x/\σ4.w=σ3.w/\σ4.S=σ3.S/\Ok base S0 σ4/\Goes σ σ4/\∀ b' r,σ4.owned b' r->σ3.owned b' r∨r∈rs:=by
 have hlt:b<σ3.mem.length:=Nat.lt_of_lt_of_le hw.1 hg.len
 cases k with
 | win e =>
  obtain ⟨k0,h1,h2,h3⟩:=hb
  obtain ⟨hltb,xs0,eb,hy0⟩:=hw
  have main:∀ A:Option Nat,y0=.slice (A.map fun r=>⟨r,0,none⟩) x.length k0->(∀ r,A=some r->r∈rs)->((A=none/\k0=0)∨∃ r vs T,A=some r/\σ3.w.heap[r]? = some (.cells vs T (0,0))/\vs.size=k0*e.width/\Rows σ3.w σ3.S e vs 0 x) ->
    ∃ σ4:Sit,σ4.mem=NG σ3.mem b (.win e) x/\σ4.w=σ3.w/\σ4.S=σ3.S/\Ok base S0 σ4/\Goes σ σ4/\∀ b' r,σ4.owned b' r->σ3.owned b' r∨r∈rs:=fun A hy hA hc=>by
   obtain ⟨σ4,c1,c2,c3,c4,c5,c6,c7,c8,c9⟩:=W8 ho hlt hgone hfree (.arr e x) A k0 (fun r hr=>hl r (hA r hr)) (fun σ' m1 m2 m3 m4 m5 m6=>by
    unfold AD
    rw [m4,m5,m6,m2,m3]
    exact ⟨h1,h2,hc⟩)
   have heq:A=σ.E.β b/\x.length=xs0.length/\k0=σ.E.κ b:=by
    rw [hy] at hy0
    simp only [Value.slice.injEq] at hy0
    refine ⟨?_,hy0.2⟩
    have:=hy0.1
    cases A <;> cases hbb:σ.E.β b <;> rw [hbb] at this <;> simp at this ⊢
    exact this
   refine ⟨σ4,c1,c2,c3,c4,⟨fun r hr=>by rw [c3]; exact hg.stab r hr,fun r hr=>by rw [c2]; exact hg.heap r hr,by rw [c1]; simp [NG]; exact hg.len,fun b' hb'=>?_⟩,fun b' r h=>?_⟩
   ·by_cases hbb:b'=b
    ·subst hbb
     unfold A6
     rw [eb]
     exact .inl ⟨c6.trans heq.1,c7.trans heq.2.2,x,c5,heq.2.1⟩
    ·obtain ⟨g1,g2,g3⟩:=c8 b' hbb
     exact (hg.turns b' hb').same g1 g2 g3 c2 c3
   ·rcases c9 b' r h with g | g
    ·exact .inl g
    ·exact .inr (hA r g)
  rcases h3 with ⟨g1,g2,g3⟩ | ⟨r,vs,T,g1,g2,g3,g4,g5⟩
  ·exact main none g1 (fun r h=>by cases h) (.inl ⟨rfl,g2⟩)
  ·subst g2
   exact main (some r) g1 (fun r' h=>by cases h; simp) (.inr ⟨r,vs,T,rfl,g3,g4,g5⟩)
 | ref τ =>
  obtain ⟨r,vs,T,h1,rfl,h2,h3⟩:=hb
  obtain ⟨hltb,cs,r0,eb,hβ,hy0⟩:=hw
  have hrr:r=r0:=by rw [h1] at hy0; simpa using hy0
  subst hrr
  obtain ⟨σ4,c1,c2,c3,c4,c5,c6,c7,c8,c9⟩:=W8 ho hlt hgone hfree (.raw (cellsOf τ x)) (some r) 0 (fun r' hr=>by cases hr; exact hl r (by simp)) (fun σ' m1 m2 m3 m4 m5 m6=>by
   unfold AD
   rw [m4]
   exact ⟨r,vs,T,m5,by rw [m2]; exact h2,Jt (by rw [m2,m3]; exact h3)⟩)
  refine ⟨σ4,c1,c2,c3,c4,⟨fun r hr=>by rw [c3]; exact hg.stab r hr,fun r hr=>by rw [c2]; exact hg.heap r hr,by rw [c1]; simp [NG]; exact hg.len,fun b' hb'=>?_⟩,fun b' r' h=>?_⟩
  ·by_cases hbb:b'=b
   ·subst hbb
    unfold A6
    rw [eb]
    exact .inl ⟨c6.trans hβ.symm,_,c5⟩
   ·obtain ⟨g1,g2,g3⟩:=c8 b' hbb
    exact (hg.turns b' hb').same g1 g2 g3 c2 c3
  ·rcases c9 b' r' h with g | g
   ·exact .inl g
   ·cases g; exact .inr (by simp)
end Vx
namespace Vx
open Go Go.RowKit
def GlobsOk (G:List (Nat×Sigma fun τ=>List (Aa τ))) (w:World) (S:Nat->Prop):Prop :=
 ∀ g τ xs,Jy G g=some ⟨τ,xs⟩->S g/\∃ vs T fz,w.heap[g]? = some (.cells vs T fz)/\Rows w S τ vs 0 xs
theorem aDL {C:Cfg} {w:World} {S:Nat->Prop} (h:GlobsOk C.globs w S):gY C w S:=h
theorem GlobsOk.mono {G:List (Nat×Sigma fun τ=>List (Aa τ))} {w w':World} {S S':Nat->Prop} (hS:∀ r,S r->S' r) (hH:∀ r,S r->w'.heap[r]? = w.heap[r]?) (h:GlobsOk G w S):GlobsOk G w' S':=fun g τ xs e=>by
 obtain ⟨h1,vs,T,fz,h2,h3⟩:=h g τ xs e
 exact ⟨hS g h1,vs,T,fz,(hH g h1).trans h2,h3.mono hS hH⟩
def De:List Value->Value
 | [y]=>y
 | ys=>.tuple ys.toArray
def QM (P:Program) (f:FuncId) (args:Array Value) (w:World) (post:Ending->World->Prop):Prop :=
 ((∃ fn, P.funcs[f]? = some fn /\ fn.body.isNone = false /\ (fn.name == "runtime.NumGoroutine") = false) /\ Calls P f args w post) ∨
  ∃ v,(callFunc f args).run P w=.ok (.value v) w/\post (.returned v) w
structure Sound (P:Program) (G:List (Nat×Sigma fun τ=>List (Aa τ))) (f:FuncId) (S:Sum):Prop where
 calls:∀ x,S.pre x=true->∀ (w:World) (St:Nat->Prop) (ys:List Value) (rs:List Nat),(∀ q,St q->q<w.heap.size)->GlobsOk G w St->Ch w St S.ins x ys rs->rs.Nodup->(∀ r∈rs,¬ St r/\r<w.heap.size) ->
  QM P f ys.toArray w fun e w'=>∃ zs rs',e=.returned (De zs)/\Low ⟨w,fun r=>r∈rs⟩ w'/\(∀ r∈rs',Base.new ⟨w,fun r=>r∈rs⟩ r/\r<w'.heap.size)/\rs'.Nodup /\
   Ch w' (fun q=>(St q∨(Base.new ⟨w,fun r=>r∈rs⟩ q/\q<w'.heap.size))/\q∉rs') S.outs (S.F x) zs rs'
def Sit.later (σ:Sit) (rs rs':List Nat) (w':World):Sit:={ E:=σ.E,mem:=σ.mem,w:=w',S:=fun q=>(σ.S q∨(Base.new ⟨σ.w,fun r=>r∈rs⟩ q/\q<w'.heap.size))/\q∉rs' }
theorem rW {base:Base} {S0:Nat->Prop} {σ:Sit} (ho:Ok base S0 σ) {rs rs':List Nat} {w':World} (hl:∀ r∈rs,D7 base σ r) (hb:Low ⟨σ.w,fun r=>r∈rs⟩ w') (hr':∀ r∈rs',Base.new ⟨σ.w,fun r=>r∈rs⟩ r/\r<w'.heap.size) :
  Ok base S0 (σ.later rs rs' w')/\Goes σ (σ.later rs rs' w')/\∀ r∈rs',D7 base (σ.later rs rs' w') r:=by
 have hold:∀ q,σ.S q->q<σ.w.heap.size/\q∉rs/\q∉rs':=fun q hq=>by
  refine ⟨(ho.stab q hq).1,fun h=>(hl q h).2.2.1 hq,fun h=>?_⟩
  rcases (hr' q h).1 with g | g
  ·have:=(ho.stab q hq).1
   have g:σ.w.heap.size<=q:=g
   omega
  ·exact (hl q g).2.2.1 hq
 have hown:∀ b r,σ.owned b r->r<σ.w.heap.size/\r∉rs:=fun b r h=>⟨(ho.own b r h).2.1,fun h'=>(hl r h').2.2.2 b h⟩
 have hnew:∀ q,Base.new ⟨σ.w,fun r=>r∈rs⟩ q->base.new q:=fun q h=>by
  rcases h with h | h
  ·exact .inl (Nat.le_trans ho.below.size h)
  ·exact (hl q h).1
 have hg:Goes σ (σ.later rs rs' w'):=⟨fun q h=>⟨.inl h,(hold q h).2.2⟩,fun r hr=>hb.block r (hold r hr).1 (hold r hr).2.1,Nat.le_refl _,fun _ _=>A6.refl rfl rfl rfl⟩
 refine ⟨⟨ho.below.step hb.os hb.tape hb.output hb.size (fun k hk hn=>hb.block k hk (fun h=>hn ((hl k h).1))),fun r h=>⟨.inl (ho.stab0 r h),(hold r (ho.stab0 r h)).2.2⟩,fun r h=>?_,fun b=>?_,fun b r h=>?_,fun b b' r h h'=>ho.inj b b' r h h'⟩,hg,fun r hr=>?_⟩
 ·rcases h.1 with g | g
  ·exact ⟨Nat.lt_of_lt_of_le (ho.stab r g).1 hb.size,(ho.stab r g).2⟩
  ·exact ⟨g.2,.inr (hnew r g.1)⟩
 ·exact AD.keep hg rfl rfl rfl (fun r hr=>hb.block r (hown b r hr).1 (hown b r hr).2) (ho.ent b)
 ·have:=ho.own b r h
  refine ⟨this.1,Nat.lt_of_lt_of_le this.2.1 hb.size,fun hs=>?_⟩
  rcases hs.1 with hs | hs
  ·exact this.2.2 hs
  ·rcases hs.1 with g | g
   ·have g:σ.w.heap.size<=r:=g
    omega
   ·exact (hown b r h).2 g
 ·refine ⟨hnew r (hr' r hr).1,(hr' r hr).2,fun h=>h.2 hr,fun b h=>?_⟩
  have h:σ.owned b r:=h
  rcases (hr' r hr).1 with g | g
  ·have:=(hown b r h).1
   have g:σ.w.heap.size<=r:=g
   omega
  ·exact (hown b r h).2 g
structure SoundL (P:Program) (G:List (Nat×Sigma fun τ=>List (Aa τ))) (f:FuncId) (L:SumL):Prop where
 calls:∀ x,L.pre x=true->∀ (w:World) (St:Nat->Prop) (y y0:Value) (ys:List Value) (rl rs:List Nat),(∀ q,St q->q<w.heap.size)->GlobsOk G w St->Nh w St L.lend x.1 y y0 rl->Ch w St L.ins x.2 ys rs->(rl++rs).Nodup->(∀ r∈rl++rs,¬ St r/\r<w.heap.size) ->
  QM P f (y::ys).toArray w fun e w'=>∃ zs rs',e=.returned (De zs)/\Low ⟨w,fun r=>r∈rl++rs⟩ w'/\(∀ r∈rs',Base.new ⟨w,fun r=>r∈rl++rs⟩ r/\r<w'.heap.size)/\(rl++rs').Nodup /\
   Ch w' (fun q=>(St q∨(Base.new ⟨w,fun r=>r∈rl++rs⟩ q/\q<w'.heap.size))/\q∉rl++rs') L.outs (L.F x).2 zs rs' /\
   HZ w' (fun q=>(St q∨(Base.new ⟨w,fun r=>r∈rl++rs⟩ q/\q<w'.heap.size))/\q∉rl++rs') L.lend (L.F x).1 y0 rl
def QK (w:World) (S:Nat->Prop) (ns:List Nat) (ps:List Value):Prop :=
 ps.length=ns.length/\∀ (i n:Nat),ns[i]? = some n->∃ (r:Nat) (vs:Array Value) (T:TypeId) (fz:Nat×Nat),ps[i]? = some (Value.pointer (some ⟨r,0,none⟩))/\S r/\w.heap[r]? = some (Obj.cells vs T fz)/\vs[0]? = some (MH n)
theorem QK.mono {w w':World} {S S':Nat->Prop} (hS:∀ r,S r->S' r) (hH:∀ r,S r->w'.heap[r]? = w.heap[r]?) {ns:List Nat} {ps:List Value} (h:QK w S ns ps):QK w' S' ns ps :=
 ⟨h.1,fun i n hi=>by
  obtain ⟨r,vs,T,fz,e1,e2,e3,e4⟩:=h.2 i n hi
  exact ⟨r,vs,T,fz,e1,hS r e2,(hH r e2).trans e3,e4⟩⟩
structure FnSound (P:Program) (G:List (Nat×Sigma fun τ=>List (Aa τ))) (f:FuncId) (cs:List Nat) (S:Sum):Prop where
 calls:∀ x,S.pre x=true->∀ (w:World) (St:Nat->Prop) (ys:List Value) (rs:List Nat) (ps:List Value),(∀ q,St q->q<w.heap.size)->GlobsOk G w St->Ch w St S.ins x ys rs->rs.Nodup->(∀ r∈rs,¬ St r/\r<w.heap.size)->QK w St cs ps ->
  QM P f (ys++ps).toArray w fun e w'=>∃ zs rs',e=.returned (De zs)/\Low ⟨w,fun r=>r∈rs⟩ w'/\(∀ r∈rs',Base.new ⟨w,fun r=>r∈rs⟩ r/\r<w'.heap.size)/\rs'.Nodup /\
   Ch w' (fun q=>(St q∨(Base.new ⟨w,fun r=>r∈rs⟩ q/\q<w'.heap.size))/\q∉rs') S.outs (S.F x) zs rs'
def WE (P:Program) (m:String) (T:TypeId) (f:FuncId):Bool :=
 match P.info? T,P.underlying T with
 | some i,some (.struct _)=>(match i.methods.find? (·.name==m) with
  | some row=>(match row.path.toList,row.func with
   | [],some (g,false)=>Nat.beq g f
   | _,_=>false)
  | none=>false)
 | _,_=>false
structure MSound (P:Program) (G:List (Nat×Sigma fun τ=>List (Aa τ))) (f:FuncId) (v:Value) (S:Sum):Prop where
 calls:∀ x,S.pre x=true->∀ (w:World) (St:Nat->Prop) (ys:List Value) (rs:List Nat),(∀ q,St q->q<w.heap.size)->GlobsOk G w St->Ch w St S.ins x ys rs->rs.Nodup->(∀ r∈rs,¬ St r/\r<w.heap.size) ->
  QM P f (v::ys).toArray w fun e w'=>∃ zs rs',e=.returned (De zs)/\Low ⟨w,fun r=>r∈rs⟩ w'/\(∀ r∈rs',Base.new ⟨w,fun r=>r∈rs⟩ r/\r<w'.heap.size)/\rs'.Nodup /\
   Ch w' (fun q=>(St q∨(Base.new ⟨w,fun r=>r∈rs⟩ q/\q<w'.heap.size))/\q∉rs') S.outs (S.F x) zs rs'
def YX (P:Program) (G:List (Nat×Sigma fun τ=>List (Aa τ))) (S:SumF):Prop :=
 ∀ v x,S.pre v x=true->∃ f cs S1,v=some (f,cs)/\FnSound P G f cs S1/\∃ (h1:S1.ins=S.ins) (h2:S1.outs=S.outs),S1.pre (h1 ▸ x)=true/\S.F v x=h2 ▸ S1.F (h1 ▸ x)
def QO (P:Program) (G:List (Nat×Sigma fun τ=>List (Aa τ))) (m:String) (S:SumM):Prop :=
 ∀ d x,S.pre d x=true->∃ T ns f S1,d=some (T,ns)/\WE P m T f=true/\((∀ n∈ns,IntKind.i64.min<=n/\n<=IntKind.i64.max)->MSound P G f (.agg (ns.map (Value.int .i64)).toArray) S1)/\∃ (h1:S1.ins=S.ins) (h2:S1.outs=S.outs),S1.pre (h1 ▸ x)=true/\S.F d x=h2 ▸ S1.F (h1 ▸ x)
structure SumsOk (C:Cfg):Prop where
 sums:∀ f mem args S,C.sum f mem args=some S->Sound C.P C.globs f S
 lsums:∀ f mem args L,C.lsum f mem args=some L->SoundL C.P C.globs f L
 fns:∀ T S,(T,S)∈C.fns->YX C.P C.globs S
 meths:∀ m S,(m,S)∈C.meths->QO C.P C.globs m S
theorem YO {σ:Sit} {vs:List SV} {ys:List Value} (h:All2 (AS σ) vs ys):AQ σ (J1 vs) (De ys):=by
 cases h with
 | nil=>exact ⟨by simp,[],rfl,.nil⟩
 | cons h1 t =>
  cases t with
  | nil=>exact h1
  | cons h2 t=>exact ⟨by simp,_,rfl,.cons h1 (.cons h2 t)⟩
theorem Xg {P : Program} {f : FuncId} (h : ∃ fn, P.funcs[f]? = some fn /\ fn.body.isNone = false /\ (fn.name == "runtime.NumGoroutine") = false) (args : Array Value) (w : World) : (callFunc f args).run P w = .ok (.enter f args) w := by
 obtain ⟨fn,h1,h2,h3⟩:=h
 unfold callFunc
 have h2':¬ fn.body=none:=fun e=>by rw [e] at h2; cases h2
 simp [h1]
 rw [if_neg (by simpa using h3),if_neg h2']
variable {C:Cfg} {base:Base} {S0:Nat->Prop} {σ:Sit} {s:St} {a:Act} {ctx:List (Nat×Bool)} {o:Oper} {x:TV} {mem':Ae}
theorem aEV (hC:SumsOk C) (ho:Ok base S0 σ) (hr:RelT σ s a) (hx:A5 a ctx) (hG:GlobsOk C.globs σ.w σ.S) {c:Call} {fo:Operand} (hop:o.op=.call c) (hc:c.callee=.value fo) {f:FuncId} {args:List SV} (ef:AP s ctx fo=some (.fn f [])) (eargs:DF s ctx c.args.toList=some args)
  {L:SumL} (hL:C.lsum f s.mem args=some L)
  (h:(match (generalizing:=false) args with
      | z::rest=>(match Cg (AY (M0 s.mem L.lend z) L.ins rest).2 L.ins (AY (M0 s.mem L.lend z) L.ins rest).1 with
        | some (x,m2)=>(match Tt m2 L.lend z with
         | some (b,xl,m3)=>bif NQ b m3 then (match Cb (NG m3 b L.lend (L.F (xl,x)).1) L.outs (L.F (xl,x)).2 with
          | some (vs,m4)=>some (Res.ok (L.pre (xl,x)) (J1 vs) m4)
          | none=>none) else none
         | none=>none)
        | none=>none)
      | []=>none)=some (Res.ok true x mem')):Bj C base S0 id σ a o x mem':=by
 have hargs:=NL hr hx eargs
 cases args with
 | cons z rest =>
  simp only at h
  generalize hya:c.args.toList.map a.eval=yall at hargs
  cases hargs with
  | cons hz hrest =>
  rename_i y ys
  obtain ⟨σ0,l1,l2,l3,l4,l5⟩:=uX ho L.lend z
  cases hf:AY (M0 s.mem L.lend z) L.ins rest with
  | mk rest' m1 =>
   rw [hf] at h
   simp only at h
   rw [← hr.mem,← l1] at hf
   obtain ⟨σ1,a1,a2,a3,a4,a5,a6⟩:=NS l4 hf
   split at h
   ·rename_i v m2 ez
    split at h
    ·rename_i b xl m3 el
     obtain ⟨hfree,h⟩:=AF h
     split at h
     ·rename_i vs m4 ev
      simp only [Option.some.injEq,Res.ok.injEq] at h
      obtain ⟨hpre,rfl,rfl⟩:=h
      rw [← a1] at ez
      obtain ⟨σ2,rs,b1,b2,b3,b4,b5,b6,hsr,b8,b9,b10⟩:=T7 a4 (a6 _ (hrest.mono fun _ _=>l5.repV)) ez
      have hg2:Goes σ σ2:=l5.trans (a5.trans b6)
      rw [← b1] at el
      obtain ⟨σ3,rl,y0,d1,d2,d3,d4,d5,d6,d7,d8,d9,d10,d11,d12⟩:=aD0 b5 (hg2.repV hz) el
      have hcalls:=(hC.lsums f _ _ L hL).calls
      have hfv:a.eval fo=.func (.func f) #[] #[]:=by
       obtain ⟨_,_,h1⟩:=Ba hr hx ef
       rcases h1 with ⟨p,hp,_⟩ | ⟨rs,h1,h2⟩
       ·simp at hp
       ·simpa using h2
      intro K Q hK
      have hexec:(execOp a.eval o).run C.P σ.w=(callFunc f (y::ys).toArray).run C.P σ.w:=by
       simp only [execOp,hop,resolve,hc,hfv]
       simp only [Deferred.ofValue,Sem.run_bind,Sem.run_pure,Result.andThen_ok,invoke]
       rw [← hya]
       congr 2
       apply Array.toList_inj.1
       simp
      have hw1:σ1.w=σ.w:=a2.trans l2
      have hw2:σ2.w=σ.w:=b2.trans hw1
      have hw3:σ3.w=σ.w:=d2.trans hw2
      have hS3:σ3.S=σ1.S:=d3.trans b4
      have hloose:∀ r∈rs,D7 base σ3 r:=fun r hr'=>by
       obtain ⟨⟨b',hb'⟩,hn⟩:=b9 r hr'
       have:=a4.own b' r hb'
       exact ⟨this.1,by rw [d2,b2]; exact this.2.1,by rw [hS3]; exact this.2.2,fun b'' h=>hn b'' (d12 b'' r h)⟩
      have hdis:∀ r∈rl,∀ r'∈rs,r≠r':=fun r h1 r' h2 e=>by
       subst e
       obtain ⟨b',hb'⟩:=d11 r h1
       exact (b9 r h2).2 b' hb'
      have hall:∀ r∈rl++rs,D7 base σ3 r:=fun r hr'=>by
       rcases List.mem_append.1 hr' with h | h
       ·exact d8 r h
       ·exact hloose r h
      have hnd:(rl++rs).Nodup:=List.nodup_append.2 ⟨d7,b8,hdis⟩
      have hsr3:Ch σ3.w σ3.S L.ins v ys rs:=by
       rw [hw3,hS3,← hw1]; exact hsr
      have hcl:=hcalls (xl,v) hpre σ3.w σ3.S y y0 ys rl rs (fun q hq=>(d4.stab q hq).1) (by rw [hw3]; exact GlobsOk.mono (hg2.trans d5).stab (fun _ _=>rfl) hG) d6 hsr3 hnd (fun r hr'=>⟨(hall r hr').2.2.1,(hall r hr').2.1⟩)
      rw [hw3] at hcl
      have hend:∀ (e:Ending) (w':World),(∃ zs rs',e=.returned (De zs)/\Low ⟨σ.w,fun r=>r∈rl++rs⟩ w'/\(∀ r∈rs',Base.new ⟨σ.w,fun r=>r∈rl++rs⟩ r/\r<w'.heap.size)/\(rl++rs').Nodup /\
        Ch w' (fun q=>(σ3.S q∨(Base.new ⟨σ.w,fun r=>r∈rl++rs⟩ q/\q<w'.heap.size))/\q∉rl++rs') L.outs (L.F (xl,v)).2 zs rs' /\
        HZ w' (fun q=>(σ3.S q∨(Base.new ⟨σ.w,fun r=>r∈rl++rs⟩ q/\q<w'.heap.size))/\q∉rl++rs') L.lend (L.F (xl,v)).1 y0 rl)->∃ v,e=.returned v/\K (a.put o.dst v) w':=fun e w' he=>by
       obtain ⟨zs,rs',rfl,hb,hr',hn',hz',hbk⟩:=he
       rw [← hw3] at hb hr' hz' hbk
       have hr'':∀ r∈rl++rs',Base.new ⟨σ3.w,fun r=>r∈rl++rs⟩ r/\r<w'.heap.size:=fun r h=>by
        rcases List.mem_append.1 h with h | h
        ·exact ⟨.inr (List.mem_append.2 (.inl h)),Nat.lt_of_lt_of_le (d8 r h).2.1 hb.size⟩
        ·exact hr' r h
       obtain ⟨k1,k2,k3⟩:=rW d4 hall hb hr''
       obtain ⟨n1,n2,n3⟩:=List.nodup_append.1 hn'
       obtain ⟨σ4,g1,g2,g3,g4,g5,g6⟩:=aBM k1 (d5.trans k2) d9 (by show Ad σ3.mem b=.gone; exact d10) (by show NQ b σ3.mem=true; rw [d1]; exact hfree) hbk (fun r h=>k3 r (List.mem_append.2 (.inl h)))
       have ev':Cb σ4.mem L.outs (L.F (xl,v)).2=some (vs,m4):=by
        rw [g1]
        show Cb (NG σ3.mem b L.lend (L.F (xl,v)).1) L.outs _=_
        rw [d1]; exact ev
       have hz4:Ch σ4.w σ4.S L.outs (L.F (xl,v)).2 zs rs':=by rw [g2,g3]; exact hz'
       obtain ⟨σ5,c1,c2,c3,c4,c5,c6⟩:=Ti g4 hz4 n2 (fun r h=>by
        obtain ⟨q1,q2,q3,q4⟩:=k3 r (List.mem_append.2 (.inr h))
        refine ⟨q1,by rw [g2]; exact q2,by rw [g3]; exact q3,fun b' hb'=>?_⟩
        rcases g6 b' r hb' with g | g
        ·exact q4 b' g
        ·exact n3 r g r h rfl) ev'
       have:=hK (De zs) σ5 c4 ((hg2.trans g5).trans c5).moves c1 (YO c6)
       rw [c2,g2] at this
       exact ⟨_,rfl,this⟩
      rcases hcl with ⟨hcall,hcl⟩ | ⟨v',hv,hpost⟩
      ·unfold Oper.wp
       rw [hexec,Xg hcall,Oper.upon_enter]
       refine hcl.mono fun e w' he=>?_
       obtain ⟨v,rfl,hk⟩:=hend e w' he
       exact hk
      ·obtain ⟨v',hv',hk⟩:=hend _ _ hpost
       cases hv'
       unfold Oper.wp
       rw [hexec,hv]
       exact hk
     ·cases h
    ·cases h
   ·cases h
 | nil=>cases h
theorem aE8 (ho:Ok base S0 σ) (hr:RelT σ s a) (hx:A5 a ctx) {T:TypeId} {y:Operand} {lo hi mx:Option Operand} {b:Nat} (hop:o.op=.slice T y lo hi mx) (hns:JX C s ctx T y lo hi mx=none) (ht:M8 C s ctx y lo mx=some b) (h:Aq C s ctx o=some (.ok true x mem')):Bj C base S0 id σ a o x mem':=by
 have hlo:lo=none/\mx=none/\AP s ctx y=some (.own b):=by
  unfold M8 at ht
  cases lo with
  | some _=>simp at ht
  | none =>
   cases mx with
   | some _=>simp at ht
   | none =>
    have ht:=(AF ht).2
    split at ht
    ·rename_i b' e
     split at ht <;> first | (cases ht; done) | (cases ht; exact ⟨rfl,rfl,e⟩)
    ·cases ht
 obtain ⟨rfl,rfl,ey⟩:=hlo
 unfold Aq at h
 rw [hop] at h
 simp only [hns,ht] at h
 split at h
 ·rename_i e hT
  split at h
  ·rename_i τ eτ
   split at h
   ·rename_i xs exs
    split at h
    ·rename_i hh eh
     simp only [Option.some.injEq,Res.ok.injEq,Bool.and_eq_true,decide_eq_true_eq] at h
     obtain ⟨⟨g1,g2⟩,rfl,rfl⟩:=h
     rw [← hr.mem] at exs
     have hb:Ad σ.mem b=.arr τ xs∨Ad σ.mem b=.acc τ xs:=by
      unfold vR at exs
      split at exs
      ·rename_i eb
       obtain ⟨hττ,hxs⟩:=Gw exs
       subst hττ; simp only at hxs; subst hxs
       exact .inl eb
      ·rename_i eb
       obtain ⟨hττ,hxs⟩:=Gw exs
       subst hττ; simp only at hxs; subst hxs
       exact .inr eb
      ·cases exs
     obtain ⟨σ1,rs,a1,a2,a3,a4,a5,a6,⟨k,h1,h2,h3⟩,a8,a9,a10⟩:=P8 ho hb (Ba hr hx ey)
     have hA:∃ A,a.eval y=.slice A xs.length k/\(∀ r,A=some r->r.add 0=r):=by
      rcases h3 with ⟨h3,_⟩ | ⟨r,_,_,h3,_⟩
      ·exact ⟨none,h3,fun r h=>by cases h⟩
      ·exact ⟨_,h3,fun r h=>by simp [Addr.add]⟩
     obtain ⟨A,hy,hadd⟩:=hA
     have hrun:=gC (C:=C) (lo:=none) hr hx hT eτ hy h1 (l:=0) rfl eh hop (Int.le_refl _) g1 g2 σ.w
     have hv:(Value.slice (if k=(0:Int).toNat then A else A.map (·.add ((0:Int).toNat*τ.width))) (hh.toNat-(0:Int).toNat) (k-(0:Int).toNat))=.slice A (xs.take hh.toNat).length k:=by
      have e1:(xs.take hh.toNat).length=hh.toNat:=by simp; omega
      have e2:(if k=(0:Int).toNat then A else A.map (·.add ((0:Int).toNat*τ.width)))=A:=by
       split
       ·rfl
       ·cases A with
        | none=>rfl
        | some r=>simp only [Int.toNat_zero,Nat.zero_mul,Option.map_some,hadd r rfl]
      rw [e1,e2]; simp
     rw [hv] at hrun
     have hown:EN σ1.w σ1.S τ (xs.take hh.toNat) (.slice A (xs.take hh.toNat).length k) rs:=by
      rw [a2,a4]
      refine ⟨k,by simp; omega,h2,?_⟩
      rcases h3 with ⟨e1,e2,e3⟩ | ⟨r,vs,T',e1,e2,e3,e4,e5⟩
      ·rw [hy] at e1; cases e1; exact .inl ⟨rfl,e2,e3⟩
      ·rw [hy] at e1; cases e1
       exact .inr ⟨r,vs,T',rfl,e2,e3,e4,fun i x hi=>e5 i x (by
        rw [List.getElem?_take] at hi
        split at hi
        ·exact hi
        ·cases hi)⟩
     obtain ⟨σ2,b1,b2,b3,b4,b5,b6,_⟩:=rC a5 hown (fun r hr'=>by
      obtain ⟨⟨b',hb'⟩,hn⟩:=a9 r hr'
      have:=ho.own b' r hb'
      exact ⟨this.1,by rw [a2]; exact this.2.1,by rw [a4]; exact this.2.2,hn⟩)
     refine AO (σ':=σ2) (v:=.slice A (xs.take hh.toNat).length k) ?_ b4 (a6.trans b5).moves (by rw [b1,a1,hr.mem]) ?_
     ·rw [b2,a2]; exact hrun
     ·rw [a1] at b6
      have e:(σ.mem.set b .gone).length=s.mem.length:=by rw [hr.mem]; simp
      rw [e] at b6
      exact b6
    ·cases h
   ·cases h
  ·cases h
 ·cases h
end Vx
namespace Vx
open Go Go.RowKit
def Qs:(τ:Shape)->List Int->Aa τ
 | .pair (.int _) b,n::r=>(n,Qs b r)
 | τ,_=>τ.dflt
def Dq:Shape->Option Nat
 | .unit=>some 0
 | .pair (.int .i64) b=>match Dq b with
  | some n=>some (n+1)
  | none=>none
 | _=>none
def WA (d:Option (Nat×List Int)) (T n:Nat):Bool :=
 match d with
 | some p=>Nat.beq p.1 T&&Nat.beq p.2.length n
 | none=>false
def rK (d:Option (Nat×List Int)):List Int :=
 match d with
 | some p=>p.2
 | none=>[]
def P9 (ns:List Int):Sum->Option (Nat×Sum)
 | ⟨(true,τ)::ins,outs,pre,F⟩=>match Dq τ with
  | some n=>some (n,⟨ins,outs,fun x=>pre (Qs τ ns,x),fun x=>F (Qs τ ns,x)⟩)
  | none=>none
 | _=>none
def VS (I O:Ac) (d:Option (Nat×List Int)) (x:DenS I):List (TypeId×FuncId×Sum)->Bool
 | []=>false
 | (T,_,S)::r=>match P9 (rK d) S with
  | some (n,S')=>bif WA d T n then (if h:S'.ins=I/\S'.outs=O then S'.pre (h.1 ▸ x) else false) else VS I O d x r
  | none=>false
def VT (I O:Ac) (d:Option (Nat×List Int)) (x:DenS I):List (TypeId×FuncId×Sum)->DenS O
 | []=>DenS.dflt0 O
 | (T,_,S)::r=>match P9 (rK d) S with
  | some (n,S')=>bif WA d T n then (if h:S'.ins=I/\S'.outs=O then h.2 ▸ S'.F (h.1 ▸ x) else DenS.dflt0 O) else VT I O d x r
  | none=>DenS.dflt0 O
def Pr (I O:Ac) (l:List (TypeId×FuncId×Sum)):SumM:=⟨I,O,fun d x=>VS I O d x l,fun d x=>VT I O d x l⟩
def gW (P:Program) (G:List (Nat×Sigma fun τ=>List (Aa τ))) (m:String):List (TypeId×FuncId×Sum)->Prop
 | []=>True
 | (T,f,S)::r=>(WE P m T f=true/\Sound P G f S)/\gW P G m r
theorem vE {w:World} {S:Nat->Prop}:∀ {τ:Shape} {n:Nat} {ns:List Int},Dq τ=some n->ns.length=n->(∀ n∈ns,IntKind.i64.min<=n/\n<=IntKind.i64.max)->AI w S τ (Qs τ ns) (ns.map (Value.int .i64))
 | .unit,n,ns,h,hl,hb=>by
  simp only [Dq,Option.some.injEq] at h
  subst h
  have:ns=[]:=List.eq_nil_of_length_eq_zero hl
  subst this
  rfl
 | .pair a b,n,ns,h,hl,hb=>by
  cases a with
  | int k =>
   cases k with
   | i64 =>
    simp only [Dq] at h
    split at h
    ·rename_i m e
     cases h
     cases ns with
     | nil=>simp at hl
     | cons z ns =>
      simp only [Qs,List.map_cons]
      exact ⟨[_],_,rfl,⟨rfl,hb z (by simp)⟩,vE e (by simpa using hl) fun n hn=>hb n (by simp [hn])⟩
    ·cases h
   | _=>simp [Dq] at h
  | _=>simp [Dq] at h
 | .int _,_,_,h,_,_=>by simp [Dq] at h
 | .flt _,_,_,h,_,_=>by simp [Dq] at h
 | .bool,_,_,h,_,_=>by simp [Dq] at h
 | .str,_,_,h,_,_=>by simp [Dq] at h
 | .fn,_,_,h,_,_=>by simp [Dq] at h
 | .slice _,_,_,h,_,_=>by simp [Dq] at h
 | .box _,_,_,h,_,_=>by simp [Dq] at h
 | .ifc,_,_,h,_,_=>by simp [Dq] at h
 | .pfn,_,_,h,_,_=>by simp [Dq] at h
theorem aH3 {w:World} {S:Nat->Prop} {τ:Shape} {n:Nat} (h:Dq τ=some n) {x:Aa τ} {cs:List Value} (hd:AI w S τ x cs):GL w S true τ x (.agg cs.toArray) []:=by
 cases τ with
 | unit=>exact ⟨rfl,cs,rfl,hd⟩
 | pair a b=>exact ⟨rfl,cs,rfl,hd⟩
 | _=>simp [Dq] at h
theorem aD9 {P:Program} {G:List (Nat×Sigma fun τ=>List (Aa τ))} {f:FuncId} {S S':Sum} {ns:List Int} {n:Nat} (hs:Sound P G f S) (e:P9 ns S=some (n,S')) (hn:ns.length=n) (hb:∀ n∈ns,IntKind.i64.min<=n/\n<=IntKind.i64.max):MSound P G f (.agg (ns.map (Value.int .i64)).toArray) S':=by
 obtain ⟨ins1,outs1,pre1,F1⟩:=S
 cases ins1 with
 | nil=>simp [P9] at e
 | cons en ins1 =>
  obtain ⟨b,τ⟩:=en
  cases b with
  | false=>simp [P9] at e
  | true =>
   simp only [P9] at e
   split at e
   ·rename_i n' en
    cases e
    refine ⟨fun x hp w St ys rs hSl hGl hsr hnd hrs=>?_⟩
    have hrep:=vE (w:=w) (S:=St) en hn hb
    exact hs.calls (Qs τ ns,x) hp w St (.agg (ns.map (Value.int .i64)).toArray::ys) rs hSl hGl ⟨_,_,[],rs,rfl,rfl,aH3 en hrep,hsr⟩ hnd hrs
   ·cases e
theorem oH {P:Program} {G:List (Nat×Sigma fun τ=>List (Aa τ))} {m:String} {I O:Ac}:∀ {l:List (TypeId×FuncId×Sum)},gW P G m l->QO P G m (Pr I O l)
 | [],_,d,x,h=>by simp [Pr,VS] at h
 | (T,f,S)::r,ha,d,x,h=>by
  simp only [Pr,VS] at h
  split at h
  ·rename_i n S' e
   cases hb:WA d T n with
   | true =>
    rw [hb,cond_true] at h
    split at h
    ·rename_i hh
     have hd:∃ ns,d=some (T,ns)/\ns.length=n:=by
      unfold WA at hb
      split at hb
      ·rename_i p
       simp only [Bool.and_eq_true] at hb
       exact ⟨p.2,by rw [← Nat.eq_of_beq_eq_true hb.1],Nat.eq_of_beq_eq_true hb.2⟩
      ·cases hb
     obtain ⟨ns,rfl,hn⟩:=hd
     exact ⟨T,ns,f,S',rfl,ha.1.1,fun hbd=>aD9 ha.1.2 e hn hbd,hh.1,hh.2,h,by simp only [Pr,VT]; rw [e]; simp only; rw [hb,cond_true,dif_pos hh]⟩
    ·cases h
   | false =>
    rw [hb,cond_false] at h
    obtain ⟨T',ns,f',S1,k1,k2,k3,k4,k5,k6,k7⟩:=oH (I:=I) (O:=O) ha.2 d x h
    exact ⟨T',ns,f',S1,k1,k2,k3,k4,k5,k6,by simp only [Pr,VT]; rw [e]; simp only; rw [hb,cond_false]; exact k7⟩
  ·cases h
variable {C:Cfg} {base:Base} {S0:Nat->Prop} {σ:Sit} {s:St} {a:Act} {ctx:List (Nat×Bool)} {o:Oper} {x:TV} {mem':Ae}
theorem aP (ho:Ok base S0 σ) (hr:RelT σ s a) (hG:GlobsOk C.globs σ.w σ.S) {args:List SV} {ys:List Value} (hargs:All2 (AS σ) args ys) {S:Sum} (h:Er s.mem S args=some (true,x,mem'))
  (hcalls:∀ z,S.pre z=true->∀ (St:Nat->Prop) (rs:List Nat),(∀ q,σ.S q->St q)->(∀ q,St q->q<σ.w.heap.size)->GlobsOk C.globs σ.w St->Ch σ.w St S.ins z ys rs->rs.Nodup->(∀ r∈rs,¬ St r/\r<σ.w.heap.size) ->
   ∃ f as,(execOp a.eval o).run C.P σ.w=(callFunc f as).run C.P σ.w/\QM C.P f as σ.w fun e w'=>∃ zs rs',e=.returned (De zs)/\Low ⟨σ.w,fun r=>r∈rs⟩ w'/\(∀ r∈rs',Base.new ⟨σ.w,fun r=>r∈rs⟩ r/\r<w'.heap.size)/\rs'.Nodup /\
    Ch w' (fun q=>(St q∨(Base.new ⟨σ.w,fun r=>r∈rs⟩ q/\q<w'.heap.size))/\q∉rs') S.outs (S.F z) zs rs'):Bj C base S0 id σ a o x mem':=by
 unfold Er at h
 cases hf:AY s.mem S.ins args with
 | mk args' m1 =>
  rw [hf] at h
  simp only at h
  rw [← hr.mem] at hf
  obtain ⟨σ1,a1,a2,a3,a4,a5,a6⟩:=NS ho hf
  split at h
  ·rename_i zm ez
   obtain ⟨z,m2⟩:=zm
   simp only at h
   split at h
   ·rename_i vs m3 ev
    simp only [Option.some.injEq,Prod.mk.injEq] at h
    obtain ⟨hpre,rfl,rfl⟩:=h
    rw [← a1] at ez
    obtain ⟨σ2,rs,b1,b2,b3,b4,b5,b6,hsr,b8,b9,b10⟩:=T7 a4 (a6 _ hargs) ez
    intro K Q hK
    have hloose:∀ r∈rs,D7 base σ2 r:=fun r hr'=>by
     obtain ⟨⟨b,hb⟩,hn⟩:=b9 r hr'
     have:=a4.own b r hb
     exact ⟨this.1,by rw [b2]; exact this.2.1,by rw [b4]; exact this.2.2,hn⟩
    have hw2:σ2.w=σ.w:=b2.trans a2
    rw [← b2,← b4] at hsr
    obtain ⟨f,as,hexec,hcl⟩:=hcalls z hpre σ2.S rs (a5.trans b6).stab (fun q hq=>by rw [← hw2]; exact (b5.stab q hq).1) (GlobsOk.mono (a5.trans b6).stab (fun _ _=>rfl) hG) (by rw [← hw2]; exact hsr) b8 (fun r hr'=>by rw [← hw2]; exact ⟨(hloose r hr').2.2.1,(hloose r hr').2.1⟩)
    have hend:∀ (e:Ending) (w':World),(∃ zs rs',e=.returned (De zs)/\Low ⟨σ.w,fun r=>r∈rs⟩ w'/\(∀ r∈rs',Base.new ⟨σ.w,fun r=>r∈rs⟩ r/\r<w'.heap.size)/\rs'.Nodup /\
      Ch w' (fun q=>(σ2.S q∨(Base.new ⟨σ.w,fun r=>r∈rs⟩ q/\q<w'.heap.size))/\q∉rs') S.outs (S.F z) zs rs')->∃ v,e=.returned v/\K (a.put o.dst v) w':=fun e w' he=>by
     obtain ⟨zs,rs',rfl,hb,hr',hn',hz⟩:=he
     rw [← hw2] at hb hr' hz
     obtain ⟨k1,k2,k3⟩:=rW b5 hloose hb hr'
     have ev':Cb (σ2.later rs rs' w').mem S.outs (S.F z)=some (vs,m3):=by
      show Cb σ2.mem S.outs (S.F z)=_
      rw [b1]; exact ev
     obtain ⟨σ3,c1,c2,c3,c4,c5,c6⟩:=Ti k1 hz hn' k3 ev'
     have:=hK (De zs) σ3 c4 (((a5.trans b6).trans k2).trans c5).moves c1 (YO c6)
     rw [c2] at this
     exact ⟨_,rfl,this⟩
    rcases hcl with ⟨hcall,hcl⟩ | ⟨v,hv,hpost⟩
    ·unfold Oper.wp
     rw [hexec,Xg hcall,Oper.upon_enter]
     refine hcl.mono fun e w' he=>?_
     obtain ⟨v,rfl,hk⟩:=hend e w' he
     exact hk
    ·obtain ⟨v',hv',hk⟩:=hend _ _ hpost
     cases hv'
     unfold Oper.wp
     rw [hexec,hv]
     exact hk
   ·cases h
  ·cases h
theorem aE7 (hC:SumsOk C) (ho:Ok base S0 σ) (hr:RelT σ s a) (hx:A5 a ctx) (hG:GlobsOk C.globs σ.w σ.S) {c:Call} {fo:Operand} (hop:o.op=.call c) (hc:c.callee=.value fo) (hnv:∀ v,AP s ctx fo≠some (.fnv v)) (h:Aq C s ctx o=some (.ok true x mem')):Bj C base S0 id σ a o x mem':=by
 unfold Aq at h
 rw [hop] at h
 simp only [hc] at h
 split at h
 ·rename_i f caps args ef eargs
  split at h
  ·rename_i L eL
   have hcaps:caps=[]/\C.lsum f s.mem args=some L:=by
    split at eL
    ·exact ⟨rfl,eL⟩
    ·cases eL
   obtain ⟨rfl,hL⟩:=hcaps
   exact aEV hC ho hr hx hG hop hc ef eargs hL h
  split at h
  ·rename_i S eS
   have hcaps:caps=[]/\C.sum f s.mem args=some S:=by
    cases caps with
    | nil=>exact ⟨rfl,eS⟩
    | cons _ _=>cases eS
   obtain ⟨rfl,hS⟩:=hcaps
   split at h
   ·rename_i g x' m' ec
    simp only [Option.some.injEq,Res.ok.injEq] at h
    obtain ⟨rfl,rfl,rfl⟩:=h
    have hfv:a.eval fo=.func (.func f) #[] #[]:=by
     obtain ⟨_,_,h1⟩:=Ba hr hx ef
     rcases h1 with ⟨p,hp,_⟩ | ⟨rs,h1,h2⟩
     ·simp at hp
     ·simpa using h2
    refine aP ho hr hG (NL hr hx eargs) ec fun z hz St rs _ hSl hGl hsr hnd hrs=>⟨f,(c.args.toList.map a.eval).toArray,?_,(hC.sums f _ _ S hS).calls z hz σ.w St _ rs hSl hGl hsr hnd hrs⟩
    simp only [execOp,hop,resolve,hc,hfv]
    simp only [Deferred.ofValue,Sem.run_bind,Sem.run_pure,Result.andThen_ok,invoke]
    congr 2
    apply Array.toList_inj.1
    simp
   ·cases h
  ·have h2:=(AF h).2; cases h2
 ·rename_i ef _
  exact absurd ef (hnv _)
 ·cases h
theorem pM {mem:Ae} {T:TypeId} {args:List SV} {S:SumF}:∀ {l:List (TypeId×SumF)},MQ mem T args l=some S->(T,S)∈l
 | [],h=>by simp [MQ] at h
 | (T',S')::r,h=>by
  unfold MQ at h
  cases hb:Nat.beq T' T&&MT mem S'.ins args with
  | true =>
   rw [hb] at h
   cases h
   simp only [Bool.and_eq_true] at hb
   rw [Nat.eq_of_beq_eq_true hb.1]
   simp
  | false =>
   rw [hb] at h
   exact List.mem_cons_of_mem _ (pM h)
theorem pR {mem:Ae} {m:String} {args:List SV} {S:SumM}:∀ {l:List (String×SumM)},MR mem m args l=some S->(m,S)∈l
 | [],h=>by simp [MR] at h
 | (m',S')::r,h=>by
  unfold MR at h
  cases hb:m'==m&&MT mem S'.ins args with
  | true =>
   rw [hb] at h
   cases h
   simp only [Bool.and_eq_true,beq_iff_eq] at hb
   rw [hb.1]
   simp
  | false =>
   rw [hb] at h
   exact List.mem_cons_of_mem _ (pR h)
theorem aEQ (hC:SumsOk C) (ho:Ok base S0 σ) (hr:RelT σ s a) (hx:A5 a ctx) (hG:GlobsOk C.globs σ.w σ.S) {c:Call} {fo:Operand} (hop:o.op=.call c) (hc:c.callee=.value fo) {v:Option (Nat×List Nat)} (ef:AP s ctx fo=some (.fnv v)) (h:Aq C s ctx o=some (.ok true x mem')):Bj C base S0 id σ a o x mem':=by
 unfold Aq at h
 rw [hop] at h
 cases eargs:DF s ctx c.args.toList with
 | none=>simp only [hc,ef,eargs] at h; cases h
 | some args =>
  simp only [hc,ef,eargs] at h
  split at h
  ·rename_i S eS
   split at h
   ·rename_i g x' m' ec
    simp only [Option.some.injEq,Res.ok.injEq] at h
    obtain ⟨rfl,rfl,rfl⟩:=h
    refine aP ho hr hG (NL hr hx eargs) ec fun z hz St rs hS hSl hGl hsr hnd hrs=>?_
    obtain ⟨f,cs,S1,rfl,hfn,h1,h2,k3,k4⟩:=hC.fns _ _ (pM eS) v z hz
    obtain ⟨ps,hy,hp1,hp2⟩:=Ba hr hx ef
    have hy:a.eval fo=.func (.func f) #[] ps.toArray:=by simpa using hy
    refine ⟨f,(c.args.toList.map a.eval++ps).toArray,?_,?_⟩
    ·simp only [execOp,hop,resolve,hc,hy]
     simp only [Deferred.ofValue,Sem.run_bind,Sem.run_pure,Result.andThen_ok,invoke]
     congr 2
     apply Array.toList_inj.1
     simp
    ·obtain ⟨ins,outs,pre,F⟩:=S1
     obtain ⟨ins',outs',pre',F'⟩:=S
     simp only at h1 h2
     subst h1
     subst h2
     have:=hfn.calls z k3 σ.w St _ rs ps hSl hGl hsr hnd hrs (QK.mono hS (fun _ _=>rfl) ⟨hp1,hp2⟩)
     have k4:F' (some (f,cs)) z=F z:=k4
     simp only [SumF.at]
     rw [k4]
     exact this
   ·cases h
  ·cases h
theorem aIf {P:Program} {m:String} {T:TypeId} {f:FuncId} (h:WE P m T f=true) (v:Value) (args:Array Value) (w:World):(callMethod (.iface T v) m args).run P w=(callFunc f (#[v]++args)).run P w:=by
 unfold WE at h
 split at h
 ·rename_i i fs e1 e2
  split at h
  ·rename_i row e3
   split at h
   ·rename_i g e4 e5
    have hg:g=f:=Nat.eq_of_beq_eq_true h
    subst hg
    have hm:(method (P.types.size+Made.depth) T v m).run P w=.ok (g,v) w:=by
     obtain ⟨k,hk⟩:∃ k,P.types.size+Made.depth=k+1:=⟨P.types.size+Made.depth-1,by unfold Made.depth; omega⟩
     rw [hk]
     have hti:(typeInfo T).run P w=.ok i w:=by simp [typeInfo,e1]
     simp only [method,Sem.run_bind,hti,Result.andThen_ok,e3,e4,e5,follow,Sem.run_pure,receiverAt,Cf e2,Place.get]
    unfold callMethod
    simp only [Sem.run_bind]
    have hp:(program:Sem Program).run P w=.ok P w:=rfl
    rw [hp]
    simp only [Result.andThen_ok,Sem.run_bind,hm]
   ·cases h
  ·cases h
 ·cases h
theorem aET (hC:SumsOk C) (ho:Ok base S0 σ) (hr:RelT σ s a) (hx:A5 a ctx) (hG:GlobsOk C.globs σ.w σ.S) {c:Call} {q:Operand} {m:String} (hop:o.op=.call c) (hc:c.callee=.invoke q m) (h:Aq C s ctx o=some (.ok true x mem')):Bj C base S0 id σ a o x mem':=by
 unfold Aq at h
 rw [hop] at h
 simp only [hc] at h
 split at h
 ·rename_i d args ef eargs
  split at h
  ·rename_i S eS
   split at h
   ·rename_i g x' m' ec
    simp only [Option.some.injEq,Res.ok.injEq] at h
    obtain ⟨rfl,rfl,rfl⟩:=h
    refine aP ho hr hG (NL hr hx eargs) ec fun z hz St rs hS hSl hGl hsr hnd hrs=>?_
    obtain ⟨T,ns,f,S1,rfl,hm,hms,h1,h2,k4,k5⟩:=hC.meths _ _ (pR eS) d z hz
    obtain ⟨hy,hbnd⟩:=Ba hr hx ef
    have hy:a.eval q=.iface T (.agg (ns.map (Value.int .i64)).toArray):=by simpa using hy
    refine ⟨f,(.agg (ns.map (Value.int .i64)).toArray::c.args.toList.map a.eval).toArray,?_,?_⟩
    ·simp only [execOp,hop,resolve,hc,hy]
     simp only [Sem.run_bind,Sem.run_pure,Result.andThen_ok,invoke]
     have e:(#[Value.iface T (.agg (ns.map (Value.int .i64)).toArray)]++Array.map a.eval c.args)[0]? = some (.iface T (.agg (ns.map (Value.int .i64)).toArray)):=by rw [Array.getElem?_append_left (by simp)]; rfl
     simp only [e]
     rw [aIf hm]
     congr 2
     apply Array.toList_inj.1
     simp only [Array.toList_append,Array.toList_extract,Array.toList_map,List.extract]
     simp [List.take_of_length_le]
    ·obtain ⟨ins1,outs1,pre1,F1⟩:=S1
     obtain ⟨ins',outs',pre',F'⟩:=S
     simp only at h1 h2
     subst h1
     subst h2
     have:=(hms hbnd).calls z k4 σ.w St (c.args.toList.map a.eval) rs hSl hGl hsr hnd hrs
     have k5:F' (some (T,ns)) z=F1 z:=k5
     simp only [SumM.at]
     rw [k5]
     exact this
   ·cases h
  ·cases h
 ·cases h
theorem rU {σ:Sit}:∀ {cs:List SC} {ns:List Int} {ys:List Value},Tr cs=some ns->All2 (Ap σ) cs ys->ys=ns.map (Value.int .i64)/\∀ n∈ns,IntKind.i64.min<=n/\n<=IntKind.i64.max
 | [],ns,_,h,.nil=>by simp [Tr] at h; subst h; simp
 | c::cs,ns,_,h,.cons hc ht=>by
  unfold Tr at h
  split at h
  ·rename_i e; cases e
  ·rename_i n r e
   cases e
   split at h
   ·rename_i l e2
    cases h
    obtain ⟨k1,k2⟩:=rU e2 ht
    obtain ⟨rfl,hb⟩:=hc
    refine ⟨by rw [k1]; rfl,fun z hz=>?_⟩
    rcases List.mem_cons.1 hz with rfl | hz
    ·exact hb
    ·exact k2 z hz
   ·cases h
  ·cases h
theorem aEY (ho:Ok base S0 σ) (hr:RelT σ s a) (hx:A5 a ctx) {T:TypeId} {y:Operand} (hop:o.op=.makeInterface T y) (h:Aq C s ctx o=some (.ok true x mem')):Bj C base S0 id σ a o x mem':=by
 unfold Aq at h
 rw [hop] at h
 simp only at h
 split at h
 ·rename_i cs fs ey hT
  split at h
  ·rename_i ns en
   simp only [Option.some.injEq,Res.ok.injEq,true_and] at h
   obtain ⟨rfl,rfl⟩:=h
   obtain ⟨ys,e,ha⟩:=Fz hr hx ey
   obtain ⟨k1,k2⟩:=rU en ha
   subst k1
   refine AO (σ':=σ) (v:=.iface T (.agg (ns.map (Value.int .i64)).toArray)) ?_ ho (Goes.refl σ).moves hr.mem ⟨rfl,k2⟩
   simp only [execOp,hop,e]
   refine BF ?_
   unfold Instr.makeInterface
   simp only [Sem.run_bind,Cf hT,Result.andThen_ok,Sem.run_pure]
  ·cases h
 ·cases h
theorem Ql (hC:SumsOk C) (ho:Ok base S0 σ) (hr:RelT σ s a) (hx:A5 a ctx) (hG:GlobsOk C.globs σ.w σ.S) (hna:∀ c,o.op=.call c->c.callee≠.builtin .append) (h:Aq C s ctx o=some (.ok true x mem')):Bj C base S0 id σ a o x mem':=by
 cases hop:o.op with
 | move y=>exact tV ho hr hx (.inl hop) h
 | assign y=>exact tV ho hr hx (.inr hop) h
 | pick c A B=>exact aE3 ho hr hx hop h
 | alloc T=>exact aEF ho hr hop h
 | box T y=>exact aEI ho hr hx hop h
 | build T ps=>exact aEJ ho hr hx hop h
 | buildSlice T n ps=>exact aEK ho hr hx hop h
 | load T y=>exact aEW ho hr hx hop h
 | store T y z=>exact aE5 ho hr hx hop h
 | nilCheck y=>exact aE2 ho hr hx hop h
 | binOp op T y z T'=>exact aEH ho hr hx hop h
 | unOp op T y=>exact aE9 ho hr hx hop h
 | convert T T' y=>exact aEL ho hr hx hop h
 | makeSlice T l c=>exact aEZ ho hr hx hop h
 | slice T y lo hi mx =>
  cases hs:JX C s ctx T y lo hi mx with
  | some p=>exact aE6 ho hr hx hop (g:=p.1) (c:=p.2) hs h
  | none =>
   cases ht:M8 C s ctx y lo mx with
   | none=>exact aE4 ho hr hx hop hs ht h
   | some b=>exact aE8 ho hr hx hop hs ht h
 | fieldAddr T y i=>exact aEP ho hr hx hop h
 | field T y i=>exact aEO ho hr hx hop h
 | indexAddr T y z=>exact aES ho hr hx (aDL hG) hop h
 | index T y z=>exact aER ho hr hx hop h
 | extract y i=>exact aEN ho hr hx hop h
 | makeFunc fn first captured=>exact aEX ho hr hx hop h
 | makeInterface T y=>exact aEY ho hr hx hop h
 | call c =>
  cases hc:c.callee with
  | value fo =>
   cases ef:AP s ctx fo with
   | none=>unfold Aq at h; rw [hop] at h; simp only [hc,ef] at h; cases h
   | some c0 =>
    by_cases hv:∃ v,c0=.fnv v
    ·obtain ⟨v,rfl⟩:=hv
     exact aEQ hC ho hr hx hG hop hc ef h
    ·exact aE7 hC ho hr hx hG hop hc (fun v e=>hv ⟨v,Option.some.inj (ef.symm.trans e)⟩) h
  | invoke r m=>exact aET hC ho hr hx hG hop hc h
  | builtin b =>
   cases b with
   | len=>exact aEU ho hr hx hop hc h
   | min=>exact aE1 ho hr hx hop hc h
   | max=>exact aE0 ho hr hx hop hc h
   | append=>exact absurd hc (hna c hop)
   | copy=>exact aEM ho hr hx hop hc h
   | _=>unfold Aq at h; rw [hop] at h; simp only [hc] at h; cases h
 | _=>unfold Aq at h; rw [hop] at h; simp only at h; cases h
end Vx
namespace Vx
open Go Go.RowKit
structure Adv (σ σ':Sit):Prop where
 stab:∀ r,σ.S r->σ'.S r
 heap:∀ r,σ.S r->σ'.w.heap[r]? = σ.w.heap[r]?
 rep:∀ c y,Ap σ c y->Ap σ' (Gy σ.mem c) y
 len:σ.mem.length<=σ'.mem.length
 noacc:∀ b,b<σ.mem.length->Fv (Ad σ'.mem b)->Fv (Ad σ.mem b)
theorem NJ {mem:Ae} {b:Nat}:Gy mem (.own b)=.undef/\Fv (Ad mem b)∨Gy mem (.own b)=.own b/\¬ Fv (Ad mem b):=by
 simp only [Gy]
 cases Ad mem b with
 | acc _ _=>exact .inl ⟨rfl,trivial⟩
 | _=>exact .inr ⟨rfl,fun h=>h⟩
theorem pD {mem:Ae} {c:SC} (h:∀ b,c≠.own b):Gy mem c=c:=by
 cases c with
 | own b=>exact absurd rfl (h b)
 | _=>rfl
theorem Adv.refl (σ:Sit):Adv σ σ:=by
 refine ⟨fun _ h=>h,fun _ _=>rfl,fun c y h=>?_,Nat.le_refl _,fun _ _ h=>h⟩
 cases c with
 | own b =>
  rcases NJ (mem:=σ.mem) (b:=b) with ⟨e,_⟩ | ⟨e,_⟩
  ·rw [e]; exact h.2.1
  ·rw [e]; exact h
 | _=>exact h
theorem Adv.trans {σ σ' σ'':Sit} (h:Adv σ σ') (h':Adv σ' σ''):Adv σ σ'':=by
 refine ⟨fun r hr=>h'.stab r (h.stab r hr),fun r hr=>(h'.heap r (h.stab r hr)).trans (h.heap r hr),fun c y hc=>?_,Nat.le_trans h.len h'.len,fun b hb ha=>h.noacc b hb (h'.noacc b (Nat.lt_of_lt_of_le hb h.len) ha)⟩
 have h1:=h.rep c y hc
 have h2:=h'.rep _ y h1
 by_cases hown:∃ b,c=.own b
 ·obtain ⟨b,rfl⟩:=hown
  rcases NJ (mem:=σ.mem) (b:=b) with ⟨e,_⟩ | ⟨e,hn⟩
  ·rw [e]; exact hc.2.1
  ·rw [e] at h2 ⊢
   rcases NJ (mem:=σ'.mem) (b:=b) with ⟨e',ha⟩ | ⟨e',_⟩
   ·exact absurd (h.noacc b hc.1 ha) hn
   ·rw [e'] at h2; exact h2
 ·have hne:∀ b,c≠.own b:=fun b e=>hown ⟨b,e⟩
  rw [pD hne] at h2 ⊢
  rw [pD hne] at h2
  exact h2
theorem Moves.adv_id {σ σ':Sit} (h:Moves id σ σ'):Adv σ σ':=by
 refine ⟨h.stab,h.heap,fun c y hc=>?_,h.len,h.noacc⟩
 have h1:=h.rep c y hc
 cases c with
 | own b =>
  rcases NJ (mem:=σ.mem) (b:=b) with ⟨e,_⟩ | ⟨e,_⟩
  ·rw [e]; exact hc.2.1
  ·rw [e]; exact h1
 | _=>exact h1
theorem Moves.adv_own {σ σ':Sit} {b:Nat} (h:Moves (Do b) σ σ') (hb:Fv (Ad σ'.mem b)):Adv σ σ':=by
 refine ⟨h.stab,h.heap,fun c y hc=>?_,h.len,h.noacc⟩
 have h1:=h.rep c y hc
 cases c with
 | own b' =>
  rcases NJ (mem:=σ.mem) (b:=b') with ⟨e,_⟩ | ⟨e,hn⟩
  ·rw [e]; exact hc.2.1
  ·rw [e]
   simp only [Do] at h1
   cases hbb:Nat.beq b b' with
   | true =>
    have:b=b':=Nat.eq_of_beq_eq_true hbb
    subst this
    exact absurd (h.noacc b hc.1 hb) hn
   | false=>rw [hbb] at h1; exact h1
 | _=>exact h1
theorem Goes.adv {σ σ':Sit} (h:Goes σ σ'):Adv σ σ':=h.moves.adv_id
theorem AQ.drop {σ σ':Sit} {f:SC->SC} (hm:∀ c y,Ap σ c y->Ap σ' (f c) y) {fT:TV->TV} (hf:∀ x,fT x=match x with
  | .un=>.un
  | .val (.one c)=>.val (.one (f c))
  | .val (.agg cs)=>.val (.agg (cs.map f))
  | .tup l=>.tup (l.map fun v=>match v with | .one c=>.one (f c) | .agg cs=>.agg (cs.map f))) {x:TV} {y:Value} (h:AQ σ x y):AQ σ' (fT x) y:=by
 rw [hf]
 have hv:∀ v y,AS σ v y->AS σ' (match v with | .one c=>.one (f c) | .agg cs=>.agg (cs.map f)) y:=fun v y hv=>by
  cases v with
  | one c=>exact hm c y hv
  | agg cs=>obtain ⟨ys,e,ha⟩:=hv; exact ⟨ys,e,ha.mapL f hm⟩
 cases x with
 | un=>trivial
 | val v=>cases v with
  | one c=>exact hv (.one c) y h
  | agg cs=>exact hv (.agg cs) y h
 | tup l =>
  obtain ⟨h1,ys,e,ha⟩:=h
  exact ⟨by simpa using h1,ys,e,ha.mapL _ hv⟩
theorem AQ.keep {σ σ':Sit} (hm:∀ c y,Ap σ c y->Ap σ' (id c) y) {x:TV} {y:Value} (h:AQ σ x y):AQ σ' x y:=by
 have hv:∀ v y,AS σ v y->AS σ' v y:=fun v y hv=>by
  cases v with
  | one c=>exact hm c y hv
  | agg cs=>obtain ⟨ys,e,ha⟩:=hv; exact ⟨ys,e,ha.mono hm⟩
 cases x with
 | un=>trivial
 | val v=>exact hv v y h
 | tup l =>
  obtain ⟨h1,ys,e,ha⟩:=h
  exact ⟨h1,ys,e,ha.mono hv⟩
theorem aCD (b:Nat) (x:TV):NK b x=match x with
  | .un=>.un
  | .val (.one c)=>.val (.one (Do b c))
  | .val (.agg cs)=>.val (.agg (cs.map (Do b)))
  | .tup l=>.tup (l.map fun v=>match v with | .one c=>.one (Do b c) | .agg cs=>.agg (cs.map (Do b))):=by
 cases x with
 | un=>rfl
 | val v=>cases v <;> rfl
 | tup l=>simp only [NK]; congr 1
theorem pB (m:Ae) (x:TV):NI m x=match x with
  | .un=>.un
  | .val (.one c)=>.val (.one (Gy m c))
  | .val (.agg cs)=>.val (.agg (cs.map (Gy m)))
  | .tup l=>.tup (l.map fun v=>match v with | .one c=>.one (Gy m c) | .agg cs=>.agg (cs.map (Gy m))):=by
 cases x with
 | un=>rfl
 | val v=>cases v <;> rfl
 | tup l=>simp only [NI]; congr 1
theorem cT {g:TV->TV} (hg:g .un=.un):∀ (tm:List (Nat×TV)) (t:Nat),AM (tm.map fun p=>(p.1,g p.2)) t=g (AM tm t)
 | [],t=>by simp [AM,hg]
 | (n,x)::r,t=>by
  simp only [List.map_cons,AM]
  cases Nat.beq n t with
  | true=>rfl
  | false=>exact cT hg r t
theorem JE {a:Act} {d:Nat} {v:Value} (hd:d<a.tmps.size) (t:Nat):(a.put (some d) v).tmps.getD t undef=if t=d then v else a.tmps.getD t undef:=by
 simp only [Act.put]
 rw [Array.getD_eq_getD_getElem?,Array.getD_eq_getD_getElem?]
 by_cases h:t=d
 ·subst h; rw [Array.getElem?_setIfInBounds_self_of_lt hd]; simp
 ·rw [Array.getElem?_setIfInBounds_ne (fun e=>h e.symm),if_neg h]
theorem dZ:∀ {cs:List (Nat×Nat×Bool×TV)} {d:Nat},EA d cs=true->∀ e g p x,(e,g,p,x)∈cs->e≠d/\g≠d
 | [],_,_,_,_,_,_,h=>by simp at h
 | (e',g',p',x')::r,d,h,e,g,p,x,hm=>by
  simp only [EA,Bool.and_eq_true,Bool.not_eq_true'] at h
  rcases List.mem_cons.1 hm with h' | h'
  ·cases h'
   refine ⟨fun e=>?_,fun e=>?_⟩
   ·subst e; simp [Nat.beq_refl] at h
   ·subst e; simp [Nat.beq_refl] at h
  ·exact dZ h.2 e g p x h'
variable {C:Cfg} {base:Base} {S0:Nat->Prop} {σ:Sit} {s s':St} {a:Act} {o:Oper}
theorem Xd {σ':Sit} {fT:TV->TV} (hun:fT .un=.un) (hm:∀ x y,AQ σ x y->AQ σ' (fT x) y) (hr:RelT σ s a) {x:TV} {v:Value} (hv:AQ σ' x v) {mem:Ae} (hmem:σ'.mem=mem)
  (h:M1 { s with tm:=s.tm.map fun p=>(p.1,fT p.2),cs:=s.cs.map fun p=>(p.1,p.2.1,p.2.2.1,fT p.2.2.2) } o x mem=some s'):RelT σ' s' (a.put o.dst v):=by
 unfold M1 at h
 cases hd:o.dst with
 | none =>
  rw [hd] at h
  simp only [Option.some.injEq] at h
  subst h
  refine ⟨hr.size,hr.defers,hmem,fun t=>?_,fun d g p y hmm=>?_⟩
  ·simp only [cT hun]; exact hm _ _ (hr.tm t)
  ·obtain ⟨q,hq,he⟩:=List.mem_map.1 hmm
   cases he
   have:=hr.cs _ _ _ _ hq
   exact ⟨fun h=>hm _ _ (this.1 h),this.2⟩
 | some d =>
  rw [hd] at h
  simp only at h
  cases hb:(EA d (s.cs.map fun p=>(p.1,p.2.1,p.2.2.1,fT p.2.2.2))&&Nat.blt d s.n) with
  | false=>rw [hb] at h; cases h
  | true =>
   rw [hb] at h
   simp only [Bool.and_eq_true] at hb
   simp only [cond_true,Option.some.injEq] at h
   subst h
   have hdl:d<a.tmps.size:=by rw [hr.size]; simpa using hb.2
   refine ⟨by simp [Act.put,hr.size],hr.defers,hmem,fun t=>?_,fun e g p y hmm=>?_⟩
   ·rw [JE hdl]
    simp only [AM]
    by_cases h:t=d
    ·subst h; rw [if_pos rfl,Nat.beq_refl]; exact hv
    ·rw [if_neg h]
     have:Nat.beq d t=false:=by
      cases hq:Nat.beq d t with
      | false=>rfl
      | true=>exact absurd (Nat.eq_of_beq_eq_true hq).symm h
     rw [this,cond_false,cT hun]
     exact hm _ _ (hr.tm t)
   ·obtain ⟨h1,h2⟩:=dZ hb.1 e g p y hmm
    rw [JE hdl,JE hdl,if_neg h1,if_neg h2]
    obtain ⟨q,hq,he⟩:=List.mem_map.1 hmm
    cases he
    have:=hr.cs _ _ _ _ hq
    exact ⟨fun h=>hm _ _ (this.1 h),this.2⟩
theorem gS {ops:Array Oper} {gi:Nat} {p:Bool} {t:Nat} (hg:o.guard=some (gi,p)) (ht:D0 ops.toList gi=some t):Region.wanted o (yielded ops a.tmps)=true↔a.tmps.getD t undef=.bool p:=by
 unfold Region.wanted
 rw [hg]
 simp only [beq_iff_eq]
 unfold yielded
 have hd:(ops[gi]?).bind (·.dst)=some t:=by
  unfold D0 at ht
  split at ht
  ·rename_i o' e
   have:ops[gi]? = some o':=by simpa using e
   rw [this]; exact ht
  ·cases ht
 rw [hd]
 simp only [Option.bind_some]
 rw [Array.getD_eq_getD_getElem?]
 cases e:a.tmps[t]? with
 | none=>simp [undef]
 | some v=>cases v <;> simp
theorem aN (ho:Ok base S0 σ) (hm:σ.mem=s.mem) {S:Sum} {args:List SV} {g:Bool} {x:TV} {mem:Ae} (h:Er s.mem S args=some (g,x,mem)) (hst:Nat.beq mem.length s.mem.length=true) :
  ∃ σ1:Sit,σ1.mem=mem/\σ1.w=σ.w/\Ok base S0 σ1/\Goes σ σ1:=by
 unfold Er at h
 cases hf:AY s.mem S.ins args with
 | mk args' m1 =>
  rw [hf] at h
  simp only at h
  have hlen:=aCX hf
  rw [← hm] at hf
  obtain ⟨σ1,a1,a2,a3,a4,a5,a6⟩:=NS ho hf
  split at h
  ·rename_i zm ez
   obtain ⟨z,m2⟩:=zm
   simp only at h
   split at h
   ·rename_i vs m3 ev
    simp only [Option.some.injEq,Prod.mk.injEq] at h
    obtain ⟨_,_,rfl⟩:=h
    rw [← a1] at ez
    obtain ⟨σ2,b1,b2,b3,b4,b5⟩:=w9 a4 ez
    have hst:=Nat.eq_of_beq_eq_true hst
    have:=rE ev (by rw [hst,b5,a1,hlen])
    exact ⟨σ2,by rw [b1,this],b2.trans a2,b3,a5.trans b4⟩
   ·cases h
  ·cases h
theorem aDV {ctx:List (Nat×Bool)} (ho:Ok base S0 σ) (hm:σ.mem=s.mem) {g:Bool} {x:TV} {mem:Ae} (hgd:o.guard≠none) (hl:JH o.op=true) (hst:DL o.op s.mem mem=true) (h:Aq C s ctx o=some (.ok g x mem)) :
  ∃ σ1:Sit,σ1.mem=mem/\σ1.w=σ.w/\Ok base S0 σ1/\Goes σ σ1:=by
 have same:mem=s.mem->∃ σ1:Sit,σ1.mem=mem/\σ1.w=σ.w/\Ok base S0 σ1/\Goes σ σ1:=fun e=>⟨σ,hm.trans e.symm,rfl,ho,Goes.refl σ⟩
 unfold Aq at h
 cases hop:o.op with
 | alloc T=>rw [hop] at hl; cases hl
 | box T y=>rw [hop] at hl; cases hl
 | store T y z=>rw [hop] at hl; cases hl
 | makeSlice T l c=>rw [hop] at hl; cases hl
 | buildSlice T n ps =>
  rw [hop] at h
  simp only at h
  split at h
  ·split at h
   ·split at h
    ·rename_i cs ecs
     cases hf:DZ s.mem cs with
     | mk cs' m1 =>
      rw [hf] at h
      simp only at h
      split at h
      ·rw [← hm] at hf
       obtain ⟨σ1,a1,a2,a3,a4,a5,a6⟩:=Ta ho hf
       have:=A8 (AF h).2
       exact ⟨σ1,a1.trans this.symm,a2,a4,a5⟩
      ·cases h
    ·cases h
   ·cases h
  ·cases h
 | slice T y lo hi mx =>
  rw [hop] at h
  simp only at h
  cases hsb:JX C s ctx T y lo hi mx with
  | some p=>rw [hsb] at h; exact same (A8 h)
  | none =>
  rw [hsb] at h
  simp only at h
  cases htr:M8 C s ctx y lo mx with
  | some b =>
   exfalso
   rw [htr] at h
   simp only at h
   (repeat' split at h) <;> first | (cases h; done) | skip
   have:=A8 h
   unfold DL at hst
   rw [hop,this] at hst
   have hst:=Nat.eq_of_beq_eq_true hst
   simp at hst
  | none =>
  rw [htr] at h
  simp only at h
  split at h
  ·rename_i c hT ec
   split at h
   ·cases hf:CM s.mem c with
    | mk c' m1 =>
     rw [hf] at h
     simp only at h
     rw [← hm] at hf
     obtain ⟨σ1,a1,a2,a3,a4,a5,a6⟩:=MU ho hf
     split at h
     ·split at h
      ·exact ⟨σ1,a1.trans (A8 h).symm,a2,a4,a5⟩
      ·cases h
     ·cases h
   ·cases h
  ·cases h
 | indexAddr T y z =>
  rw [hop] at h
  simp only at h
  split at h
  ·split at h
   ·exact same (A8 (AF (Dc h)).2)
   ·cases h
  ·split at h
   ·exact same (A8 (Dc h))
   ·cases h
  ·split at h
   ·split at h
    ·split at h
     ·exact same (A8 (Dc h))
     ·rename_i eb
      have:=A8 (Dc h)
      rw [← hm] at eb this
      obtain ⟨σ1,a1,a2,a3,a4,a5⟩:=We ho (.inr eb)
      exact ⟨σ1,a1.trans this.symm,a2,a4,a5⟩
     ·exact same (A8 (Dc h))
     ·cases h
    ·exact same (A8 (Dc h))
    ·split at h
     ·exact same (A8 (Dc h))
     ·cases h
    ·cases h
   ·cases h
  ·cases h
 | call c =>
  rw [hop] at h hl
  simp only at h
  cases hc:c.callee with
  | value fo =>
   have hlen:Nat.beq mem.length s.mem.length=true:=by unfold DL at hst; rw [hop] at hst; simpa only [hc] using hst
   simp only [hc] at h
   split at h
   ·rename_i f caps args ef eargs
    split at h
    ·rename_i L eL
     exfalso
     split at eL
     ·rename_i e; exact hgd e
     ·cases eL
    split at h
    ·split at h
     ·rename_i ec
      rw [← A8 h] at ec
      exact aN ho hm ec hlen
     ·cases h
    ·have h2:=(AF h).2; cases h2
   ·split at h
    ·split at h
     ·rename_i ec
      rw [← A8 h] at ec
      exact aN ho hm ec hlen
     ·cases h
    ·cases h
   ·cases h
  | invoke r m =>
   have hlen:Nat.beq mem.length s.mem.length=true:=by unfold DL at hst; rw [hop] at hst; simpa only [hc] using hst
   simp only [hc] at h
   split at h
   ·split at h
    ·split at h
     ·rename_i ec
      rw [← A8 h] at ec
      exact aN ho hm ec hlen
     ·cases h
    ·cases h
   ·cases h
  | builtin b =>
   simp only [JH,hc] at hl
   simp only [hc] at h
   cases b <;> simp only at h hl <;> first | (cases hl; done) | (cases h; done) | (repeat' split at h) <;> first | (cases h; done) | exact same (A8 h) | exact same (A8 (AF h).2) | exact same (A8 (Dc h))
 | _ =>
  rw [hop] at h
  simp only at h
  (repeat' split at h) <;> first | (cases h; done) | exact same (A8 h) | exact same (A8 (AF h).2) | exact same (A8 (Dc h)) | (have h2:=(AF h).2; cases h2)
theorem fQ {σ':Sit} (hr:RelT σ s a) {d t:Nat} {p:Bool} {x:TV} {v:Value} {mem:Ae} (hdl:d<a.tmps.size) (hdt:t≠d) (hnt:EA d s.cs=true) (hm:∀ x y,AQ σ x y->AQ σ' x y) (hmem:σ'.mem=mem)
  (h1:a.tmps.getD t undef=.bool p->AQ σ' x v) (h2:a.tmps.getD t undef≠.bool p->v=undef):RelT σ' (TL s d t p x mem) (a.put (some d) v):=by
 refine ⟨by simp [Act.put,hr.size,TL],hr.defers,hmem,fun q=>?_,fun e g' p' y hmm=>?_⟩
 ·rw [JE hdl]
  simp only [TL,AM]
  by_cases h:q=d
  ·subst h; rw [Nat.beq_refl]; trivial
  ·rw [if_neg h]
   have:Nat.beq d q=false:=by
    cases hq:Nat.beq d q with
    | false=>rfl
    | true=>exact absurd (Nat.eq_of_beq_eq_true hq).symm h
   rw [this,cond_false]
   exact hm _ _ (hr.tm q)
 ·rcases List.mem_cons.1 hmm with h | h
  ·cases h
   rw [JE hdl,JE hdl,if_neg hdt,if_pos rfl]
   exact ⟨h1,h2⟩
  ·obtain ⟨n1,n2⟩:=dZ hnt e g' p' y h
   rw [JE hdl,JE hdl,if_neg n1,if_neg n2]
   have:=hr.cs _ _ _ _ h
   exact ⟨fun h=>hm _ _ (this.1 h),this.2⟩
theorem aIX (hC:SumsOk C) (ho:Ok base S0 σ) (hr:RelT σ s a) (hG:GlobsOk C.globs σ.w σ.S) {ops:Array Oper} (h:step C ops.toList o s=some (.ok true s')) {K:Act->World->Prop} {Q:Exit->Act->World->Prop}
  (hK:∀ a' σ',Ok base S0 σ'->Adv σ σ'->RelT σ' s' a'->K a' σ'.w) :
  if Region.wanted o (yielded ops a.tmps) then o.wp C.P a σ.w K Q else K (a.put o.dst undef) σ.w:=by
 unfold step at h
 cases hg:o.guard with
 | none =>
  rw [hg] at h
  simp only at h
  rw [if_pos (by simp [Region.wanted,hg])]
  split at h
  ·rename_i g x mem hp
   by_cases happ:∃ c,o.op=.call c/\c.callee=.builtin .append
   ·obtain ⟨c,hop,hc⟩:=happ
    have hg1:g=true/\∃ b,x=.val (.one (.own b))/\M1 { s with tm:=s.tm.map fun p=>(p.1,NK b p.2),cs:=s.cs.map fun p=>(p.1,p.2.1,p.2.2.1,NK b p.2.2.2) } o x (mem.map (MN b))=some s':=by
     have hx:∃ b,x=.val (.one (.own b)):=by
      have hp':=hp
      unfold Aq at hp'
      rw [hop] at hp'
      simp only [hc] at hp'
      repeat' split at hp'
      all_goals first | (cases hp'; done) | (cases hp'; exact ⟨_,rfl⟩)
     obtain ⟨b,rfl⟩:=hx
     simp only [TY,hop,hc] at h
     split at h
     ·rename_i s'' e
      cases h
      exact ⟨rfl,b,rfl,e⟩
     ·cases h
    obtain ⟨rfl,b,rfl,hput⟩:=hg1
    obtain ⟨b',e,hac,hgood⟩:=aEG ho hr (fun _ _ h=>by simp at h) hop hc hp
    cases e
    refine hgood K Q fun v σ' k1 k2 k3 k4=>?_
    have hacc:Fv (Ad σ'.mem b):=by rw [k3]; exact hac
    exact hK _ σ' k1 (k2.adv_own hacc) (Xd (fT:=NK b) rfl (fun x y hxy=>AQ.drop k2.rep (aCD b) hxy) hr k4 k3 hput)
   ·have hstrip:TY o x s mem=(s,mem):=by
     unfold TY
     split
     ·rename_i c hop
      split
      ·rename_i hc; exact absurd ⟨c,hop,hc⟩ happ
      ·rfl
     ·rfl
    rw [hstrip] at h
    simp only at h
    split at h
    ·rename_i s'' e
     cases h
     refine Ql hC ho hr (fun _ _ h=>by simp at h) hG (fun c hop hc=>happ ⟨c,hop,hc⟩) hp K Q fun v σ' k1 k2 k3 k4=>?_
     refine hK _ σ' k1 k2.adv_id (Xd (fT:=id) rfl (fun x y hxy=>?_) hr k4 k3 ?_)
     ·exact AQ.keep k2.rep hxy
     ·simpa using e
    ·cases h
  ·cases h
  ·cases h
 | some gp =>
  obtain ⟨gi,p⟩:=gp
  rw [hg] at h
  simp only at h
  split at h
  ·rename_i t d ht hd
   cases hb:(JH o.op&&EA d s.cs&&!(Nat.beq d t)&&Nat.blt d s.n) with
   | false=>rw [hb] at h; cases h
   | true =>
    rw [hb] at h
    simp only [Bool.and_eq_true,Bool.not_eq_true'] at hb
    simp only [cond_true] at h
    split at h
    ·rename_i c g x mem hcv hp
     obtain ⟨hst,h⟩:=AF h
     simp only [Option.some.injEq,Step.ok.injEq,Bool.or_eq_true,Bool.not_eq_true'] at h
     obtain ⟨hgc,rfl⟩:=h
     have hdl:d<a.tmps.size:=by rw [hr.size]; simpa using hb.2
     have hdt:t≠d:=fun e=>by subst e; simp [Nat.beq_refl] at hb
     have hciff:=SS hr.tm hr.cs hcv
     have hwiff:=gS (a:=a) hg ht
     have hcs:∀ {σ':Sit} {v:Value},(∀ x y,AQ σ x y->AQ σ' x y)->σ'.mem=mem->(a.tmps.getD t undef=.bool p->AQ σ' x v)->(a.tmps.getD t undef≠.bool p->v=undef) ->
       RelT σ' { s with tm:=(d,.un)::s.tm,cs:=(d,t,p,x)::s.cs,mem:=mem } (a.put o.dst v):=fun {σ' v} hm hmem h1 h2=>by
      rw [hd]
      exact fQ hr hdl hdt hb.1.1.2 hm hmem h1 h2
     by_cases hw:Region.wanted o (yielded ops a.tmps)=true
     ·rw [if_pos hw]
      have htrue:=hwiff.1 hw
      have hc1:c=true:=hciff.2 htrue
      have hg1:g=true:=by
       rcases hgc with h | h
       ·exact h
       ·rw [hc1] at h; cases h
      subst hg1
      have happ:∀ c,o.op=.call c->c.callee≠.builtin .append:=fun c hop hc=>by
       have:=hb.1.1.1
       unfold JH at this
       rw [hop] at this
       simp only [hc] at this
       cases this
      refine Ql hC ho hr (SR hr.cs htrue) hG happ hp K Q fun v σ' k1 k2 k3 k4=>?_
      exact hK _ σ' k1 k2.adv_id (hcs (fun x y hxy=>AQ.keep k2.rep hxy) k3 (fun _=>k4) (fun hn=>absurd htrue hn))
     ·rw [if_neg hw]
      have hfalse:a.tmps.getD t undef≠.bool p:=fun e=>hw (hwiff.2 e)
      obtain ⟨σ1,b1,b2,b3,b4⟩:=aDV ho hr.mem (by rw [hg]; simp) hb.1.1.1 hst hp
      have:=hK (a.put o.dst undef) σ1 b3 b4.adv (hcs (fun x y hxy=>b4.repT hxy) b1 (fun e=>absurd e hfalse) (fun _=>rfl))
      rw [b2] at this
      exact this
    ·cases h
    ·cases h
  ·cases h
end Vx
namespace Vx
open Go Go.RowKit
variable {C:Cfg} {base:Base} {S0:Nat->Prop} {σ σ0:Sit} {s s':St} {a:Act} {R:Type} {r:R}
structure ProgOk (C:Cfg):Prop where
 sums:SumsOk C
 mixed:C.P.follows .mixedOrders=true
def On (C:Cfg) (inl:FuncId->List SV->Ae->(List SV->Ae->Option R)->Option R):Prop :=
 ∀ f args mem k r,inl f args mem k=some r->∀ base S0 (σ:Sit) ys,Ok base S0 σ->σ.mem=mem->GlobsOk C.globs σ.w σ.S->All2 (AS σ) args ys ->
  (∃ fn, C.P.funcs[f]? = some fn /\ fn.body.isNone = false /\ (fn.name == "runtime.NumGoroutine") = false) /\
  Calls C.P f ys.toArray σ.w fun e w'=>∃ (σ':Sit) (rs:List SV) (zs:List Value),e=.returned (De zs)/\σ'.w=w'/\Ok base S0 σ'/\Adv σ σ'/\All2 (AS σ') rs zs/\k rs σ'.mem=some r
theorem GlobsOk.adv {G:List (Nat×Sigma fun τ=>List (Aa τ))} {σ σ':Sit} (h:GlobsOk G σ.w σ.S) (ha:Adv σ σ'):GlobsOk G σ'.w σ'.S:=h.mono ha.stab ha.heap
def Ix (base:Base) (S0:Nat->Prop) (σ0:Sit) (r:R) (kn:St->Option R) (ke:Nat->St->Option R) (kr:St->Option R) (e:Exit) (a':Act) (w':World):Prop :=
 ∃ (σ':Sit) (s':St),σ'.w=w'/\Ok base S0 σ'/\Adv σ0 σ'/\RelT σ' s' a'/\s'.m0=σ0.mem.length/\(match e with
  | .normal=>kn s'=some r
  | .exit id=>ke id s'=some r
  | .ret=>kr s'=some r
  | _=>False)
theorem aIW {ops:List Oper} {o:Oper} {g:Bool} (h:step C ops o s=some (.ok g s')):s'.m0=s.m0:=by
 unfold step at h
 have hput:∀ {s1 s2:St} {x:TV} {mem:Ae},M1 s1 o x mem=some s2->s2.m0=s1.m0:=fun {s1 s2 x mem} h=>by
  unfold M1 at h
  split at h
  ·cases h; rfl
  ·have h2:=(AF h).2; cases h2; rfl
 split at h
 ·split at h
  ·split at h
   rename_i s1 m1 e
   split at h
   ·rename_i s2 e2
    cases h
    rw [hput e2]
    unfold TY at e
    split at e
    ·split at e
     ·split at e <;> (cases e; rfl)
     ·cases e; rfl
    ·cases e; rfl
   ·cases h
  ·cases h
  ·cases h
 ·split at h
  ·have h:=(AF h).2
   split at h
   ·have h:=(AF h).2
    cases h; rfl
   ·cases h
   ·cases h
  ·cases h
theorem aBN {c g:Bool} {x:TV} {mem:Ae} {o:Option Res} {f:FuncId} {args:List SV} (h:(bif c then some (.ok g x mem) else o)=some (.inl f args)):o=some (.inl f args):=by
 cases c with
 | true=>cases h
 | false=>exact h
theorem RelT.clear (hr:RelT σ s a):RelT σ { s with cs:=[] } a:=⟨hr.size,hr.defers,hr.mem,hr.tm,fun _ _ _ _ h=>by simp at h⟩
theorem nG {mem:Ae}:∀ {l:List (Nat×Nat)},SJ mem l=true->∀ p∈l,∃ cs,Ad mem p.1=.raw cs
 | [],_,p,hp=>by simp at hp
 | (b,off)::r,h,p,hp=>by
  simp only [SJ] at h
  split at h
  ·rename_i cs e
   rcases List.mem_cons.1 hp with rfl | hp
   ·exact ⟨cs,e⟩
   ·exact nG h p hp
  ·cases h
theorem oD {σ:Sit}:∀ {caps:List (Nat×Nat)} {rs:List Nat},(∀ p∈caps,p.1<σ.mem.length)->(∀ p∈caps,∃ cs,Ad σ.mem p.1=.raw cs)->caps.map (fun p=>σ.E.β p.1)=rs.map some ->
  All2 (AS σ) (caps.map fun p=>SV.one (.ptr p.1 p.2)) ((caps.zip rs).map fun q=>Value.pointer (some ⟨q.2,q.1.2,none⟩))
 | [],_,_,_,_=>by simp; exact .nil
 | p::caps,[],_,_,h=>by simp at h
 | p::caps,q::rs,h1,h2,h=>by
  simp only [List.map_cons,List.cons.injEq] at h
  obtain ⟨cs,e⟩:=h2 p (by simp)
  refine .cons ⟨h1 p (by simp),⟨_,rfl⟩,?_⟩ (oD (fun p hp=>h1 p (by simp [hp])) (fun p hp=>h2 p (by simp [hp])) h.2)
  rw [e]
  exact ⟨q,h.1,rfl⟩
theorem rT {inl:FuncId->List SV->Ae->(List SV->Ae->Option R)->Option R} (hI:On C inl) (ho:Ok base S0 σ) (hr:RelT σ s a) (hG:GlobsOk C.globs σ.w σ.S) {o:Oper} {f:FuncId} {args:List SV} {k:List SV->Ae->Option R}
  {ctx:List (Nat×Bool)} (hx:A5 a ctx) (hs:Aq C s ctx o=some (.inl f args)) (h:inl f args s.mem k=some r) {K:Act->World->Prop} {Q:Exit->Act->World->Prop}
  (hK:∀ (v:Value) (σ':Sit) (rs:List SV) (zs:List Value),Ok base S0 σ'->Adv σ σ'->v=De zs->All2 (AS σ') rs zs->k rs σ'.mem=some r->K (a.put o.dst v) σ'.w):o.wp C.P a σ.w K Q:=by
 have hcall:∃ c fo caps as,o.op=.call c/\c.callee=.value fo/\AP s ctx fo=some (.fn f caps)/\DF s ctx c.args.toList=some as/\SJ s.mem caps=true/\args=as++caps.map fun p=>SV.one (.ptr p.1 p.2):=by
  unfold Aq at hs
  cases hop:o.op with
  | call c =>
   rw [hop] at hs
   simp only at hs
   cases hc:c.callee with
   | value fo =>
    simp only [hc] at hs
    split at hs
    ·rename_i f' caps as ef ea
     split at hs
     ·(repeat' split at hs) <;> first | (cases hs; done) | (have h2:=(AF hs).2; (repeat' split at h2) <;> cases h2)
     split at hs
     ·repeat' split at hs
      all_goals cases hs
     ·obtain ⟨h1,h2⟩:=AF hs
      cases h2
      exact ⟨c,fo,caps,as,rfl,hc,ef,ea,h1,rfl⟩
    ·(repeat' split at hs) <;> cases hs
    ·cases hs
   | invoke q m=>simp only [hc] at hs; (repeat' split at hs) <;> cases hs
   | builtin b =>
    simp only [hc] at hs
    cases b <;> simp only at hs <;> first | (cases hs; done) | (repeat' split at hs) <;> first | (cases hs; done) | (have h2:=(AF hs).2; cases h2; done) | (have h2:=Dc hs; cases h2)
  | _ =>
   rw [hop] at hs
   simp only at hs
   (repeat' split at hs) <;> first | (cases hs; done) | (have h2:=(AF hs).2; (repeat' split at h2) <;> cases h2; done) | (have h2:=aBN hs; have h3:=(AF h2).2; cases h3; done) | (have h2:=Dc hs; (repeat' split at h2) <;> first | (cases h2; done) | (have h3:=(AF h2).2; cases h3))
 obtain ⟨c,fo,caps,as,hop,hc,ef,ea,hraw,rfl⟩:=hcall
 rw [← hr.mem] at hraw h
 obtain ⟨hb,_,hm⟩:=Ba hr hx ef
 have hall:=nG hraw
 obtain ⟨rs,hrs,hfv⟩:=hm.resolve_left fun ⟨p,hp,hq⟩=>by obtain ⟨cs,e⟩:=hall p hp; rw [e] at hq; exact hq
 have hargs:=(NL hr hx ea).append (oD hb hall hrs)
 obtain ⟨hcl,hcalls⟩:=hI f _ σ.mem k r h base S0 σ _ ho rfl hG hargs
 have hexec:(execOp a.eval o).run C.P σ.w=.ok (.enter f ((c.args.toList.map a.eval)++(caps.zip rs).map fun q=>Value.pointer (some ⟨q.2,q.1.2,none⟩)).toArray) σ.w:=by
  simp only [execOp,hop,resolve,hc,hfv]
  simp only [Deferred.ofValue,Sem.run_bind,Sem.run_pure,Result.andThen_ok,invoke]
  rw [Xg hcl]
  congr 2
  apply Array.toList_inj.1
  simp
 unfold Oper.wp
 rw [hexec,Oper.upon_enter]
 refine hcalls.mono fun e w' he=>?_
 obtain ⟨σ',rs',zs,rfl,rfl,h1,h2,h3,h4⟩:=he
 exact hK (De zs) σ' rs' zs h1 h2 rfl h3 h4
theorem N7 (hP:ProgOk C) {inl:FuncId->List SV->Ae->(List SV->Ae->Option R)->Option R} (hI:On C inl) (ops:Array Oper) {kn:St->Option R} {ke:Nat->St->Option R} {kr:St->Option R} (hG0:GlobsOk C.globs σ0.w σ0.S) :
  ∀ (l:List Oper) {σ:Sit} {s:St} {a:Act},Ok base S0 σ->Adv σ0 σ->RelT σ s a->s.m0=σ0.mem.length->JT C inl ops.toList l s kn=some r->wpList C.P ops (Ix base S0 σ0 r kn ke kr) l a σ.w
 | [],σ,s,a,ho,hA,hr,hm,h=>⟨σ,s,rfl,ho,hA,hr,hm,h⟩
 | o::l,σ,s,a,ho,hA,hr,hm,h=>by
  simp only [JT] at h
  unfold wpList
  split at h
  ·rename_i g s1 e
   obtain ⟨h1,h2⟩:=AF h
   subst h1
   have:=aIX hP.sums ho hr (hG0.adv hA) e (K:=wpList C.P ops (Ix base S0 σ0 r kn ke kr) l) (Q:=Ix base S0 σ0 r kn ke kr) fun a' σ' k1 k2 k3 =>
    N7 hP hI ops hG0 l k1 (hA.trans k2) k3 ((aIW e).trans hm) h2
   split at this
   ·rename_i hw; rw [if_pos hw]; exact .inl this
   ·rename_i hw; rw [if_neg hw]; exact this
  ·rename_i f args e
   split at h
   ·rename_i hg
    rw [if_pos (by simp [Region.wanted,hg])]
    have hs:Aq C s [] o=some (.inl f args):=by
     unfold step at e
     rw [hg] at e
     simp only at e
     (repeat' split at e) <;> first | (cases e; done) | (cases e; assumption)
    refine .inl (rT hI ho hr (hG0.adv hA) (fun _ _ h=>by simp at h) hs h fun v σ' rs zs k1 k2 k3 k4 k5=>?_)
    split at k5
    ·rename_i s2 e2
     refine N7 hP hI ops hG0 l k1 (hA.trans k2) (s:=s2) ?_ ?_ k5
     ·refine Xd (σ:=σ) (fT:=NI s.mem) rfl (fun x y hxy=>AQ.drop (by rw [← hr.mem]; exact k2.rep) (pB s.mem) hxy) hr (x:=J1 rs) (v:=v) (by rw [k3]; exact YO k4) rfl e2
     ·unfold M1 at e2
      split at e2
      ·cases e2; exact hm
      ·have:=(AF e2).2; cases this; exact hm
    ·cases k5
   ·cases h
  ·rename_i c t d p f args e
   obtain ⟨gi,hg,ht,hd,hnt,hdt,hdl,hcv,hs⟩:∃ gi,o.guard=some (gi,p)/\D0 ops.toList gi=some t/\o.dst=some d/\EA d s.cs=true/\t≠d/\d<s.n/\MK s.tm s.cs t p=some c/\Aq C s (HH s.cs t p) o=some (.inl f args):=by
    unfold step at e
    split at e
    ·(repeat' split at e) <;> cases e
    ·rename_i gi p' hg
     split at e
     ·rename_i t' d' ht hd
      obtain ⟨hb,e⟩:=AF e
      simp only [Bool.and_eq_true,Bool.not_eq_true'] at hb
      split at e
      ·have:=(AF e).2; cases this
      ·cases e
       exact ⟨gi,hg,ht,hd,hb.1.1.2,fun e=>by subst e; simp [Nat.beq_refl] at hb,by simpa using hb.2,by assumption,by assumption⟩
      ·cases e
     ·cases e
   have hdl':d<a.tmps.size:=by rw [hr.size]; exact hdl
   have hciff:=SS hr.tm hr.cs hcv
   have hwiff:=gS (a:=a) hg ht
   cases c with
   | true =>
    rw [cond_true] at h
    have htrue:=hciff.1 rfl
    rw [if_pos (hwiff.2 htrue)]
    refine .inl (rT hI ho hr (hG0.adv hA) (SR hr.cs htrue) hs h fun v σ' rs zs k1 k2 k3 k4 k5=>?_)
    have hr2:RelT σ' { SW s with mem:=σ'.mem } a:=by
     have:=Xd (σ:=σ) (σ':=σ') (o:={ o with dst:=none }) (v:=undef) (x:=.un) (fT:=NI s.mem) rfl (fun x y hxy=>AQ.drop (by rw [← hr.mem]; exact k2.rep) (pB s.mem) hxy) hr trivial rfl (s':={ SW s with mem:=σ'.mem }) rfl
     simpa [Act.put] using this
    have hnt2:EA d (SW s).cs=true:=by
     have:∀ l:List (Nat×Nat×Bool×TV),EA d (l.map fun p=>(p.1,p.2.1,p.2.2.1,NI s.mem p.2.2.2))=EA d l:=fun l=>by
      induction l with
      | nil=>rfl
      | cons q l ih=>obtain ⟨_,_,_,_⟩:=q; simp only [List.map_cons,EA,ih]
     show EA d (s.cs.map _)=true
     rw [this]; exact hnt
    rw [hd]
    exact N7 hP hI ops hG0 l k1 (hA.trans k2) (fQ hr2 hdl' hdt hnt2 (fun _ _ h=>h) rfl (fun _=>by rw [k3]; exact YO k4) (fun hn=>absurd htrue hn)) hm k5
   | false =>
    rw [cond_false] at h
    have hfalse:a.tmps.getD t undef≠.bool p:=fun e=>by have:=hciff.2 e; cases this
    rw [if_neg (fun hw=>hfalse (hwiff.1 hw)),hd]
    exact N7 hP hI ops hG0 l ho hA (fQ hr hdl' hdt hnt (fun _ _ h=>h) hr.mem (fun e=>absurd e hfalse) (fun _=>rfl)) hm h
  ·cases h
end Vx
namespace Vx
open Go Go.RowKit
theorem Wb {mem:Ae} {c:SC} (h:EB c=true):CM mem c=(c,mem):=by
 cases c with
 | fn f caps=>cases caps with
  | nil=>rfl
  | cons p r=>simp [EB] at h
 | _=>first | rfl | (simp [EB] at h)
theorem Wc {mem:Ae}:∀ {l:List SC},AH l=true->DZ mem l=(l,mem)
 | [],_=>rfl
 | c::r,h=>by
  simp only [AH,Bool.and_eq_true] at h
  simp only [DZ,Wb h.1,Wc h.2]
theorem cC {mem:Ae} {x:SV} (h:AH x.cells=true):Ex mem x=(x,mem):=by
 cases x with
 | one c=>simp only [SV.cells,AH,Bool.and_true] at h; simp only [Ex,Wb h]
 | agg cs=>simp only [SV.cells] at h; simp only [Ex,Wc h]
theorem Tb {mem:Ae}:∀ {sg:Ac} {l:List SV},(∀ x∈l,AH x.cells=true)->(AY mem sg l).2=mem/\(l.length=sg.length->(AY mem sg l).1=l)
 | [],_,_=>⟨rfl,fun _=>rfl⟩
 | _::_,[],_=>⟨rfl,fun _=>rfl⟩
 | (a,τ)::sg,x::r,h=>by
  obtain ⟨h1,h2⟩:=Tb (mem:=mem) (sg:=sg) (l:=r) fun y hy=>h y (by simp [hy])
  simp only [AY]
  cases HT a τ with
  | true=>exact ⟨h1,fun hl=>by simp only [cond_true]; rw [h2 (by simpa using hl)]⟩
  | false =>
   simp only [cond_false,cC (h x (by simp))]
   exact ⟨h1,fun hl=>by rw [h2 (by simpa using hl)]⟩
theorem NR {mem m2:Ae}:∀ {sg:Ac} {l:List SV},(∀ x∈l,AH x.cells=true)->(AY m2 sg l).1=(AY mem sg l).1/\∀ x∈(AY mem sg l).1,AH x.cells=true
 | [],_,h=>⟨rfl,h⟩
 | _::_,[],h=>⟨rfl,h⟩
 | (a,τ)::sg,x::r,h=>by
  obtain ⟨h1,h2⟩:=NR (mem:=mem) (m2:=m2) (sg:=sg) (l:=r) fun y hy=>h y (by simp [hy])
  simp only [AY]
  cases HT a τ with
  | true =>
   simp only [cond_true]
   refine ⟨by rw [h1],fun y hy=>?_⟩
   rcases List.mem_cons.1 hy with rfl | hy
   ·exact h _ (by simp)
   ·exact h2 y hy
  | false =>
   simp only [cond_false,cC (h x (by simp))]
   refine ⟨by rw [h1],fun y hy=>?_⟩
   rcases List.mem_cons.1 hy with rfl | hy
   ·exact h _ (by simp)
   ·exact h2 y hy
theorem aJc {mem m1:Ae} {a:Bool} {τ:Shape} {z:SV} {x:Aa τ} (hz:AH z.cells=true) (h:GK mem a τ z=some (x,m1)):m1=mem/\∀ m2,GK m2 a τ z=some (x,m2):=by
 have plain:∀ {a:Bool} {τ:Shape} {x:Aa τ},Ds mem a τ z=some (x,m1)->m1=mem/\∀ m2,Ds m2 a τ z=some (x,m2):=fun {a τ x} h=>by
  unfold Ds at h ⊢
  cases z <;> cases a <;> simp only [cond_true,cond_false] at h ⊢ <;> first | (cases h; done) | skip
  ·split at h
   ·cases h; exact ⟨rfl,fun m2=>rfl⟩
   ·cases h
  ·split at h
   ·cases h; exact ⟨rfl,fun m2=>rfl⟩
   ·cases h
 cases τ with
 | slice e =>
  cases a with
  | false=>exact plain h
  | true =>
   simp only [GK,cond_true] at h ⊢
   split at h
   ·simp [SV.cells,AH,EB] at hz
   ·cases h; exact ⟨rfl,fun _=>rfl⟩
   ·cases h
 | _=>exact plain h
theorem T6:∀ {sg:Ac} {mem m1:Ae} {l:List SV} {x:DenS sg},(∀ z∈l,AH z.cells=true)->Cg mem sg l=some (x,m1)->m1=mem/\∀ m2,Cg m2 sg l=some (x,m2)
 | [],mem,m1,[],x,_,h=>by simp only [Cg] at h; cases h; exact ⟨rfl,fun _=>rfl⟩
 | [],mem,m1,_::_,x,_,h=>by simp [Cg] at h
 | _::_,mem,m1,[],x,_,h=>by simp [Cg] at h
 | (a,τ)::sg,mem,m1,z::l,x,hz,h=>by
  simp only [Cg] at h ⊢
  split at h
  ·rename_i u m3 e1
   split at h
   ·rename_i v m4 e2
    cases h
    obtain ⟨h1,h2⟩:=aJc (hz z (by simp)) e1
    subst h1
    obtain ⟨h3,h4⟩:=T6 (fun y hy=>hz y (by simp [hy])) e2
    exact ⟨h3,fun m2=>by rw [h2 m2]; simp only; rw [h4 m2]⟩
   ·cases h
  ·cases h
theorem Wy:∀ {sg:Ac} {mem m1:Ae} {x:DenS sg} {vs:List SV},Cb mem sg x=some (vs,m1)->m1.length=mem.length->∀ m2,Cb m2 sg x=some (vs,m2)
 | [],mem,m1,x,vs,h,_=>by simp only [Cb] at h ⊢; cases h; intro m2; rfl
 | (a,τ)::sg,mem,m1,x,vs,h,hl=>by
  simp only [Cb] at h ⊢
  split at h
  ·rename_i v m3 e1
   split at h
   ·rename_i r m4 e2
    cases h
    obtain ⟨l2,g2⟩:=cU e2
    have plain:∀ {τ:Shape} {y:Aa τ},C2.giveP mem a τ y=some (v,m3)->m3=mem/\∀ m2,C2.giveP m2 a τ y=some (v,m2):=fun {τ y} h=>by
     unfold C2.giveP at h ⊢
     cases a with
     | true=>simp only [cond_true] at h ⊢; cases h; exact ⟨rfl,fun _=>rfl⟩
     | false =>
      simp only [cond_false] at h ⊢
      split at h
      ·cases h; exact ⟨rfl,fun _=>rfl⟩
      ·cases h
    have key:m3=mem/\∀ m2,C2 m2 a τ x.1=some (v,m2):=by
     cases τ with
     | slice e =>
      simp only [C2] at e1 ⊢
      cases a with
      | true =>
       simp only [cond_true] at e1
       cases e1
       rw [g2] at hl
       simp only [List.length_append,List.length_cons,List.length_nil] at hl
       omega
      | false =>
       simp only [cond_false] at e1 ⊢
       split at e1
       ·cases e1; exact ⟨rfl,fun _=>rfl⟩
       ·cases e1
     | _=>exact plain e1
    obtain ⟨rfl,k2⟩:=key
    have ih:=Wy e2 hl
    exact fun m2=>by rw [k2 m2]; simp only; rw [ih m2]
   ·cases h
  ·cases h
theorem rD:∀ {sg:Ac} {mem m1:Ae} {x:DenS sg} {vs:List SV},Cb mem sg x=some (vs,m1)->∃ l,m1=mem++l/\∀ m2,m2.length=mem.length->Cb m2 sg x=some (vs,m2++l)
 | [],mem,m1,x,vs,h=>by simp only [Cb] at h ⊢; cases h; exact ⟨[],by simp,fun m2 _=>by simp⟩
 | (a,τ)::sg,mem,m1,x,vs,h=>by
  simp only [Cb] at h ⊢
  split at h
  ·rename_i v m3 e1
   split at h
   ·rename_i r m4 e2
    cases h
    have plain:∀ {τ:Shape} {y:Aa τ},C2.giveP mem a τ y=some (v,m3)->m3=mem/\∀ m2,C2.giveP m2 a τ y=some (v,m2):=fun {τ y} h=>by
     unfold C2.giveP at h ⊢
     cases a with
     | true=>simp only [cond_true] at h ⊢; cases h; exact ⟨rfl,fun _=>rfl⟩
     | false =>
      simp only [cond_false] at h ⊢
      split at h
      ·cases h; exact ⟨rfl,fun _=>rfl⟩
      ·cases h
    have plain':(m3=mem/\∀ m2,C2 m2 a τ x.1=some (v,m2))->∃ l,m3=mem++l/\∀ m2,m2.length=mem.length->C2 m2 a τ x.1=some (v,m2++l):=fun ⟨h1,h2⟩=>⟨[],by simp [h1],fun m2 _=>by rw [h2 m2]; simp⟩
    have key:∃ l,m3=mem++l/\∀ m2,m2.length=mem.length->C2 m2 a τ x.1=some (v,m2++l):=by
     cases τ with
     | slice e =>
      simp only [C2] at e1 plain' ⊢
      cases a with
      | true =>
       simp only [cond_true] at e1 ⊢
       cases e1
       exact ⟨[.arr e x.1],rfl,fun m2 hm=>by rw [hm]⟩
      | false =>
       simp only [cond_false] at e1 plain' ⊢
       split at e1
       ·rename_i c ec
        cases e1
        exact ⟨[],by simp,fun m2 _=>by simp⟩
       ·cases e1
     | _=>exact plain' (plain e1)
    obtain ⟨l1,rfl,k2⟩:=key
    obtain ⟨l2,h3,k4⟩:=rD e2
    exact ⟨l1++l2,by rw [h3,List.append_assoc],fun m2 hm=>by
     rw [k2 m2 hm]
     simp only
     rw [k4 (m2++l1) (by simp [hm]),List.append_assoc]⟩
   ·cases h
  ·cases h
theorem bT {m1 m2:Ae}:∀ {sg:Ac} {l:List SV},(∀ z∈l,AH z.cells=true)->Jz m1 sg l=Jz m2 sg l
 | [],[],_=>rfl
 | [],_::_,_=>rfl
 | _::_,[],_=>rfl
 | (a,τ)::sg,z::l,h=>by
  simp only [Jz]
  rw [bT (m1:=m1) (m2:=m2) fun y hy=>h y (by simp [hy])]
  congr 1
  cases HT a τ with
  | false=>rfl
  | true =>
   simp only [cond_true]
   have hz:=h z (by simp)
   split
   ·simp [SV.cells,AH,EB] at hz
   ·rfl
   ·rfl
theorem bS {m1 m2:Ae} {f:FuncId} {args:List SV} (h:∀ z∈args,AH z.cells=true):∀ {l:List (FuncId×Sum)},GB l f m1 args=GB l f m2 args
 | []=>rfl
 | (g,S)::r=>by simp only [GB]; rw [bT (m1:=m1) (m2:=m2) h,bS h]
variable {C:Cfg} {s:St} {o:Oper} {ctx:List (Nat×Bool)}
theorem Pp {m mem:Ae} {S:Sum} {args:List SV} {g:Bool} {x:TV} (hargs:∀ z∈args,AH z.cells=true) (h:Er m S args=some (g,x,mem)) :
  ∃ l,mem=m++l/\(∀ m2,m2.length=m.length->Er m2 S args=some (g,x,m2++l))/\(mem.length=m.length->∀ m2,Er m2 S args=some (g,x,m2)):=by
 unfold Er at h ⊢
 cases hf:AY m S.ins args with
 | mk args' m1 =>
  rw [hf] at h
  simp only at h
  have k1:=(Tb (mem:=m) (sg:=S.ins) hargs).1
  have k2:=(NR (mem:=m) (m2:=m) (sg:=S.ins) hargs).2
  rw [hf] at k1 k2
  simp only at k1 k2
  subst k1
  split at h
  ·rename_i zm ez
   obtain ⟨z,m3⟩:=zm
   simp only at h
   split at h
   ·rename_i vs m4 ev
    simp only [Option.some.injEq,Prod.mk.injEq] at h
    obtain ⟨rfl,rfl,rfl⟩:=h
    obtain ⟨rfl,t2⟩:=T6 k2 ez
    have key:∀ m2,(∃ l,Cb m2 S.outs (S.F z)=some (vs,l))->∀ l,Cb m2 S.outs (S.F z)=some (vs,l)->(match AY m2 S.ins args with
      | (args',m1)=>match Cg m1 S.ins args' with
       | some x=>match Cb x.2 S.outs (S.F x.1) with
        | some (vs,mem')=>some (S.pre x.1,J1 vs,mem')
        | none=>none
       | none=>none)=some (S.pre z,J1 vs,l):=fun m2 _ l hl=>by
     have e1:=(NR (mem:=m3) (m2:=m2) (sg:=S.ins) hargs).1
     have e2:=(Tb (mem:=m2) (sg:=S.ins) hargs).1
     rw [hf] at e1
     cases hf2:AY m2 S.ins args with
     | mk args2 m5 =>
      rw [hf2] at e1 e2
      simp only at e1 e2
      subst e1 e2
      simp only
      rw [t2]
      simp only
      rw [hl]
    obtain ⟨l,hl,g2⟩:=rD ev
    exact ⟨l,hl,fun m2 h=>key m2 ⟨_,g2 _ h⟩ _ (g2 _ h),fun h m2=>key m2 ⟨_,Wy ev h m2⟩ _ (Wy ev h m2)⟩
   ·cases h
  ·cases h
theorem aO {m mem:Ae} {S:Sum} {args:List SV} {g:Bool} {x:TV} (hargs:∀ z∈args,AH z.cells=true) (h:Er m S args=some (g,x,mem)) (hl:Nat.beq mem.length m.length=true):mem=m:=by
 obtain ⟨l,rfl,_⟩:=Pp hargs h
 have:=Nat.eq_of_beq_eq_true hl
 simp only [List.length_append] at this
 rw [List.eq_nil_of_length_eq_zero (l:=l) (by omega),List.append_nil]
theorem pW {m1 m2:Ae} {I:Ac} {args:List SV} (h:∀ z∈args,AH z.cells=true):MT m1 I args=MT m2 I args:=by
 have hx:∀ m:Ae,MT m I args=(Cg m2 I (AY m2 I args).1).isSome:=fun m=>by
  unfold MT
  have e1:=(NR (mem:=m2) (m2:=m) (sg:=I) h).1
  have e2:=(Tb (mem:=m) (sg:=I) h).1
  have k2:=(NR (mem:=m2) (m2:=m2) (sg:=I) h).2
  cases hf:AY m I args with
  | mk a b =>
   rw [hf] at e1 e2
   simp only at e1 e2
   subst e1 e2
   simp only
   split
   ·rename_i e
    rw [(T6 k2 e).2 m2]; rfl
   ·rename_i e
    cases e':Cg m2 I (AY m2 I args).1 with
    | none=>rfl
    | some q=>rw [(T6 k2 e').2 b] at e; cases e
 rw [hx,hx]
theorem bQ {m1 m2:Ae} {T:TypeId} {args:List SV} (h:∀ z∈args,AH z.cells=true):∀ {l:List (TypeId×SumF)},MQ m1 T args l=MQ m2 T args l
 | []=>rfl
 | (g,S)::r=>by simp only [MQ]; rw [pW (m1:=m1) (m2:=m2) h,bQ h]
theorem pQ {m1 m2:Ae} {m:String} {args:List SV} (h:∀ z∈args,AH z.cells=true):∀ {l:List (String×SumM)},MR m1 m args l=MR m2 m args l
 | []=>rfl
 | (g,S)::r=>by simp only [MR]; rw [pW (m1:=m1) (m2:=m2) h,pQ h]
theorem pO {mem:Ae} {f:FuncId} {args:List SV} (h:∀ z∈args,AH z.cells=true):∀ {l:List (FuncId×SumL)},HM l f mem args=none
 | []=>rfl
 | (g,L)::r=>by
  have hf:NO mem L.lend args=false:=by
   cases args with
   | nil=>rfl
   | cons z zs =>
    have hz:=h z (by simp)
    simp only [NO]
    cases hk:L.lend with
    | win e =>
     simp only [V8]
     split
     ·simp [SV.cells,AH,EB] at hz
     ·simp [SV.cells,AH,EB] at hz
     ·rfl
    | ref τ =>
     simp only [V8]
     split
     ·simp [SV.cells,AH,EB] at hz
     ·rfl
  simp only [HM,hf,Bool.and_false,cond_false]
  exact pO h
theorem Tv {C:Cfg} {mem:Ae} {f:FuncId} {args:List SV} (h:∀ z∈args,AH z.cells=true):C.lsum f mem args=none:=pO h
theorem dY:∀ {l:List Operand},CW s ctx l=true->∀ x∈l,∀ v,ev s ctx x=some v->d0 v=true
 | [],_,x,hx,_,_=>by simp at hx
 | y::r,h,x,hx,v,hv=>by
  simp only [CW,Bool.and_eq_true] at h
  rcases List.mem_cons.1 hx with rfl | hx
  ·rw [hv] at h; exact h.1
  ·exact dY h.2 x hx v hv
theorem aCJ {l:List Operand} (h:CW s ctx l=true) {x:Operand} (hx:x∈l) {c:SC} (hc:AP s ctx x=some c):EB c=true:=by
 unfold AP at hc
 split at hc
 ·rename_i c' e
  cases hc
  have:=dY h x hx _ e
  simpa [d0,SV.cells,AH] using this
 ·cases hc
theorem pJ {l:List Operand} (h:CW s ctx l=true) {x:Operand} (hx:x∈l) {c:SV} (hc:DY s ctx x=some c):AH c.cells=true:=by
 unfold DY at hc
 split at hc
 ·rename_i c' e
  cases hc
  exact dY h x hx _ e
 ·cases hc
theorem Jw {l:List Operand} (h:CW s ctx l=true):∀ {m:List Operand},(∀ x∈m,x∈l)->∀ {cs:List SV},DF s ctx m=some cs->∀ c∈cs,AH c.cells=true
 | [],_,cs,hc,c,hcc=>by simp only [DF] at hc; cases hc; simp at hcc
 | x::m,hm,cs,hc,c,hcc=>by
  simp only [DF] at hc
  split at hc
  ·rename_i v vs e1 e2
   cases hc
   rcases List.mem_cons.1 hcc with rfl | hcc
   ·exact pJ h (hm x (by simp)) e1
   ·exact Jw h (fun y hy=>hm y (by simp [hy])) e2 c hcc
  ·cases hc
theorem bN {l:List Operand} (h:CW s ctx l=true):∀ {m:List (Nat×Operand)},(∀ p∈m,p.2∈l)->∀ {cs:List (Nat×SV)},Fy s ctx m=some cs->∀ c∈cs,AH c.2.cells=true
 | [],_,cs,hc,c,hcc=>by simp only [Fy] at hc; cases hc; simp at hcc
 | (i,x)::m,hm,cs,hc,c,hcc=>by
  simp only [Fy] at hc
  split at hc
  ·rename_i v vs e1 e2
   cases hc
   rcases List.mem_cons.1 hcc with rfl | hcc
   ·exact pJ h (hm (i,x) (by simp)) e1
   ·exact bN h (fun y hy=>hm y (by simp [hy])) e2 c hcc
  ·cases hc
theorem WK:∀ {a b:List SC},AH (a++b)=(AH a&&AH b)
 | [],b=>by simp [AH]
 | c::a,b=>by simp [AH,WK,Bool.and_assoc]
theorem tP:∀ {l:List SC} (n:Nat),AH l=true->AH (l.take n)=true
 | _,0,_=>by simp [AH]
 | [],_+1,_=>by simp [AH]
 | c::l,n+1,h=>by
  simp only [AH,Bool.and_eq_true] at h
  simp [AH,h.1,tP n h.2]
theorem tO:∀ {l:List SC} (n:Nat),AH l=true->AH (l.drop n)=true
 | l,0,h=>by simpa using h
 | [],_+1,_=>by simp [AH]
 | c::l,n+1,h=>by
  simp only [AH,Bool.and_eq_true] at h
  simpa using tO n h.2
theorem gJ (Ay:Nat->Option (Nat×Nat)):∀ {ps:List (Nat×SV)} {old r:List SC},GJ Ay ps old=some r->AH old=true->(∀ p∈ps,AH p.2.cells=true)->AH r=true
 | [],old,r,h,ho,_=>by simp only [GJ] at h; cases h; exact ho
 | (i,x)::ps,old,r,h,ho,hp=>by
  simp only [GJ] at h
  split at h
  ·cases h
  ·have h:=(AF h).2
   split at h
   ·rename_i old' e
    refine gJ Ay h ?_ (fun p hp'=>hp p (by simp [hp']))
    obtain ⟨h1,_⟩:=Xj e
    rw [h1,WK,WK,tP _ ho,tO _ ho,hp (i,x) (by simp)]
    rfl
   ·cases h
theorem vZ {v:Value} {c:SC} (h:Qu v=some c):EB c=true:=by
 unfold Qu at h
 (repeat' split at h) <;> first | (cases h; rfl) | (cases h; done) | (have h2:=(AF h).2; cases h2; rfl)
theorem v3:∀ {l:List Value} {cs:List SC},M7 l=some cs->AH cs=true
 | [],_,h=>by simp only [M7] at h; cases h; rfl
 | v::r,_,h=>by
  simp only [M7] at h
  split at h
  ·rename_i e1 e2
   cases h
   simp [AH,vZ e1,v3 e2]
  ·cases h
theorem xP {P:Program} {T:TypeId} {z:SV} (h:EH P T=some z):AH z.cells=true:=by
 unfold EH at h
 split at h
 ·split at h
  ·unfold T5 at h
   split at h
   ·split at h
    ·rename_i e; cases h; exact v3 e
    ·cases h
   ·split at h
    ·rename_i e; cases h; simp [SV.cells,AH,vZ e]
    ·cases h
  ·cases h
 ·cases h
theorem eB:∀ (n:Nat) {l:List SC},AH l=true->AH (List.replicate n l).flatten=true
 | 0,_,_=>rfl
 | n+1,l,h=>by rw [List.replicate_succ,List.flatten_cons,WK,h,eB n h]; rfl
theorem gB {T:TypeId} {y:Operand} {lo hi mx:Option Operand} (h:CW s ctx [y]=true):JX C s ctx T y lo hi mx=none/\M8 C s ctx y lo mx=none/\∀ c,AP s ctx y=some c->EB c=true:=by
 have hn:∀ c,AP s ctx y=some c->EB c=true:=fun c hc=>aCJ h (by simp) hc
 refine ⟨?_,?_,hn⟩
 ·unfold JX
  split
  ·rename_i e; have:=hn _ e; cases this
  ·rename_i e; have:=hn _ e; cases this
  ·rfl
 ·unfold M8
  cases hb:(C.keep&&lo.isNone&&mx.isNone) with
  | false=>rfl
  | true =>
   simp only [cond_true]
   split
   ·rename_i e; have:=hn _ e; cases this
   ·rfl
theorem aBI {m m2:Ae} {τ:Shape} {c:SC} (h:EB c=true):Jo m2 τ c=Jo m τ c:=by
 cases c with
 | own b=>cases h
 | v x =>
  unfold Jo
  split <;> first | rfl | (rename_i e; cases e) | simp_all
 | _=>rfl
theorem dG (hcalm:C9 s ctx o.op=true) (hk:AW o.op<=1) {g:Bool} {x:TV} {mem:Ae} (hst:DL o.op s.mem mem=true) (h:Aq C s ctx o=some (.ok g x mem)):mem=s.mem:=by
 unfold Aq at h
 cases hop:o.op with
 | alloc T=>rw [hop] at hk; simp [AW] at hk
 | box T y=>rw [hop] at hk; simp [AW] at hk
 | store T y z=>rw [hop] at hk; simp [AW] at hk
 | makeSlice T l c=>rw [hop] at hk; simp [AW] at hk
 | slice T y lo hi mx =>
  rw [hop] at h hcalm
  obtain ⟨h1,h2,hn⟩:=gB (C:=C) (T:=T) (lo:=lo) (hi:=hi) (mx:=mx) (show CW s ctx [y]=true from hcalm)
  simp only [h1,h2] at h
  split at h
  ·rename_i e c hT ec
   split at h
   ·rw [Wb (hn c ec)] at h
    simp only at h
    split at h
    ·split at h
     ·exact A8 h
     ·cases h
    ·cases h
   ·cases h
  ·cases h
 | buildSlice T n ps =>
  have hn:CW s ctx o.op.operands.toList=true:=by
   have:=hcalm; rw [hop] at this ⊢; exact this
  rw [hop] at h hn
  simp only at h
  split at h
  ·split at h
   ·rename_i z pl eτ hz hps
    split at h
    ·rename_i cs ecs
     have hcs:AH cs=true:=gJ _ ecs (eB n (xP hz)) (bN hn (fun p hp=>by
      simp only [Op.operands]
      simp only [List.mem_map]
      exact ⟨p,hp,rfl⟩) hps)
     rw [Wc hcs] at h
     simp only at h
     split at h
     ·exact A8 (AF h).2
     ·cases h
    ·cases h
   ·cases h
  ·cases h
 | indexAddr T y z =>
  rw [hop] at h hcalm
  simp only at h
  split at h
  ·split at h
   ·exact A8 (AF (Dc h)).2
   ·cases h
  ·split at h
   ·exact A8 (Dc h)
   ·cases h
  ·rename_i e c i hT ec ei
   split at h
   ·split at h
    ·split at h
     ·exact A8 (Dc h)
     ·rename_i eb
      simp only [C9,ec,eb] at hcalm
      cases hcalm
     ·exact A8 (Dc h)
     ·cases h
    ·exact A8 (Dc h)
    ·split at h
     ·exact A8 (Dc h)
     ·cases h
    ·cases h
   ·cases h
  ·cases h
 | call c =>
  rw [hop] at h hk hcalm
  simp only at h
  cases hc:c.callee with
  | value fo =>
   have hn:CW s ctx (Op.call c).operands.toList=true:=by simpa only [C9,hc] using hcalm
   have hlen:Nat.beq mem.length s.mem.length=true:=by unfold DL at hst; rw [hop] at hst; simpa only [hc] using hst
   simp only [hc] at h
   split at h
   ·rename_i f caps args ef eargs
    have hargs:=Jw hn (m:=c.args.toList) (fun x hx=>by simp [Op.operands,Call.operands,hc]; exact .inr (by simpa using hx)) eargs
    split at h
    ·rename_i L eL
     exfalso
     split at eL
     ·rw [Tv hargs] at eL; cases eL
     ·cases eL
    split at h
    ·split at h
     ·rename_i ec
      rw [← A8 h] at ec
      exact aO hargs ec hlen
     ·cases h
    ·have h2:=(AF h).2; cases h2
   ·rename_i args ef eargs
    have hargs:=Jw hn (m:=c.args.toList) (fun x hx=>by simp [Op.operands,Call.operands,hc]; exact .inr (by simpa using hx)) eargs
    split at h
    ·split at h
     ·rename_i ec
      rw [← A8 h] at ec
      exact aO hargs ec hlen
     ·cases h
    ·cases h
   ·cases h
  | invoke r m =>
   have hn:CW s ctx (Op.call c).operands.toList=true:=by simpa only [C9,hc] using hcalm
   have hlen:Nat.beq mem.length s.mem.length=true:=by unfold DL at hst; rw [hop] at hst; simpa only [hc] using hst
   simp only [hc] at h
   split at h
   ·rename_i args ef eargs
    have hargs:=Jw hn (m:=c.args.toList) (fun x hx=>by simp [Op.operands,Call.operands,hc]; exact .inr (by simpa using hx)) eargs
    split at h
    ·split at h
     ·rename_i ec
      rw [← A8 h] at ec
      exact aO hargs ec hlen
     ·cases h
    ·cases h
   ·cases h
  | builtin b =>
   simp only [AW,hc] at hk
   simp only [hc] at h
   cases b <;> simp only at h hk <;> first | omega | (cases h; done) | (repeat' split at h) <;> first | (cases h; done) | exact A8 h | exact A8 (AF h).2 | exact A8 (Dc h)
 | _ =>
  rw [hop] at h
  simp only at h
  (repeat' split at h) <;> first | (cases h; done) | exact A8 h | exact A8 (AF h).2 | exact A8 (Dc h) | (have h2:=(AF h).2; cases h2)
theorem Ce {g g':Bool} {x x':TV} {m m':Ae} (h:some (Res.ok g x m)=some (Res.ok g' x' m')) (m2:Ae):some (Res.ok g x m2)=some (Res.ok g' x' m2):=by
 cases h; rfl
def YW (m m2:Ae) (c:SC):Prop:=∀ b,n5 c=some b->Ad m2 b=Ad m b
theorem aBY {m m2:Ae} {c:SC} (h:YW m m2 c):Js m2 c=Js m c:=by
 cases c with
 | ptr b off=>simp only [Js,h b rfl]
 | eptr b i off=>simp only [Js,h b rfl]
 | _=>rfl
theorem aDX {m m2:Ae} {c:SC} (h:YW m m2 c):lenOf m2 c=lenOf m c:=by
 cases c with
 | own b=>simp only [lenOf,h b rfl]
 | v x =>
  unfold lenOf
  split <;> first | rfl | (rename_i e; cases e) | simp_all
 | _=>rfl
theorem S3 (m2:Ae) (ctx:List (Nat×Bool)) (y:Operand):ev { s with mem:=m2 } ctx y=ev s ctx y:=by cases y <;> rfl
theorem Eb (m2:Ae) (ctx:List (Nat×Bool)) (y:Operand):AP { s with mem:=m2 } ctx y=AP s ctx y:=by unfold AP; rw [S3]
theorem SZ (m2:Ae) (ctx:List (Nat×Bool)) (y:Operand):DY { s with mem:=m2 } ctx y=DY s ctx y:=by unfold DY; rw [S3]
theorem S2 (m2:Ae) (ctx:List (Nat×Bool)):∀ l:List Operand,DF { s with mem:=m2 } ctx l=DF s ctx l
 | []=>rfl
 | x::r=>by simp only [DF,SZ,S2 m2 ctx r]
theorem bM (m2:Ae) (ctx:List (Nat×Bool)):∀ l:List (Nat×Operand),Fy { s with mem:=m2 } ctx l=Fy s ctx l
 | []=>rfl
 | (i,x)::r=>by simp only [Fy,SZ,bM m2 ctx r]
theorem dC (m2:Ae) (ctx:List (Nat×Bool)) (y:Operand):D1 { s with mem:=m2 } ctx y=D1 s ctx y:=by unfold D1; rw [Eb]
def UB (m m2:Ae):FP->Prop
 | .pure=>True
 | .rd (some b)=>Ad m2 b=Ad m b
 | .wr (some b)=>Ad m2 b=Ad m b
 | .mk _=>m2.length=m.length
 | _=>m2=m
theorem NE {m2:Ae} {y:Operand} {c:SC} (hc:AP s ctx y=some c) (h:UB s.mem m2 (JA s ctx y)):YW s.mem m2 c:=by
 intro b hb
 unfold JA at h
 rw [hc] at h
 simp only [hb] at h
 exact h
theorem aCR (hcalm:C9 s ctx o.op=true) (hk:AW o.op<=1) {g:Bool} {x:TV} {mem:Ae} (hst:DL o.op s.mem mem=true) (h:Aq C s ctx o=some (.ok g x mem)) (m2:Ae) (hs:UB s.mem m2 (DG s ctx o.op)) :
  Aq C { s with mem:=m2 } ctx o=some (.ok g x m2):=by
 by_cases hfull:m2=s.mem
 ·subst hfull
  have:=dG hcalm hk hst h
  subst this
  exact h
 unfold Aq at h ⊢
 cases hop:o.op with
 | alloc T=>rw [hop] at hk; simp [AW] at hk
 | box T y=>rw [hop] at hk; simp [AW] at hk
 | store T y z=>rw [hop] at hk; simp [AW] at hk
 | makeSlice T l c=>rw [hop] at hk; simp [AW] at hk
 | slice T y lo hi mx =>
  rw [hop] at h hcalm
  have hcalm:CW s ctx [y]=true:=hcalm
  obtain ⟨h1,h2,hn⟩:=gB (C:=C) (T:=T) (lo:=lo) (hi:=hi) (mx:=mx) hcalm
  obtain ⟨h1',h2',_⟩:=gB (C:=C) (s:={ s with mem:=m2 }) (T:=T) (lo:=lo) (hi:=hi) (mx:=mx) (y:=y) (by
   simp only [CW,S3] at hcalm ⊢; exact hcalm)
  simp only [h1,h2] at h
  simp only [h1',h2',Eb,dC] at h ⊢
  split at h
  ·rename_i e c hT ec
   split at h
   ·rename_i τ eτ
    rw [Wb (hn c ec)] at h ⊢
    simp only at h ⊢
    rw [aBI (m:=s.mem) (hn c ec)]
    split at h
    ·split at h
     ·exact Ce h m2
     ·cases h
    ·cases h
   ·cases h
  ·cases h
 | makeFunc fn first captured=>rw [hop] at hs; exact absurd hs hfull
 | load T y =>
  rw [hop] at h hs
  simp only [Eb] at h ⊢
  split at h
  ·rename_i a ea
   have hag:=NE ea hs
   simp only [aBY hag]
   (repeat' split at h) <;> first | (cases h; done) | exact Ce h m2
  ·cases h
 | nilCheck y =>
  rw [hop] at h hs
  simp only [S3] at h ⊢
  split at h
  ·rename_i b off ea
   have hag:=NE (c:=.ptr b off) (by unfold AP; rw [ea]) hs b rfl
   simp only [hag]
   (repeat' split at h) <;> first | (cases h; done) | exact Ce h m2
  ·cases h
 | fieldAddr T y i =>
  rw [hop] at h hs
  simp only [Eb] at h ⊢
  split at h
  ·rename_i b off d ft ea ef
   have hag:=NE ea hs b rfl
   simp only [hag]
   (repeat' split at h) <;> first | (cases h; done) | exact Ce h m2
  ·rename_i b j off d ft ea ef
   have hag:=NE ea hs b rfl
   simp only [hag]
   (repeat' split at h) <;> first | (cases h; done) | exact Ce h m2
  ·exact Ce h m2
  ·cases h
 | indexAddr T y z =>
  rw [hop] at h hs
  simp only [Eb,dC] at h ⊢
  split at h
  ·split at h
   ·split at h
    ·rename_i heq
     rw [if_pos heq]
     obtain ⟨h1,h2⟩:=AF h
     simp only [h1,cond_true]
     exact Ce h2 m2
    ·cases h
   ·cases h
  ·rename_i ea ei
   have hag:=NE ea hs _ rfl
   simp only [hag]
   split at h
   ·split at h
    ·rename_i heq
     rw [if_pos heq]
     exact Ce h m2
    ·cases h
   ·cases h
  ·rename_i c i hT ea ei
   have hag:=NE ea hs
   split at h
   ·rename_i τ eτ
    cases c with
    | own b =>
     have hb:=hag b rfl
     simp only at h ⊢
     simp only [hb]
     have hc2:=hcalm
     rw [hop] at hc2
     simp only [C9,ea] at hc2
     split at h
     ·split at h
      ·rename_i heq; rw [if_pos heq]; exact Ce h m2
      ·cases h
     ·rename_i eb; rw [eb] at hc2; cases hc2
     ·split at h
      ·rename_i heq; rw [if_pos heq]; exact Ce h m2
      ·cases h
     ·cases h
    | sl τ' xs =>
     simp only at h ⊢
     split at h
     ·rename_i heq; rw [if_pos heq]; exact Ce h m2
     ·cases h
    | sub b lo n =>
     have hb:=hag b rfl
     simp only at h ⊢
     simp only [hb]
     split at h
     ·split at h
      ·rename_i heq; rw [if_pos heq]; exact Ce h m2
      ·cases h
     ·cases h
    | _=>simp only at h; cases h
   ·cases h
  ·cases h
 | buildSlice T n ps =>
  have hn:CW s ctx o.op.operands.toList=true:=by
   have:=hcalm; rw [hop] at this ⊢; exact this
  rw [hop] at h hn
  simp only [bM] at h ⊢
  split at h
  ·split at h
   ·rename_i z pl eτ hz hps
    split at h
    ·rename_i cs ecs
     have hcs:AH cs=true:=gJ _ ecs (eB n (xP hz)) (bN hn (fun p hp=>by
      simp only [Op.operands]
      simp only [List.mem_map]
      exact ⟨p,hp,rfl⟩) hps)
     rw [Wc hcs] at h ⊢
     simp only at h ⊢
     split at h
     ·obtain ⟨h1,h2⟩:=AF h
      simp only [h1,cond_true]
      exact Ce h2 m2
     ·cases h
    ·cases h
   ·cases h
  ·cases h
 | call c =>
  rw [hop] at h hk hs hcalm
  cases hc:c.callee with
  | value fo =>
   have hn:CW s ctx (Op.call c).operands.toList=true:=by simpa only [C9,hc] using hcalm
   have hlen:mem.length=s.mem.length:=by unfold DL at hst; rw [hop] at hst; simp only [hc] at hst; exact Nat.eq_of_beq_eq_true hst
   simp only [hc,Eb,S2] at h ⊢
   split at h
   ·rename_i f caps args ef eargs
    have hargs:=Jw hn (m:=c.args.toList) (fun x hx=>by simp [Op.operands,Call.operands,hc]; exact .inr (by simpa using hx)) eargs
    have hsum:C.sum f m2 args=C.sum f s.mem args:=bS hargs
    rw [hsum]
    split at h
    ·rename_i L eL
     exfalso
     split at eL
     ·rw [Tv hargs] at eL; cases eL
     ·cases eL
    split
    ·rename_i L eL
     exfalso
     split at eL
     ·rw [Tv hargs] at eL; cases eL
     ·cases eL
    split at h
    ·split at h
     ·rename_i ec
      have hm:=A8 h
      rw [(Pp hargs ec).choose_spec.2.2 (by rw [← hm]; exact hlen) m2]
      exact Ce h m2
     ·cases h
    ·have h2:=(AF h).2; cases h2
   ·rename_i args ef eargs
    have hargs:=Jw hn (m:=c.args.toList) (fun x hx=>by simp [Op.operands,Call.operands,hc]; exact .inr (by simpa using hx)) eargs
    rw [bQ (m1:=m2) (m2:=s.mem) hargs]
    split at h
    ·split at h
     ·rename_i ec
      have hm:=A8 h
      rw [(Pp hargs ec).choose_spec.2.2 (by rw [← hm]; exact hlen) m2]
      exact Ce h m2
     ·cases h
    ·cases h
   ·cases h
  | invoke r m =>
   have hn:CW s ctx (Op.call c).operands.toList=true:=by simpa only [C9,hc] using hcalm
   have hlen:mem.length=s.mem.length:=by unfold DL at hst; rw [hop] at hst; simp only [hc] at hst; exact Nat.eq_of_beq_eq_true hst
   simp only [hc,Eb,S2] at h ⊢
   split at h
   ·rename_i args ef eargs
    have hargs:=Jw hn (m:=c.args.toList) (fun x hx=>by simp [Op.operands,Call.operands,hc]; exact .inr (by simpa using hx)) eargs
    rw [pQ (m1:=m2) (m2:=s.mem) hargs]
    split at h
    ·split at h
     ·rename_i ec
      have hm:=A8 h
      rw [(Pp hargs ec).choose_spec.2.2 (by rw [← hm]; exact hlen) m2]
      exact Ce h m2
     ·cases h
    ·cases h
   ·cases h
  | builtin b =>
   cases b with
   | len =>
    simp only [hc,Eb] at h ⊢
    simp only [DG,hc] at hs
    split at h
    ·rename_i x T ex eT
     rw [ex] at hs
     simp only at hs
     split at h
     ·obtain ⟨h1,h2⟩:=AF h
      simp only [h1,cond_true]
      exact Ce h2 m2
     ·split at h
      ·rename_i a ea
       have hag:=NE ea hs
       split at h
       ·cases h
       ·rename_i b lo n
        have hb:=hag b rfl
        simp only [hb]
        split at h
        ·exact Ce h m2
        ·cases h
       ·simp only [aDX hag]
        (repeat' split at h) <;> first | (cases h; done) | exact Ce h m2
      ·cases h
     ·split at h
      ·exact Ce h m2
      ·cases h
     ·cases h
    ·cases h
   | min =>
    simp only [hc,Eb] at h ⊢
    split at h
    ·split at h
     ·split at h
      ·rename_i hk'; rw [if_pos hk']; exact Ce h m2
      ·cases h
     ·cases h
    ·cases h
   | max =>
    simp only [hc,Eb] at h ⊢
    split at h
    ·split at h
     ·split at h
      ·rename_i hk'; rw [if_pos hk']; exact Ce h m2
      ·cases h
     ·cases h
    ·cases h
   | append=>simp [AW,hc] at hk
   | copy=>simp [AW,hc] at hk
   | _=>simp only [hc] at h; cases h
 | index T y z =>
  rw [hop] at h
  simp only [Eb,dC] at h ⊢
  split at h
  ·exact Ce h m2
  ·cases h
 | _ =>
  rw [hop] at h
  simp only [S3,Eb,SZ,bM] at h ⊢
  first
   | (cases h; done)
   | ((repeat' split at h) <;> first | (cases h; done) | exact Ce h m2 | (obtain ⟨h1,h2⟩:=AF h; simp only [h1,cond_true]; first | (cases h2; done) | exact Ce h2 m2))
theorem qB {T:TypeId} {y z:Operand} (hop:o.op=.store T y z) {g:Bool} {x:TV} {mem:Ae} (h:Aq C s ctx o=some (.ok g x mem)) {m2:Ae} {b:Nat} (hf:DG s ctx o.op=.wr (some b)) (hb:Ad m2 b=Ad s.mem b) :
  Ad s.mem b≠.gone/\∃ e,mem=s.mem.set b e/\Aq C { s with mem:=m2 } ctx o=some (.ok g x (m2.set b e)):=by
 unfold Aq at h ⊢
 rw [hop] at h hf
 rw [hop]
 simp only [Eb,SZ] at h ⊢
 simp only [DG] at hf
 split at h
 ·rename_i b' off v ey ez
  rw [ey,ez] at hf
  simp only [FP.wr.injEq,Option.some.injEq] at hf
  subst hf
  simp only [hb]
  split at h
  ·rename_i eb
   obtain ⟨h1,h2⟩:=AF h
   simp only [h1,cond_true]
   split at h2
   ·rename_i cs' ecs
    cases h2
    exact ⟨by rw [eb]; simp,_,rfl,rfl⟩
   ·cases h2
  ·cases h
 ·rename_i b' i off v ey ez
  rw [ey,ez] at hf
  simp only at hf
  cases hno:AH v.cells with
  | false=>rw [hno] at hf; simp at hf
  | true =>
   rw [hno] at hf
   simp only [cond_true,FP.wr.injEq,Option.some.injEq] at hf
   subst hf
   rw [cC hno] at h ⊢
   simp only [hb] at h ⊢
   split at h
   ·rename_i eb
    obtain ⟨h1,h2⟩:=AF h
    simp only [h1,cond_true]
    split at h2
    ·split at h2
     ·cases h2
      exact ⟨by rw [eb]; simp,_,rfl,rfl⟩
     ·cases h2
    ·cases h2
   ·cases h
 ·cases h
theorem bZ {g:Bool} {x:TV} {mem:Ae} (hop:(∃ T,o.op=.alloc T)∨∃ T y,o.op=.box T y) (h:Aq C s ctx o=some (.ok g x mem)) :
  ∃ e,mem=s.mem++[e]/\∀ m2:Ae,m2.length=s.mem.length->Aq C { s with mem:=m2 } ctx o=some (.ok g x (m2++[e])):=by
 unfold Aq at h ⊢
 rcases hop with ⟨T,hop⟩ | ⟨T,y,hop⟩
 ·rw [hop] at h ⊢
  simp only at h ⊢
  split at h
  ·split at h
   ·split at h
    ·rename_i xs exs
     cases h
     exact ⟨_,rfl,fun m2 hm=>by rw [hm]⟩
    ·cases h
   ·cases h
  ·cases h
   exact ⟨_,rfl,fun m2 hm=>by rw [hm]⟩
  ·cases h
 ·rw [hop] at h ⊢
  simp only [SZ] at h ⊢
  split at h
  ·split at h
   ·split at h
    ·rename_i xs exs
     cases h
     exact ⟨_,rfl,fun m2 hm=>by rw [hm]⟩
    ·cases h
   ·cases h
  ·cases h
   exact ⟨_,rfl,fun m2 hm=>by rw [hm]⟩
  ·cases h
theorem n9 {g:Bool} {x:TV} {mem:Ae} (hcalm:C9 s ctx o.op=true∨AW o.op=2) (hm:Tw o.op s.mem mem=true) (h:Aq C s ctx o=some (.ok g x mem)) :
  ∃ e,mem=s.mem++[e]/\∀ m2,m2.length=s.mem.length->Aq C { s with mem:=m2 } ctx o=some (.ok g x (m2++[e])):=by
 cases hop:o.op with
 | call c =>
  rw [hop] at hm
  cases hc:c.callee with
  | value fo =>
   simp only [Tw,hc] at hm
   have hlen:=Nat.eq_of_beq_eq_true hm
   have hcalm:C9 s ctx o.op=true:=hcalm.resolve_right (by rw [hop]; simp [AW,hc])
   rw [hop] at hcalm
   have hn:CW s ctx (Op.call c).operands.toList=true:=by simpa only [C9,hc] using hcalm
   have hex:∃ e,mem=s.mem++[e]/\∀ m2,m2.length=s.mem.length->Aq C { s with mem:=m2 } ctx o=some (.ok g x (m2++[e])):=by
    unfold Aq at h ⊢
    rw [hop] at h ⊢
    simp only [hc,Eb,S2] at h ⊢
    split at h
    ·rename_i f caps args ef eargs
     have hargs:=Jw hn (m:=c.args.toList) (fun x hx=>by simp [Op.operands,Call.operands,hc]; exact .inr (by simpa using hx)) eargs
     split at h
     ·rename_i L eL
      exfalso
      split at eL
      ·rw [Tv hargs] at eL; cases eL
      ·cases eL
     split at h
     ·rename_i S eS
      have hcaps:caps=[]/\C.sum f s.mem args=some S:=by
       cases caps with
       | nil=>exact ⟨rfl,eS⟩
       | cons _ _=>cases eS
      obtain ⟨rfl,hS⟩:=hcaps
      split at h
      ·rename_i ec
       have hmm:=A8 h
       obtain ⟨l,hl1,hl2,_⟩:=Pp hargs ec
       have hle:∃ e,l=[e]:=by
        rw [hmm,hl1] at hlen
        simp only [List.length_append] at hlen
        match l,hlen with
        | [e],_=>exact ⟨e,rfl⟩
        | [],h=>simp at h
        | _::_::_,h=>simp at h
       obtain ⟨e,rfl⟩:=hle
       refine ⟨e,by rw [hmm,hl1],fun m2 hm2=>?_⟩
       have hsum:C.sum f m2 args=some S:=(bS hargs).trans hS
       split
       ·rename_i L eL
        exfalso
        split at eL
        ·rw [Tv hargs] at eL; cases eL
        ·cases eL
       simp only [hsum]
       rw [hl2 m2 hm2]
       exact Ce h _
      ·cases h
     ·have h2:=(AF h).2; cases h2
    ·rename_i args ef eargs
     have hargs:=Jw hn (m:=c.args.toList) (fun x hx=>by simp [Op.operands,Call.operands,hc]; exact .inr (by simpa using hx)) eargs
     split at h
     ·rename_i S eS
      split at h
      ·rename_i ec
       have hmm:=A8 h
       obtain ⟨l,hl1,hl2,_⟩:=Pp hargs ec
       have hle:∃ e,l=[e]:=by
        rw [hmm,hl1] at hlen
        simp only [List.length_append] at hlen
        match l,hlen with
        | [e],_=>exact ⟨e,rfl⟩
        | [],h=>simp at h
        | _::_::_,h=>simp at h
       obtain ⟨e,rfl⟩:=hle
       refine ⟨e,by rw [hmm,hl1],fun m2 hm2=>?_⟩
       rw [bQ (m1:=m2) (m2:=s.mem) hargs,eS]
       simp only
       rw [hl2 m2 hm2]
       exact Ce h _
      ·cases h
     ·cases h
    ·cases h
   exact hex
  | invoke r m=>simp only [Tw,hc] at hm; cases hm
  | builtin b=>simp only [Tw,hc] at hm; cases hm
 | _=>rw [hop] at hm; cases hm
theorem pN {m m2:Ae} {f:FuncId} {b:Nat} {r:List SV} (hb:Ad m2 b=Ad m b):∀ {l:List (FuncId×SumL)},HM l f m2 (.one (.own b)::r)=HM l f m (.one (.own b)::r)
 | []=>rfl
 | (g,L)::rest=>by
  have hf:NO m2 L.lend (.one (.own b)::r)=NO m L.lend (.one (.own b)::r):=by
   simp only [NO]
   cases L.lend with
   | win e=>simp only [V8,hb]
   | ref τ=>rfl
  simp only [HM,hf,pN hb (l:=rest)]
theorem aCN {m m2:Ae} {b:Nat} {r:List SV} (hb:Ad m2 b=Ad m b) (h:∀ z∈r,AH z.cells=true) {sg:Ac}:Jz m2 sg (.one (.own b)::r)=Jz m sg (.one (.own b)::r):=by
 cases sg with
 | nil=>rfl
 | cons p sg =>
  obtain ⟨a,τ⟩:=p
  simp only [Jz,hb,bT (m1:=m2) (m2:=m) h]
theorem pS {m m2:Ae} {f:FuncId} {b:Nat} {r:List SV} (hb:Ad m2 b=Ad m b) (h:∀ z∈r,AH z.cells=true):∀ {l:List (FuncId×Sum)},GB l f m2 (.one (.own b)::r)=GB l f m (.one (.own b)::r)
 | []=>rfl
 | (g,S)::rest=>by simp only [GB,aCN hb h,pS hb h (l:=rest)]
theorem oA {b:Nat} {g:Bool} {x:TV} {mem:Ae} (ho1:TG C s ctx o.op=some b) (hl:mem.length=s.mem.length) (h:Aq C s ctx o=some (.ok g x mem)) :
  Ad s.mem b≠.gone/\mem=s.mem.set b .gone/\∀ m2,Ad m2 b=Ad s.mem b->Aq C { s with mem:=m2 } ctx o=some (.ok g x (m2.set b .gone)):=by
 cases hop:o.op with
 | call c =>
  rw [hop] at ho1
  cases hc:c.callee with
  | value fo =>
   simp only [TG,hc] at ho1
   split at ho1
   ·rename_i f b' r ef ea
    split at ho1
    ·rename_i S eL eS
     split at ho1
     ·rename_i e sg hins
      obtain ⟨hall,ho1⟩:=AF ho1
      cases ho1
      have hr:∀ z∈r,AH z.cells=true:=by simpa using hall
      unfold Aq at h ⊢
      rw [hop] at h ⊢
      simp only [hc,Eb,S2,ef,ea] at h ⊢
      have hL:(match o.guard with | none=>C.lsum f s.mem (.one (.own b)::r) | _=>none)=none:=by
       split
       ·exact eL
       ·rfl
      have step1:∀ m2,Ad m2 b=Ad s.mem b->C.lsum f m2 (.one (.own b)::r)=none/\C.sum f m2 (.one (.own b)::r)=some S:=fun m2 hb=>⟨(pN hb).trans eL,(pS hb hr).trans eS⟩
      split at h
      ·rename_i L e'
       exfalso
       split at e'
       ·rw [eL] at e'; cases e'
       ·cases e'
      simp only [eS] at h
      cases S with
      | mk ins outs pre F =>
      simp only at hins
      subst hins
      split at h
      rotate_left
      ·cases h
      rename_i g' x' m' ec
      have hmm:=A8 h
      subst hmm
      unfold Er at ec
      simp only [AY,HT,cond_true] at ec
      have fr:∀ m2,(AY m2 sg r).2=m2/\(AY m2 sg r).1=(AY s.mem sg r).1:=fun m2=>⟨(Tb hr).1,(NR hr).1⟩
      have hr':∀ z∈(AY s.mem sg r).1,AH z.cells=true:=(NR (mem:=s.mem) (m2:=s.mem) hr).2
      rw [(fr s.mem).1] at ec
      simp only [Cg] at ec
      have key:∀ (u:List (Aa e)) (m1:Ae),GK s.mem true (.slice e) (.one (.own b))=some (u,m1)->m1=s.mem.set b .gone/\Ad s.mem b≠.gone/\∀ m2,Ad m2 b=Ad s.mem b->GK m2 true (.slice e) (.one (.own b))=some (u,m2.set b .gone):=fun u m1 h=>by
       simp only [GK,cond_true] at h ⊢
       cases eb:Ad s.mem b with
       | arr τ' xs =>
        rw [eb] at h
        simp only at h
        split at h
        ·rename_i xs' ec
         cases h
         exact ⟨rfl,by simp,fun m2 hm=>by rw [hm]; simp only [ec]⟩
        ·cases h
       | acc τ' xs =>
        rw [eb] at h
        simp only at h
        split at h
        ·rename_i xs' ec
         cases h
         exact ⟨rfl,by simp,fun m2 hm=>by rw [hm]; simp only [ec]⟩
        ·cases h
       | _=>rw [eb] at h; cases h
      split at ec
      ·rename_i zm ez
       obtain ⟨z,m3⟩:=zm
       simp only at ec
       split at ez
       ·rename_i u m1 e1
        obtain ⟨q1,q2,q3⟩:=key u m1 e1
        subst q1
        split at ez
        ·rename_i v m4 e2
         cases ez
         obtain ⟨w1,w2⟩:=T6 hr' e2
         subst w1
         split at ec
         ·rename_i vs m5 ev
          cases ec
          have hsame:mem.length=(s.mem.set b .gone).length:=by rw [hl]; simp
          have gs:=rE ev hsame
          refine ⟨q2,gs,fun m2 hb=>?_⟩
          obtain ⟨s1,s2⟩:=step1 m2 hb
          split
          ·rename_i L e'
           exfalso
           split at e'
           ·rw [s1] at e'; cases e'
           ·cases e'
          simp only [s2,Er,AY,HT,cond_true]
          rw [(fr m2).1,(fr m2).2]
          simp only [Cg]
          rw [q3 m2 hb]
          simp only
          rw [w2 (m2.set b .gone)]
          simp only
          rw [Wy ev hsame (m2.set b .gone)]
          simp only
          exact Ce h _
         ·cases ec
        ·cases ez
       ·cases ez
      ·cases ec
     ·cases ho1
    ·cases ho1
   ·cases ho1
  | invoke r m=>simp only [TG,hc] at ho1; cases ho1
  | builtin b=>simp only [TG,hc] at ho1; cases ho1
 | _=>rw [hop] at ho1; cases ho1
end Vx
namespace Vx
open Go Go.RowKit
variable {C:Cfg}
structure Trace (C:Cfg) (ops:List Oper) (s0:St) (S:Nat->St) (xs:Nat->TV) (fs:Nat->FP):Prop where
 zero:S 0=s0
 step:∀ j o,ops[j]? = some o->NM C ops o (S j)=some (fs j,true,xs j,(S (j+1)).mem)/\S (j+1)=Gs ops o (S j) (xs j) (S (j+1)).mem/\∀ d,o.dst=some d->d<(S j).n
theorem gN {ops:List Oper}:∀ (l:List Oper) (s s':St) (fps:List FP) (gs:List Bool),MM C ops l s=some (fps,gs,s')->(∀ g∈gs,g=true) ->
  ∃ (S:Nat->St) (xs:Nat->TV) (fs:Nat->FP),(∀ j o,l[j]? = some o->fps[j]? = some (fs j))/\S 0=s/\S l.length=s'/\∀ j o,l[j]? = some o->NM C ops o (S j)=some (fs j,true,xs j,(S (j+1)).mem)/\S (j+1)=Gs ops o (S j) (xs j) (S (j+1)).mem/\∀ d,o.dst=some d->d<(S j).n
 | [],s,s',fps,gs,h,_=>by
  simp only [MM] at h; cases h
  exact ⟨fun _=>s,fun _=>.un,fun _=>.pure,fun j o hj=>by simp at hj,rfl,rfl,fun j o hj=>by simp at hj⟩
 | o::l,s,s',fps,gs,h,hg=>by
  simp only [MM] at h
  split at h
  ·rename_i fp g x mem e
   obtain ⟨hb,h⟩:=AF h
   split at h
   ·rename_i fps' gs' s'' e2
    cases h
    obtain ⟨S,xs,fs,h0,h1,h2,h3⟩:=gN l _ _ _ _ e2 fun g hgg=>hg g (by simp [hgg])
    have hgt:g=true:=hg g (by simp)
    subst hgt
    have hmem:(S 0).mem=mem:=by
     rw [h1]; unfold Gs; split
     ·rfl
     ·split
      ·rfl
      ·split <;> rfl
    refine ⟨fun j=>match j with | 0=>s | j+1=>S j,fun j=>match j with | 0=>x | j+1=>xs j,fun j=>match j with | 0=>fp | j+1=>fs j,fun j q hj=>?_,rfl,by simpa using h2,fun j q hj=>?_⟩
    ·cases j with
     | zero=>rfl
     | succ j=>simpa using h0 j q (by simpa using hj)
    cases j with
    | zero =>
     simp at hj; subst hj
     refine ⟨by simp only [hmem]; exact e,by simp only [hmem]; exact h1,fun d hd=>?_⟩
     rw [hd] at hb
     simpa using hb
    | succ j=>exact h3 j q (by simpa using hj)
   ·cases h
  ·cases h
theorem nK {ops:List Oper} {o:Oper} {s:St} {x:TV} {mem:Ae}:(Gs ops o s x mem).n=s.n/\(Gs ops o s x mem).m0=s.m0:=by
 unfold Gs
 split
 ·exact ⟨rfl,rfl⟩
 ·split
  ·exact ⟨rfl,rfl⟩
  ·split <;> exact ⟨rfl,rfl⟩
theorem JI:∀ {l:List Nat} {n:Nat},FA n l=true↔n∈l
 | [],n=>by simp [FA]
 | m::r,n=>by
  simp only [FA,Bool.or_eq_true,JI,List.mem_cons]
  constructor
  ·rintro (h | h)
   ·exact .inl (Nat.eq_of_beq_eq_true h).symm
   ·exact .inr h
  ·rintro (h | h)
   ·subst h; exact .inl (Nat.beq_refl _)
   ·exact .inr h
theorem V3 {o:Oper} {l:List Nat}:Ju o l=true↔∃ d,o.dst=some d/\d∈l:=by
 unfold Ju
 cases o.dst with
 | none=>simp
 | some d=>simp [JI]
theorem pF {x y:Oper}:V4 x y=true↔∃ d,x.dst=some d/\y.dst=some d:=by
 unfold V4
 cases x.dst <;> cases y.dst <;> simp
 rename_i a b
 exact ⟨fun h=>h.symm,fun h=>h.symm⟩
theorem SI:∀ {l:List Nat} {j:Nat},Pk j l=true->∀ i∈l,i<j
 | [],_,_,i,h=>by simp at h
 | m::r,j,h,i,hi=>by
  simp only [Pk,Bool.and_eq_true] at h
  rcases List.mem_cons.1 hi with rfl | hi
  ·simpa using h.1
  ·exact SI h.2 i hi
theorem tR {ops:List Oper} {fps:List FP} {A:List (List Nat)} {j:Nat} {y:Oper}:∀ (l:List Oper) (k:Nat),Qg ops fps A j y k l=true->∀ i x,l[i]? = some x->k+i<j->eG ops fps A (k+i) j x y=true
 | [],_,_,i,x,h,_=>by simp at h
 | z::r,k,h,i,x,hi,hij=>by
  simp only [Qg] at h
  have hk:Nat.blt k j=true:=by simp; omega
  rw [hk] at h
  simp only [cond_true,Bool.and_eq_true] at h
  cases i with
  | zero=>simp at hi; subst hi; exact h.1
  | succ i =>
   have:=tR r (k+1) h.2 i x (by simpa using hi) (by omega)
   rw [show k+(i+1)=k+1+i by omega]
   exact this
theorem tS {ops:List Oper} {fps:List FP} {A:List (List Nat)}:∀ (l:List Oper) (k:Nat),WO ops fps A k l=true->∀ j y,l[j]? = some y ->
  (∀ i∈Bs y,i<k+j)/\AW y.op<3/\Ju y (looks ops y)=false/\Qg ops fps A (k+j) y 0 ops=true/\∀ g p,y.guard=some (g,p)->g<k+j
 | [],_,_,j,y,h=>by simp at h
 | z::r,k,h,j,y,hj=>by
  simp only [WO,Bool.and_eq_true,Bool.not_eq_true'] at h
  obtain ⟨⟨⟨⟨⟨h1,h2⟩,h3⟩,h4⟩,h6⟩,h5⟩:=h
  cases j with
  | zero =>
   simp at hj; subst hj
   refine ⟨SI h1,by simpa using h2,h3,h4,fun g p e=>?_⟩
   rw [e] at h6
   simpa using h6
  | succ j =>
   have:=tS r (k+1) h5 j y (by simpa using hj)
   rw [show k+(j+1)=k+1+j by omega]
   exact this
theorem pX {α β:Type} {f g:α->List β}:∀ {l:List α},(∀ x∈l,f x=g x)->l.flatMap f=l.flatMap g
 | [],_=>rfl
 | x::l,h=>by
  rw [List.flatMap_cons,List.flatMap_cons,h x (by simp),pX fun y hy=>h y (by simp [hy])]
theorem aF:∀ (l:List Oper) (acc:List (List Nat)) (i:Nat),i<acc.length->(E1 acc l)[i]? = acc[i]?
 | [],acc,i,_=>rfl
 | o::r,acc,i,h=>by
  simp only [E1]
  rw [aF r _ i (by simp; omega),List.getElem?_append_left h]
theorem nI:∀ (l:List Oper) (acc:List (List Nat)) (j:Nat) (o:Oper),l[j]? = some o->∀ Ck,Ck=E1 acc l->(∀ i∈Bs o,i<acc.length+j) ->
  Ck[acc.length+j]? = some ((Bs o).flatMap fun i=>i::(Ck[i]?).getD [])
 | [],_,_,_,h,_,_,_=>by simp at h
 | z::r,acc,0,o,h,Ck,hf,hp=>by
  simp at h; subst h
  subst hf
  simp only [E1]
  rw [Nat.add_zero,aF r _ acc.length (by simp)]
  rw [List.getElem?_append_right (Nat.le_refl _)]
  simp only [Nat.sub_self,List.getElem?_cons_zero,Option.some.injEq]
  refine pX fun i hi=>?_
  have:=hp i hi
  rw [aF r _ i (by simp; omega),List.getElem?_append_left (by omega)]
 | z::r,acc,j+1,o,h,Ck,hf,hp=>by
  simp only [E1] at hf
  have:=nI r _ j o (by simpa using h) Ck hf (fun i hi=>by have:=hp i hi; simp; omega)
  simp only [List.length_append,List.length_cons,List.length_nil] at this
  rw [show acc.length+(j+1)=acc.length+(0+1)+j by omega]
  exact this
end Vx
end
