/- Part 5 of the proof. What is proved: symbolic execution of the functions, proved sound; what each function of the program computes, and that every run ends with it; what these functions compute, in plain numbers. Conditions: each theorem bears its own. -/
import Derived.Test.YtblmecpfokfjpaaDoorVxG4
import Derived.IntWalk
set_option linter.all false
set_option exponentiation.threshold 1000000
namespace Vx
open Go Go.Proofs
abbrev I315:Sig:=[(false,.int .u64),(false,.int .u64)]
abbrev O315:Sig:=[(false,.int .u64),(false,.int .u64)]
noncomputable def t315 (a0:Den (.int .u64)) (a1:Den (.int .u64)):Option (DenS O315) :=
  let e2_:=(Vx.andI Go.IntKind.u64 a1 (4294967295:Int))
  let e3_:=(Vx.andI Go.IntKind.u64 a0 (4294967295:Int))
  let e1_:=(Go.IntKind.wrap .u64 ((Go.IntKind.wrap .u64 ((Vx.shrI Go.IntKind.u64 a0 (32:Int)) * e2_)) + (Vx.shrI Go.IntKind.u64 (Go.IntKind.wrap .u64 (e3_ * e2_)) (32:Int))))
  some ((Go.IntKind.wrap .u64 ((Go.IntKind.wrap .u64 ((Go.IntKind.wrap .u64 ((Vx.shrI Go.IntKind.u64 a0 (32:Int)) * (Vx.shrI Go.IntKind.u64 a1 (32:Int)))) + (Vx.shrI Go.IntKind.u64 e1_ (32:Int)))) + (Vx.shrI Go.IntKind.u64 (Go.IntKind.wrap .u64 ((Vx.andI Go.IntKind.u64 e1_ (4294967295:Int)) + (Go.IntKind.wrap .u64 (e3_ * (Vx.shrI Go.IntKind.u64 a1 (32:Int)))))) (32:Int)))),((Go.IntKind.wrap .u64 (a0 * a1)),()))
theorem r315 (a0:Den (.int .u64)) (a1:Den (.int .u64)) :
    run { P:=Go.Proofs.Tryd.prog,sums:=[],loops:=[],globs:=G1 } 9 102 Go.Proofs.Tryd.f102 I315 O315 (a0,a1,()) = t315 a0 a1:=by kernel_rfl
noncomputable def T315 (x:DenS I315):Option (DenS O315):=t315 x.1 x.2.1
noncomputable def C315:Cfg:={ P:=Go.Proofs.Tryd.prog,sums:=[],loops:=[],globs:=G1 }
noncomputable def S315:Sum:=sumOf I315 O315 T315 (DenS.dflt O315)
theorem S315_sound:Sound Go.Proofs.Tryd.prog G1 102 S315 :=
  fn_sound C315 9 102 Go.Proofs.Tryd.f102 mixedOk (by kernel_rfl) (by kernel_rfl) (by kernel_rfl) trivial trivial I315 O315 T315 _ (fun x=>r315 x.1 x.2.1)
abbrev I316:Sig:=[(false,.int .u64),(false,.int .u64)]
abbrev O316:Sig:=[(true,.pair (.int .u64) (.pair (.int .u64) (.unit)))]
noncomputable def t316 (p315:DenS I315 → Bool) (f315:DenS I315 → DenS O315) (a0:Den (.int .u64)) (a1:Den (.int .u64)):Option (DenS O316) :=
  bif (p315 (a0,(a1,()))) then
  (some ((f315 (a0,(a1,()))),()))
  else none
theorem r316 (p315:DenS I315 → Bool) (f315:DenS I315 → DenS O315) (a0:Den (.int .u64)) (a1:Den (.int .u64)) :
    run { P:=Go.Proofs.Tryd.prog,sums:=[(102,⟨I315,O315,p315,f315⟩)],loops:=[],globs:=G1 } 9 62 Go.Proofs.Tryd.f62 I316 O316 (a0,a1,()) = t316 p315 f315 a0 a1:=by kernel_rfl
noncomputable def T316 (x:DenS I316):Option (DenS O316):=t316 S315.pre S315.F x.1 x.2.1
noncomputable def C316:Cfg:={ P:=Go.Proofs.Tryd.prog,sums:=[(102,S315)],loops:=[],globs:=G1 }
noncomputable def S316:Sum:=sumOf I316 O316 T316 (DenS.dflt O316)
theorem S316_sound:Sound Go.Proofs.Tryd.prog G1 62 S316 :=
  fn_sound C316 9 62 Go.Proofs.Tryd.f62 mixedOk (by kernel_rfl) (by kernel_rfl) (by kernel_rfl) ⟨S315_sound,trivial⟩ trivial I316 O316 T316 _ (fun x=>r316 S315.pre S315.F x.1 x.2.1)
abbrev I40:Sig:=[(false,.int .i64),(false,.int .u64)]
abbrev O40:Sig:=[(true,.pair (.bool) (.pair (.slice (.int .u64)) (.pair (.int .i64) (.unit)))),(false,.int .i64)]
noncomputable def t40 (p66:DenS I66 → Bool) (f66:DenS I66 → DenS O66) (p90:DenS I90 → Bool) (f90:DenS I90 → DenS O90) (p91:DenS I91 → Bool) (f91:DenS I91 → DenS O91) (p92:DenS I92 → Bool) (f92:DenS I92 → DenS O92) (a0:Den (.int .i64)) (a1:Den (.int .u64)):Option (DenS O40) :=
  bif (p66 (a0,(a1,()))) then
  (bif ((f66 (a0,(a1,()))).1 != (0:Int)) then
  (some ((false,([],((0:Int),()))),(f66 (a0,(a1,())))))
  else bif (bif (decide ((0:Int) ≤ a0)) then (decide (a0 < ((4:Nat):Int))) else false) then
  (bif (p90 ((Vx.k_rows.getD (Int.toNat a0) ((0:Int),((0:Int),((0:Int),((0:Int),()))))),(a1,()))) then
  (bif (p91 ((Go.IntKind.wrap .i64 ((Vx.k_rows.getD (Int.toNat a0) ((0:Int),((0:Int),((0:Int),((0:Int),()))))).1 - (Vx.k_rows.getD (Int.toNat a0) ((0:Int),((0:Int),((0:Int),((0:Int),()))))).2.1)),())) then
  (bif ((f90 ((Vx.k_rows.getD (Int.toNat a0) ((0:Int),((0:Int),((0:Int),((0:Int),()))))),(a1,()))).2.1 == (f91 ((Go.IntKind.wrap .i64 ((Vx.k_rows.getD (Int.toNat a0) ((0:Int),((0:Int),((0:Int),((0:Int),()))))).1 - (Vx.k_rows.getD (Int.toNat a0) ((0:Int),((0:Int),((0:Int),((0:Int),()))))).2.1)),())).1) then
  (some ((false,([],((0:Int),()))),((40:Int),())))
  else bif ((f90 ((Vx.k_rows.getD (Int.toNat a0) ((0:Int),((0:Int),((0:Int),((0:Int),()))))),(a1,()))).2.1 == (0:Int)) then
  (bif ((f90 ((Vx.k_rows.getD (Int.toNat a0) ((0:Int),((0:Int),((0:Int),((0:Int),()))))),(a1,()))).2.2.1 == (0:Int)) then
  (some ((false,([],((0:Int),()))),((0:Int),())))
  else bif (p92 (f90 ((Vx.k_rows.getD (Int.toNat a0) ((0:Int),((0:Int),((0:Int),((0:Int),()))))),(a1,()))).2.2) then
  (bif (decide ((0:Int) ≤ (f92 (f90 ((Vx.k_rows.getD (Int.toNat a0) ((0:Int),((0:Int),((0:Int),((0:Int),()))))),(a1,()))).2.2).1)) then
  (some (((f90 ((Vx.k_rows.getD (Int.toNat a0) ((0:Int),((0:Int),((0:Int),((0:Int),()))))),(a1,()))).1,(((Vx.shrI Go.IntKind.u64 (f90 ((Vx.k_rows.getD (Int.toNat a0) ((0:Int),((0:Int),((0:Int),((0:Int),()))))),(a1,()))).2.2.1 (f92 (f90 ((Vx.k_rows.getD (Int.toNat a0) ((0:Int),((0:Int),((0:Int),((0:Int),()))))),(a1,()))).2.2).1) :: []),((Go.IntKind.wrap .i64 ((Go.IntKind.wrap .i64 ((Go.IntKind.wrap .i64 ((Go.IntKind.wrap .i64 ((Go.IntKind.wrap .i64 ((Go.IntKind.wrap .i64 (1:Int)) - (1:Int))) + (Vx.k_rows.getD (Int.toNat a0) ((0:Int),((0:Int),((0:Int),((0:Int),()))))).2.2.1)) - (Vx.k_rows.getD (Int.toNat a0) ((0:Int),((0:Int),((0:Int),((0:Int),()))))).2.1)) + (1:Int))) + (f92 (f90 ((Vx.k_rows.getD (Int.toNat a0) ((0:Int),((0:Int),((0:Int),((0:Int),()))))),(a1,()))).2.2).1)),()))),((0:Int),())))
  else none)
  else none)
  else bif (decide ((0:Int) ≤ (Go.IntKind.wrap .i64 ((Vx.k_rows.getD (Int.toNat a0) ((0:Int),((0:Int),((0:Int),((0:Int),()))))).2.1 - (1:Int))))) then
  (bif ((Vx.orI Go.IntKind.u64 (f90 ((Vx.k_rows.getD (Int.toNat a0) ((0:Int),((0:Int),((0:Int),((0:Int),()))))),(a1,()))).2.2.1 (Vx.shlI Go.IntKind.u64 (1:Int) (Go.IntKind.wrap .i64 ((Vx.k_rows.getD (Int.toNat a0) ((0:Int),((0:Int),((0:Int),((0:Int),()))))).2.1 - (1:Int))))) == (0:Int)) then
  (some ((false,([],((0:Int),()))),((0:Int),())))
  else bif (p92 ((Vx.orI Go.IntKind.u64 (f90 ((Vx.k_rows.getD (Int.toNat a0) ((0:Int),((0:Int),((0:Int),((0:Int),()))))),(a1,()))).2.2.1 (Vx.shlI Go.IntKind.u64 (1:Int) (Go.IntKind.wrap .i64 ((Vx.k_rows.getD (Int.toNat a0) ((0:Int),((0:Int),((0:Int),((0:Int),()))))).2.1 - (1:Int))))),())) then
  (bif (decide ((0:Int) ≤ (f92 ((Vx.orI Go.IntKind.u64 (f90 ((Vx.k_rows.getD (Int.toNat a0) ((0:Int),((0:Int),((0:Int),((0:Int),()))))),(a1,()))).2.2.1 (Vx.shlI Go.IntKind.u64 (1:Int) (Go.IntKind.wrap .i64 ((Vx.k_rows.getD (Int.toNat a0) ((0:Int),((0:Int),((0:Int),((0:Int),()))))).2.1 - (1:Int))))),())).1)) then
  (some (((f90 ((Vx.k_rows.getD (Int.toNat a0) ((0:Int),((0:Int),((0:Int),((0:Int),()))))),(a1,()))).1,(((Vx.shrI Go.IntKind.u64 (Vx.orI Go.IntKind.u64 (f90 ((Vx.k_rows.getD (Int.toNat a0) ((0:Int),((0:Int),((0:Int),((0:Int),()))))),(a1,()))).2.2.1 (Vx.shlI Go.IntKind.u64 (1:Int) (Go.IntKind.wrap .i64 ((Vx.k_rows.getD (Int.toNat a0) ((0:Int),((0:Int),((0:Int),((0:Int),()))))).2.1 - (1:Int))))) (f92 ((Vx.orI Go.IntKind.u64 (f90 ((Vx.k_rows.getD (Int.toNat a0) ((0:Int),((0:Int),((0:Int),((0:Int),()))))),(a1,()))).2.2.1 (Vx.shlI Go.IntKind.u64 (1:Int) (Go.IntKind.wrap .i64 ((Vx.k_rows.getD (Int.toNat a0) ((0:Int),((0:Int),((0:Int),((0:Int),()))))).2.1 - (1:Int))))),())).1) :: []),((Go.IntKind.wrap .i64 ((Go.IntKind.wrap .i64 ((Go.IntKind.wrap .i64 ((Go.IntKind.wrap .i64 ((Go.IntKind.wrap .i64 ((Go.IntKind.wrap .i64 (f90 ((Vx.k_rows.getD (Int.toNat a0) ((0:Int),((0:Int),((0:Int),((0:Int),()))))),(a1,()))).2.1) - (1:Int))) + (Vx.k_rows.getD (Int.toNat a0) ((0:Int),((0:Int),((0:Int),((0:Int),()))))).2.2.1)) - (Vx.k_rows.getD (Int.toNat a0) ((0:Int),((0:Int),((0:Int),((0:Int),()))))).2.1)) + (1:Int))) + (f92 ((Vx.orI Go.IntKind.u64 (f90 ((Vx.k_rows.getD (Int.toNat a0) ((0:Int),((0:Int),((0:Int),((0:Int),()))))),(a1,()))).2.2.1 (Vx.shlI Go.IntKind.u64 (1:Int) (Go.IntKind.wrap .i64 ((Vx.k_rows.getD (Int.toNat a0) ((0:Int),((0:Int),((0:Int),((0:Int),()))))).2.1 - (1:Int))))),())).1)),()))),((0:Int),())))
  else none)
  else none)
  else none)
  else none)
  else none)
  else none)
  else none
theorem r40 (p66:DenS I66 → Bool) (f66:DenS I66 → DenS O66) (p90:DenS I90 → Bool) (f90:DenS I90 → DenS O90) (p91:DenS I91 → Bool) (f91:DenS I91 → DenS O91) (p92:DenS I92 → Bool) (f92:DenS I92 → DenS O92) (a0:Den (.int .i64)) (a1:Den (.int .u64)) :
    run { P:=Go.Proofs.Tryd.prog,sums:=[(48,⟨I66,O66,p66,f66⟩),(63,⟨I90,O90,p90,f90⟩),(54,⟨I91,O91,p91,f91⟩),(65,⟨I92,O92,p92,f92⟩)],loops:=[],globs:=G1 } 9 29 Go.Proofs.Tryd.f29 I40 O40 (a0,a1,()) = t40 p66 f66 p90 f90 p91 f91 p92 f92 a0 a1:=by kernel_rfl
noncomputable def T40 (x:DenS I40):Option (DenS O40):=t40 S66.pre S66.F S90.pre S90.F S91.pre S91.F S92.pre S92.F x.1 x.2.1
noncomputable def C40:Cfg:={ P:=Go.Proofs.Tryd.prog,sums:=[(48,S66),(63,S90),(54,S91),(65,S92)],loops:=[],globs:=G1 }
noncomputable def S40:Sum:=sumOf I40 O40 T40 (DenS.dflt O40)
theorem S40_sound:Sound Go.Proofs.Tryd.prog G1 29 S40 :=
  fn_sound C40 9 29 Go.Proofs.Tryd.f29 mixedOk (by kernel_rfl) (by kernel_rfl) (by kernel_rfl) ⟨S66_sound,⟨S90_sound,⟨S91_sound,⟨S92_sound,trivial⟩⟩⟩⟩ trivial I40 O40 T40 _ (fun x=>r40 S66.pre S66.F S90.pre S90.F S91.pre S91.F S92.pre S92.F x.1 x.2.1)
abbrev I103:Sig:=[(true,.pair (.bool) (.pair (.slice (.int .u64)) (.pair (.int .i64) (.unit))))]
abbrev O103:Sig:=[(false,.int .i64)]
noncomputable def t103 (a0:Den (.pair (.bool) (.pair (.slice (.int .u64)) (.pair (.int .i64) (.unit))))):Option (DenS O103) :=
  bif (decide ((a0.2.1.length:Int) > (1024:Int))) then
  (some ((5:Int),()))
  else bif ((decide (a0.2.2.1 < (-(40000:Int)))) || (decide (a0.2.2.1 > (40000:Int)))) then
  (some ((30:Int),()))
  else some ((0:Int),())
theorem r103 (a0:Den (.pair (.bool) (.pair (.slice (.int .u64)) (.pair (.int .i64) (.unit))))) :
    run { P:=Go.Proofs.Tryd.prog,sums:=[],loops:=[],globs:=G1 } 9 113 Go.Proofs.Tryd.f113 I103 O103 (a0,()) = t103 a0:=by kernel_rfl
noncomputable def T103 (x:DenS I103):Option (DenS O103):=t103 x.1
noncomputable def C103:Cfg:={ P:=Go.Proofs.Tryd.prog,sums:=[],loops:=[],globs:=G1 }
noncomputable def S103:Sum:=sumOf I103 O103 T103 (DenS.dflt O103)
theorem S103_sound:Sound Go.Proofs.Tryd.prog G1 113 S103 :=
  fn_sound C103 9 113 Go.Proofs.Tryd.f113 mixedOk (by kernel_rfl) (by kernel_rfl) (by kernel_rfl) trivial trivial I103 O103 T103 _ (fun x=>r103 x.1)
abbrev I100:Sig:=[(true,.pair (.bool) (.pair (.slice (.int .u64)) (.pair (.int .i64) (.unit))))]
abbrev O100:Sig:=[(true,.pair (.bool) (.pair (.slice (.int .u64)) (.pair (.int .i64) (.unit))))]
abbrev P100_5:Pat:=⟨42,[(4,.one (.v .i64)),(3,.one (.sl (.int .u64))),(1,.one (.ptr 0 0)),(2,.one (.ptr 1 0))],[.raw [.bool,.sl (.int .u64),.v .i64],.raw [.bool,.sl (.int .u64),.v .i64]]⟩
abbrev A100_5:List (Nat × Shape):=[]
abbrev X100_5:List (Nat × Pat):=[(0,⟨42,[(4,.one (.v .i64)),(3,.one (.sl (.int .u64))),(1,.one (.ptr 0 0)),(2,.one (.ptr 1 0))],[.raw [.bool,.sl (.int .u64),.v .i64],.raw [.bool,.sl (.int .u64),.v .i64]]⟩)]
abbrev Q100_5:Option Pat:=none
noncomputable def h100_5 (p102:DenS I102 → Bool) (f102:DenS I102 → DenS O102) (p92:DenS I92 → Bool) (f92:DenS I92 → DenS O92) (p141:DenS I141 → Bool) (f141:DenS I141 → DenS O141) {R:Type} (L:Pat.D P100_5 → Option R) (e:OutT X100_5 Q100_5 → Option R) (x:Pat.D P100_5):Option R :=
  bif ((decide ((0:Int) ≤ (Vx.quoI Go.IntKind.i64 x.1.1 (64:Int)))) && (decide ((Vx.quoI Go.IntKind.i64 x.1.1 (64:Int)) < (x.1.2.1.length:Int)))) then
  (bif ((x.1.2.1.getD (Int.toNat (Vx.quoI Go.IntKind.i64 x.1.1 (64:Int))) (0:Int)) == (0:Int)) then
  ((L (((Go.IntKind.wrap .i64 (x.1.1 + (64:Int))),(x.1.2.1,((),((),())))),x.2)))
  else (e (.inl ((x.1.1,(x.1.2.1,((),((),())))),x.2))))
  else none
theorem s100_5 (p102:DenS I102 → Bool) (f102:DenS I102 → DenS O102) (p92:DenS I92 → Bool) (f92:DenS I92 → DenS O92) (p141:DenS I141 → Bool) (f141:DenS I141 → DenS O141) (w100_5:Pat.D P100_5 → Option (OutT X100_5 Q100_5)) (d:Nat) (R:Type) (L:Pat.D P100_5 → Option R) (e:OutT X100_5 Q100_5 → Option R) (x:Pat.D P100_5) :
    lStep { P:=Go.Proofs.Tryd.prog,sums:=[(99,⟨I102,O102,p102,f102⟩),(65,⟨I92,O92,p92,f92⟩),(111,⟨I141,O141,p141,f141⟩)],loops:=[(85,5,LoopSpec.of P100_5 A100_5 X100_5 Q100_5 w100_5)],globs:=G1 } (d + 2) 85 (bodyOf Go.Proofs.Tryd.f85 5) P100_5 A100_5 X100_5 Q100_5 (R:=R) L e x = h100_5 p102 f102 p92 f92 p141 f141 L e x:=by kernel_rfl
theorem m100_5 (p102:DenS I102 → Bool) (f102:DenS I102 → DenS O102) (p92:DenS I92 → Bool) (f92:DenS I92 → DenS O92) (p141:DenS I141 → Bool) (f141:DenS I141 → DenS O141):Par fun L e x=>h100_5 p102 f102 p92 f92 p141 f141 L e x:=by
  intro A B rel L L' e e' h0 hL he x
  unfold h100_5
  repeat' (first | exact h0 | exact hL _ | exact he _ | apply rel_cond | (apply rel_obind h0; intro _) | (apply rel_obind2 <;> intro _))
noncomputable def t100 (p102:DenS I102 → Bool) (f102:DenS I102 → DenS O102) (p92:DenS I92 → Bool) (f92:DenS I92 → DenS O92) (p141:DenS I141 → Bool) (f141:DenS I141 → DenS O141) (w100_5:Pat.D P100_5 → Option (OutT X100_5 Q100_5)) (a0:Den (.pair (.bool) (.pair (.slice (.int .u64)) (.pair (.int .i64) (.unit))))):Option (DenS O100) :=
  bif (p102 (a0.2.1,())) then
  (bif (((f102 (a0.2.1,())).1.length:Int) == (0:Int)) then
  (some ((false,([],((0:Int),()))),()))
  else Vx.obind (w100_5 (((0:Int),((f102 (a0.2.1,())).1,((),((),())))),((a0.1,a0.2),((false,([],((0:Int),()))),())))) fun y2 =>
  Vx.obind2 y2 (fun y3 =>
  bif ((decide ((0:Int) ≤ (Vx.quoI Go.IntKind.i64 y3.1.1 (64:Int)))) && (decide ((Vx.quoI Go.IntKind.i64 y3.1.1 (64:Int)) < (y3.1.2.1.length:Int)))) then
  (bif (p92 ((y3.1.2.1.getD (Int.toNat (Vx.quoI Go.IntKind.i64 y3.1.1 (64:Int))) (0:Int)),())) then
  (bif (p141 (y3.1.2.1,((Go.IntKind.wrap .i64 (y3.1.1 + (f92 ((y3.1.2.1.getD (Int.toNat (Vx.quoI Go.IntKind.i64 y3.1.1 (64:Int))) (0:Int)),())).1)),()))) then
  (some ((y3.2.1.1,((f141 (y3.1.2.1,((Go.IntKind.wrap .i64 (y3.1.1 + (f92 ((y3.1.2.1.getD (Int.toNat (Vx.quoI Go.IntKind.i64 y3.1.1 (64:Int))) (0:Int)),())).1)),()))).1,((Go.IntKind.wrap .i64 (y3.2.1.2.2.1 + (Go.IntKind.wrap .i64 (y3.1.1 + (f92 ((y3.1.2.1.getD (Int.toNat (Vx.quoI Go.IntKind.i64 y3.1.1 (64:Int))) (0:Int)),())).1)))),()))),()))
  else none)
  else none)
  else none) (fun z3 =>
  none))
  else none
theorem r100 (p102:DenS I102 → Bool) (f102:DenS I102 → DenS O102) (p92:DenS I92 → Bool) (f92:DenS I92 → DenS O92) (p141:DenS I141 → Bool) (f141:DenS I141 → DenS O141) (w100_5:Pat.D P100_5 → Option (OutT X100_5 Q100_5)) (a0:Den (.pair (.bool) (.pair (.slice (.int .u64)) (.pair (.int .i64) (.unit))))) :
    run { P:=Go.Proofs.Tryd.prog,sums:=[(99,⟨I102,O102,p102,f102⟩),(65,⟨I92,O92,p92,f92⟩),(111,⟨I141,O141,p141,f141⟩)],loops:=[(85,5,LoopSpec.of P100_5 A100_5 X100_5 Q100_5 w100_5)],globs:=G1 } 9 85 Go.Proofs.Tryd.f85 I100 O100 (a0,()) = t100 p102 f102 p92 f92 p141 f141 w100_5 a0:=by kernel_rfl
noncomputable def W100_5:P100_5.D → Option (OutT X100_5 Q100_5):=lfix fun L=>h100_5 S102.pre S102.F S92.pre S92.F S141.pre S141.F L some
noncomputable def T100 (x:DenS I100):Option (DenS O100):=t100 S102.pre S102.F S92.pre S92.F S141.pre S141.F W100_5 x.1
noncomputable def C100:Cfg:={ P:=Go.Proofs.Tryd.prog,sums:=[(99,S102),(65,S92),(111,S141)],loops:=[(85,5,LoopSpec.of P100_5 A100_5 X100_5 Q100_5 W100_5)],globs:=G1 }
noncomputable def S100:Sum:=sumOf I100 O100 T100 (DenS.dflt O100)
theorem S100_sound:Sound Go.Proofs.Tryd.prog G1 85 S100 :=
  fn_sound C100 9 85 Go.Proofs.Tryd.f85 mixedOk (by kernel_rfl) (by kernel_rfl) (by kernel_rfl) ⟨S102_sound,⟨S92_sound,⟨S141_sound,trivial⟩⟩⟩ ⟨rfl,fun d=>loopOk_of (fun L e x=>h100_5 S102.pre S102.F S92.pre S92.F S141.pre S141.F L e x) (m100_5 S102.pre S102.F S92.pre S92.F S141.pre S141.F) (fun R L e x=>s100_5 S102.pre S102.F S92.pre S92.F S141.pre S141.F W100_5 d R L e x),trivial⟩ I100 O100 T100 _ (fun x=>r100 S102.pre S102.F S92.pre S92.F S141.pre S141.F W100_5 x.1)
abbrev I104:Sig:=[(true,.pair (.bool) (.pair (.slice (.int .u64)) (.pair (.int .i64) (.unit))))]
abbrev O104:Sig:=[(true,.pair (.bool) (.pair (.slice (.int .u64)) (.pair (.int .i64) (.unit)))),(false,.int .i64)]
noncomputable def t104 (p100:DenS I100 → Bool) (f100:DenS I100 → DenS O100) (a0:Den (.pair (.bool) (.pair (.slice (.int .u64)) (.pair (.int .i64) (.unit))))):Option (DenS O104) :=
  bif (p100 ((a0.1,a0.2),())) then
  (bif (decide (((f100 ((a0.1,a0.2),())).1.2.1.length:Int) > (1024:Int))) then
  (some ((false,([],((0:Int),()))),((5:Int),())))
  else bif ((decide ((f100 ((a0.1,a0.2),())).1.2.2.1 < (-(40000:Int)))) || (decide ((f100 ((a0.1,a0.2),())).1.2.2.1 > (40000:Int)))) then
  (some ((false,([],((0:Int),()))),((30:Int),())))
  else some ((f100 ((a0.1,a0.2),())).1,((0:Int),())))
  else none
theorem r104 (p100:DenS I100 → Bool) (f100:DenS I100 → DenS O100) (a0:Den (.pair (.bool) (.pair (.slice (.int .u64)) (.pair (.int .i64) (.unit))))) :
    run { P:=Go.Proofs.Tryd.prog,sums:=[(85,⟨I100,O100,p100,f100⟩)],loops:=[],globs:=G1 } 9 87 Go.Proofs.Tryd.f87 I104 O104 (a0,()) = t104 p100 f100 a0:=by kernel_rfl
noncomputable def T104 (x:DenS I104):Option (DenS O104):=t104 S100.pre S100.F x.1
noncomputable def C104:Cfg:={ P:=Go.Proofs.Tryd.prog,sums:=[(85,S100)],loops:=[],globs:=G1 }
noncomputable def S104:Sum:=sumOf I104 O104 T104 (DenS.dflt O104)
theorem S104_sound:Sound Go.Proofs.Tryd.prog G1 87 S104 :=
  fn_sound C104 9 87 Go.Proofs.Tryd.f87 mixedOk (by kernel_rfl) (by kernel_rfl) (by kernel_rfl) ⟨S100_sound,trivial⟩ trivial I104 O104 T104 _ (fun x=>r104 S100.pre S100.F x.1)
abbrev I311:Sig:=[(false,.int .i64),(false,.int .i64),(false,.slice (.int .u64))]
abbrev O311:Sig:=[(true,.pair (.int .i64) (.pair (.int .i64) (.pair (.int .i64) (.pair (.int .i64) (.unit))))),(false,.int .i64)]
abbrev P311_7:Pat:=⟨44,[(30,.one (.v .i64)),(29,.one (.sl (.int .u64))),(0,.one (.v .i64)),(31,.one (.v .i64)),(8,.one (.ptr 1 0)),(6,.one (.ptr 0 0))],[.raw [.v .i64,.v .i64,.v .i64,.v .i64],.raw [.v .i64,.v .i64,.v .i64,.v .i64]]⟩
abbrev A311_7:List (Nat × Shape):=[]
abbrev X311_7:List (Nat × Pat):=[(0,⟨44,[(8,.one (.ptr 1 0)),(6,.one (.ptr 0 0))],[.raw [.v .i64,.v .i64,.v .i64,.v .i64],.raw [.v .i64,.v .i64,.v .i64,.v .i64]]⟩)]
abbrev Q311_7:Option Pat:=(some ⟨44,[(6,.one (.ptr 0 0)),(7,.one (.v .i64))],[.raw [.v .i64,.v .i64,.v .i64,.v .i64]]⟩)
noncomputable def h311_7 (p69:DenS I69 → Bool) (f69:DenS I69 → DenS O69) (p66:DenS I66 → Bool) (f66:DenS I66 → DenS O66) {R:Type} (L:Pat.D P311_7 → Option R) (e:OutT X311_7 Q311_7 → Option R) (x:Pat.D P311_7):Option R :=
  let e2_:=(x.1.2.2.1,((x.1.2.1.getD (Int.toNat x.1.2.2.2.1) (0:Int)),()))
  let e1_:=(f66 e2_)
  bif (decide (x.1.2.2.2.1 < x.1.1)) then
  (bif ((decide ((0:Int) ≤ x.1.2.2.2.1)) && (decide (x.1.2.2.2.1 < (x.1.2.1.length:Int)))) then
  (bif (p66 e2_) then
  (bif (e1_.1 != (0:Int)) then
  ((e (.inr (((),e1_),x.2.2))))
  else (L ((x.1.1,(x.1.2.1,(x.1.2.2.1,((Go.IntKind.wrap .i64 (x.1.2.2.2.1 + (1:Int))),((),((),())))))),x.2)))
  else none)
  else none)
  else (e (.inl (((),((),())),x.2)))
theorem s311_7 (p69:DenS I69 → Bool) (f69:DenS I69 → DenS O69) (p66:DenS I66 → Bool) (f66:DenS I66 → DenS O66) (w311_7:Pat.D P311_7 → Option (OutT X311_7 Q311_7)) (d:Nat) (R:Type) (L:Pat.D P311_7 → Option R) (e:OutT X311_7 Q311_7 → Option R) (x:Pat.D P311_7) :
    lStep { P:=Go.Proofs.Tryd.prog,sums:=[(22,⟨I69,O69,p69,f69⟩),(48,⟨I66,O66,p66,f66⟩)],loops:=[(66,7,LoopSpec.of P311_7 A311_7 X311_7 Q311_7 w311_7)],globs:=G1 } (d + 2) 66 (bodyOf Go.Proofs.Tryd.f66 7) P311_7 A311_7 X311_7 Q311_7 (R:=R) L e x = h311_7 p69 f69 p66 f66 L e x:=by kernel_rfl
theorem m311_7 (p69:DenS I69 → Bool) (f69:DenS I69 → DenS O69) (p66:DenS I66 → Bool) (f66:DenS I66 → DenS O66):Par fun L e x=>h311_7 p69 f69 p66 f66 L e x:=by
  intro A B rel L L' e e' h0 hL he x
  unfold h311_7
  repeat' (first | exact h0 | exact hL _ | exact he _ | apply rel_cond | (apply rel_obind h0; intro _) | (apply rel_obind2 <;> intro _))
noncomputable def t311 (p69:DenS I69 → Bool) (f69:DenS I69 → DenS O69) (p66:DenS I66 → Bool) (f66:DenS I66 → DenS O66) (w311_7:Pat.D P311_7 → Option (OutT X311_7 Q311_7)) (a0:Den (.int .i64)) (a1:Den (.int .i64)) (a2:Den (.slice (.int .u64))):Option (DenS O311) :=
  bif (p69 (a0,())) then
  (bif ((f69 (a0,())).2.1 != (0:Int)) then
  (some (f69 (a0,())))
  else bif ((decide (a1 < (0:Int))) || (decide (a1 > (5:Int)))) then
  (some ((f69 (a0,())).1,((3:Int),())))
  else Vx.obind (w311_7 (((a2.length:Int),(a2,(a0,((0:Int),((),((),())))))),(((0:Int),((0:Int),((0:Int),((0:Int),())))),((f69 (a0,())).1,())))) fun y3 =>
  Vx.obind2 y3 (fun y4 =>
  some (y4.2.2.1,((0:Int),()))) (fun z4 =>
  some (z4.2.1,z4.1.2)))
  else none
theorem r311 (p69:DenS I69 → Bool) (f69:DenS I69 → DenS O69) (p66:DenS I66 → Bool) (f66:DenS I66 → DenS O66) (w311_7:Pat.D P311_7 → Option (OutT X311_7 Q311_7)) (a0:Den (.int .i64)) (a1:Den (.int .i64)) (a2:Den (.slice (.int .u64))) :
    run { P:=Go.Proofs.Tryd.prog,sums:=[(22,⟨I69,O69,p69,f69⟩),(48,⟨I66,O66,p66,f66⟩)],loops:=[(66,7,LoopSpec.of P311_7 A311_7 X311_7 Q311_7 w311_7)],globs:=G1 } 9 66 Go.Proofs.Tryd.f66 I311 O311 (a0,a1,a2,()) = t311 p69 f69 p66 f66 w311_7 a0 a1 a2:=by kernel_rfl
noncomputable def W311_7:P311_7.D → Option (OutT X311_7 Q311_7):=lfix fun L=>h311_7 S69.pre S69.F S66.pre S66.F L some
noncomputable def T311 (x:DenS I311):Option (DenS O311):=t311 S69.pre S69.F S66.pre S66.F W311_7 x.1 x.2.1 x.2.2.1
noncomputable def C311:Cfg:={ P:=Go.Proofs.Tryd.prog,sums:=[(22,S69),(48,S66)],loops:=[(66,7,LoopSpec.of P311_7 A311_7 X311_7 Q311_7 W311_7)],globs:=G1 }
noncomputable def S311:Sum:=sumOf I311 O311 T311 (DenS.dflt O311)
theorem S311_sound:Sound Go.Proofs.Tryd.prog G1 66 S311 :=
  fn_sound C311 9 66 Go.Proofs.Tryd.f66 mixedOk (by kernel_rfl) (by kernel_rfl) (by kernel_rfl) ⟨S69_sound,⟨S66_sound,trivial⟩⟩ ⟨rfl,fun d=>loopOk_of (fun L e x=>h311_7 S69.pre S69.F S66.pre S66.F L e x) (m311_7 S69.pre S69.F S66.pre S66.F) (fun R L e x=>s311_7 S69.pre S69.F S66.pre S66.F W311_7 d R L e x),trivial⟩ I311 O311 T311 _ (fun x=>r311 S69.pre S69.F S66.pre S66.F W311_7 x.1 x.2.1 x.2.2.1)
abbrev I312:Sig:=[(false,.int .i64),(false,.int .i64)]
abbrev O312:Sig:=[(false,.int .u64),(false,.int .i64),(false,.bool)]
noncomputable def t312 (p70:DenS I70 → Bool) (f70:DenS I70 → DenS O70) (a0:Den (.int .i64)) (a1:Den (.int .i64)):Option (DenS O312) :=
  bif (p70 (a0,())) then
  (bif (a1 == (1:Int)) then
  (some ((f70 (a0,())).1,((0:Int),(true,()))))
  else bif (a1 == (0:Int)) then
  (bif (a1 == (0:Int)) then
  (some ((f70 (a0,())).1,((1:Int),(true,()))))
  else some ((0:Int),((0:Int),(false,()))))
  else bif (a1 == (2:Int)) then
  (bif (a1 == (2:Int)) then
  (some ((f70 (a0,())).1,((1:Int),(true,()))))
  else some ((0:Int),((0:Int),(false,()))))
  else bif (a1 == (3:Int)) then
  (bif (a1 == (3:Int)) then
  (some ((f70 (a0,())).1,((1:Int),(true,()))))
  else some ((0:Int),((0:Int),(false,()))))
  else bif (a1 == (4:Int)) then
  (some ((f70 (a0,())).1,((1:Int),(true,()))))
  else some ((0:Int),((0:Int),(false,()))))
  else none
theorem r312 (p70:DenS I70 → Bool) (f70:DenS I70 → DenS O70) (a0:Den (.int .i64)) (a1:Den (.int .i64)) :
    run { P:=Go.Proofs.Tryd.prog,sums:=[(45,⟨I70,O70,p70,f70⟩)],loops:=[],globs:=G1 } 9 67 Go.Proofs.Tryd.f67 I312 O312 (a0,a1,()) = t312 p70 f70 a0 a1:=by kernel_rfl
noncomputable def T312 (x:DenS I312):Option (DenS O312):=t312 S70.pre S70.F x.1 x.2.1
noncomputable def C312:Cfg:={ P:=Go.Proofs.Tryd.prog,sums:=[(45,S70)],loops:=[],globs:=G1 }
noncomputable def S312:Sum:=sumOf I312 O312 T312 (DenS.dflt O312)
theorem S312_sound:Sound Go.Proofs.Tryd.prog G1 67 S312 :=
  fn_sound C312 9 67 Go.Proofs.Tryd.f67 mixedOk (by kernel_rfl) (by kernel_rfl) (by kernel_rfl) ⟨S70_sound,trivial⟩ trivial I312 O312 T312 _ (fun x=>r312 S70.pre S70.F x.1 x.2.1)
abbrev I313:Sig:=[(false,.int .i64),(true,.pair (.int .i64) (.pair (.int .i64) (.pair (.int .i64) (.pair (.int .i64) (.unit))))),(false,.int .u64)]
abbrev O313:Sig:=[(false,.int .u64),(false,.int .i64)]
noncomputable def t313 (p98:DenS I98 → Bool) (f98:DenS I98 → DenS O98) (a0:Den (.int .i64)) (a1:Den (.pair (.int .i64) (.pair (.int .i64) (.pair (.int .i64) (.pair (.int .i64) (.unit)))))) (a2:Den (.int .u64)):Option (DenS O313) :=
  let e1_:=(Go.IntKind.wrap .i64 (a1.2.1 - (1:Int)))
  bif (p98 (a0,(a2,()))) then
  (bif ((f98 (a0,(a2,()))).2.1 == (0:Int)) then
  (some ((f98 (a0,(a2,()))).2.2.1,((Go.IntKind.wrap .i64 ((Go.IntKind.wrap .i64 ((Go.IntKind.wrap .i64 ((Go.IntKind.wrap .i64 ((Go.IntKind.wrap .i64 (1:Int)) - (1:Int))) + a1.2.2.1)) - a1.2.1)) + (1:Int))),())))
  else bif (decide ((0:Int) ≤ e1_)) then
  (some ((Vx.orI Go.IntKind.u64 (f98 (a0,(a2,()))).2.2.1 (Vx.shlI Go.IntKind.u64 (1:Int) e1_)),((Go.IntKind.wrap .i64 ((Go.IntKind.wrap .i64 ((Go.IntKind.wrap .i64 ((Go.IntKind.wrap .i64 ((Go.IntKind.wrap .i64 (f98 (a0,(a2,()))).2.1) - (1:Int))) + a1.2.2.1)) - a1.2.1)) + (1:Int))),())))
  else none)
  else none
theorem r313 (p98:DenS I98 → Bool) (f98:DenS I98 → DenS O98) (a0:Den (.int .i64)) (a1:Den (.pair (.int .i64) (.pair (.int .i64) (.pair (.int .i64) (.pair (.int .i64) (.unit)))))) (a2:Den (.int .u64)) :
    run { P:=Go.Proofs.Tryd.prog,sums:=[(95,⟨I98,O98,p98,f98⟩)],loops:=[],globs:=G1 } 9 68 Go.Proofs.Tryd.f68 I313 O313 (a0,a1,a2,()) = t313 p98 f98 a0 a1 a2:=by kernel_rfl
noncomputable def T313 (x:DenS I313):Option (DenS O313):=t313 S98.pre S98.F x.1 x.2.1 x.2.2.1
noncomputable def C313:Cfg:={ P:=Go.Proofs.Tryd.prog,sums:=[(95,S98)],loops:=[],globs:=G1 }
noncomputable def S313:Sum:=sumOf I313 O313 T313 (DenS.dflt O313)
theorem S313_sound:Sound Go.Proofs.Tryd.prog G1 68 S313 :=
  fn_sound C313 9 68 Go.Proofs.Tryd.f68 mixedOk (by kernel_rfl) (by kernel_rfl) (by kernel_rfl) ⟨S98_sound,trivial⟩ trivial I313 O313 T313 _ (fun x=>r313 S98.pre S98.F x.1 x.2.1 x.2.2.1)
abbrev I314:Sig:=[(true,.pair (.int .u64) (.pair (.int .u64) (.unit)))]
abbrev O314:Sig:=[(false,.int .i64)]
noncomputable def t314 (p178:DenS I178 → Bool) (f178:DenS I178 → DenS O178) (a0:Den (.pair (.int .u64) (.pair (.int .u64) (.unit)))):Option (DenS O314) :=
  bif (a0.1 != (0:Int)) then
  (bif (p178 (a0.1,())) then
  (some ((Go.IntKind.wrap .i64 ((64:Int) + (f178 (a0.1,())).1)),()))
  else none)
  else bif (p178 a0.2) then
  (some (f178 a0.2))
  else none
theorem r314 (p178:DenS I178 → Bool) (f178:DenS I178 → DenS O178) (a0:Den (.pair (.int .u64) (.pair (.int .u64) (.unit)))) :
    run { P:=Go.Proofs.Tryd.prog,sums:=[(103,⟨I178,O178,p178,f178⟩)],loops:=[],globs:=G1 } 9 69 Go.Proofs.Tryd.f69 I314 O314 (a0,()) = t314 p178 f178 a0:=by kernel_rfl
noncomputable def T314 (x:DenS I314):Option (DenS O314):=t314 S178.pre S178.F x.1
noncomputable def C314:Cfg:={ P:=Go.Proofs.Tryd.prog,sums:=[(103,S178)],loops:=[],globs:=G1 }
noncomputable def S314:Sum:=sumOf I314 O314 T314 (DenS.dflt O314)
theorem S314_sound:Sound Go.Proofs.Tryd.prog G1 69 S314 :=
  fn_sound C314 9 69 Go.Proofs.Tryd.f69 mixedOk (by kernel_rfl) (by kernel_rfl) (by kernel_rfl) ⟨S178_sound,trivial⟩ trivial I314 O314 T314 _ (fun x=>r314 S178.pre S178.F x.1)
abbrev I317:Sig:=[(true,.pair (.int .u64) (.pair (.int .u64) (.unit)))]
abbrev O317:Sig:=[(false,.int .u64),(false,.bool)]
abbrev P317_2:Pat:=⟨28,[(6,.one (.v .i64)),(2,.one (.v .u64)),(1,.one (.ptr 0 0))],[.raw [.v .u64,.v .u64]]⟩
abbrev A317_2:List (Nat × Shape):=[]
abbrev X317_2:List (Nat × Pat):=[(0,⟨28,[(2,.one (.v .u64)),(1,.one (.ptr 0 0))],[.raw [.v .u64,.v .u64]]⟩)]
abbrev Q317_2:Option Pat:=none
noncomputable def h317_2 (p123:DenS I123 → Bool) (f123:DenS I123 → DenS O123) (p316:DenS I316 → Bool) (f316:DenS I316 → DenS O316) {R:Type} (L:Pat.D P317_2 → Option R) (e:OutT X317_2 Q317_2 → Option R) (x:Pat.D P317_2):Option R :=
  let e5_:=(Go.IntKind.wrap .i64 ((63:Int) - x.1.1))
  let e4_:=(Vx.orI Go.IntKind.u64 x.1.2.1 (Vx.shlI Go.IntKind.u64 (1:Int) e5_))
  let e1_:=((f316 (e4_,(e4_,()))).1,x.2)
  let e2_:=e4_
  let e3_:=(Go.IntKind.wrap .i64 (x.1.1 + (1:Int)))
  bif (decide (x.1.1 < (64:Int))) then
  (bif (decide ((0:Int) ≤ e5_)) then
  (bif (p316 (e2_,(e2_,()))) then
  (bif (p123 e1_) then
  (bif (decide ((f123 e1_).1 ≤ (0:Int))) then
  ((L ((e3_,(e2_,((),()))),x.2)))
  else (L ((e3_,(x.1.2.1,((),()))),x.2)))
  else none)
  else none)
  else none)
  else (e (.inl ((x.1.2.1,((),())),x.2)))
theorem s317_2 (p123:DenS I123 → Bool) (f123:DenS I123 → DenS O123) (p316:DenS I316 → Bool) (f316:DenS I316 → DenS O316) (w317_2:Pat.D P317_2 → Option (OutT X317_2 Q317_2)) (d:Nat) (R:Type) (L:Pat.D P317_2 → Option R) (e:OutT X317_2 Q317_2 → Option R) (x:Pat.D P317_2) :
    lStep { P:=Go.Proofs.Tryd.prog,sums:=[(93,⟨I123,O123,p123,f123⟩),(62,⟨I316,O316,p316,f316⟩)],loops:=[(70,2,LoopSpec.of P317_2 A317_2 X317_2 Q317_2 w317_2)],globs:=G1 } (d + 2) 70 (bodyOf Go.Proofs.Tryd.f70 2) P317_2 A317_2 X317_2 Q317_2 (R:=R) L e x = h317_2 p123 f123 p316 f316 L e x:=by kernel_rfl
theorem m317_2 (p123:DenS I123 → Bool) (f123:DenS I123 → DenS O123) (p316:DenS I316 → Bool) (f316:DenS I316 → DenS O316):Par fun L e x=>h317_2 p123 f123 p316 f316 L e x:=by
  intro A B rel L L' e e' h0 hL he x
  unfold h317_2
  repeat' (first | exact h0 | exact hL _ | exact he _ | apply rel_cond | (apply rel_obind h0; intro _) | (apply rel_obind2 <;> intro _))
noncomputable def t317 (p123:DenS I123 → Bool) (f123:DenS I123 → DenS O123) (p316:DenS I316 → Bool) (f316:DenS I316 → DenS O316) (w317_2:Pat.D P317_2 → Option (OutT X317_2 Q317_2)) (a0:Den (.pair (.int .u64) (.pair (.int .u64) (.unit)))):Option (DenS O317) :=
  Vx.obind (w317_2 (((0:Int),((0:Int),((),()))),((a0.1,a0.2),()))) fun y0 =>
  Vx.obind2 y0 (fun y1 =>
  bif (p316 (y1.1.1,(y1.1.1,()))) then
  (some (y1.1.1,((((f316 (y1.1.1,(y1.1.1,()))).1.1 == y1.2.1.1) && ((f316 (y1.1.1,(y1.1.1,()))).1.2.1 == y1.2.1.2.1)),())))
  else none) (fun z1 =>
  none)
theorem r317 (p123:DenS I123 → Bool) (f123:DenS I123 → DenS O123) (p316:DenS I316 → Bool) (f316:DenS I316 → DenS O316) (w317_2:Pat.D P317_2 → Option (OutT X317_2 Q317_2)) (a0:Den (.pair (.int .u64) (.pair (.int .u64) (.unit)))) :
    run { P:=Go.Proofs.Tryd.prog,sums:=[(93,⟨I123,O123,p123,f123⟩),(62,⟨I316,O316,p316,f316⟩)],loops:=[(70,2,LoopSpec.of P317_2 A317_2 X317_2 Q317_2 w317_2)],globs:=G1 } 9 70 Go.Proofs.Tryd.f70 I317 O317 (a0,()) = t317 p123 f123 p316 f316 w317_2 a0:=by kernel_rfl
noncomputable def W317_2:P317_2.D → Option (OutT X317_2 Q317_2):=lfix fun L=>h317_2 S123.pre S123.F S316.pre S316.F L some
noncomputable def T317 (x:DenS I317):Option (DenS O317):=t317 S123.pre S123.F S316.pre S316.F W317_2 x.1
noncomputable def C317:Cfg:={ P:=Go.Proofs.Tryd.prog,sums:=[(93,S123),(62,S316)],loops:=[(70,2,LoopSpec.of P317_2 A317_2 X317_2 Q317_2 W317_2)],globs:=G1 }
noncomputable def S317:Sum:=sumOf I317 O317 T317 (DenS.dflt O317)
theorem S317_sound:Sound Go.Proofs.Tryd.prog G1 70 S317 :=
  fn_sound C317 9 70 Go.Proofs.Tryd.f70 mixedOk (by kernel_rfl) (by kernel_rfl) (by kernel_rfl) ⟨S123_sound,⟨S316_sound,trivial⟩⟩ ⟨rfl,fun d=>loopOk_of (fun L e x=>h317_2 S123.pre S123.F S316.pre S316.F L e x) (m317_2 S123.pre S123.F S316.pre S316.F) (fun R L e x=>s317_2 S123.pre S123.F S316.pre S316.F W317_2 d R L e x),trivial⟩ I317 O317 T317 _ (fun x=>r317 S123.pre S123.F S316.pre S316.F W317_2 x.1)
abbrev I318:Sig:=[(false,.int .i64),(false,.int .i64),(false,.int .u64)]
abbrev O318:Sig:=[(false,.int .u64),(false,.int .i64),(false,.int .i64)]
noncomputable def t318 (p311:DenS I311 → Bool) (f311:DenS I311 → DenS O311) (p65:DenS I65 → Bool) (f65:DenS I65 → DenS O65) (p312:DenS I312 → Bool) (f312:DenS I312 → DenS O312) (p313:DenS I313 → Bool) (f313:DenS I313 → DenS O313) (p314:DenS I314 → Bool) (f314:DenS I314 → DenS O314) (p119:DenS I119 → Bool) (f119:DenS I119 → DenS O119) (p317:DenS I317 → Bool) (f317:DenS I317 → DenS O317) (p122:DenS I122 → Bool) (f122:DenS I122 → DenS O122) (a0:Den (.int .i64)) (a1:Den (.int .i64)) (a2:Den (.int .u64)):Option (DenS O318) :=
  let e16_:=(a0,((f311 (a0,(a1,((a2 :: []),())))).1,(a2,())))
  let e15_:=(f313 e16_)
  let e14_:=((0:Int),(e15_.1,()))
  let e13_:=(e14_,())
  let e12_:=(Go.IntKind.wrap .i64 ((126:Int) - (f314 e13_).1))
  let e11_:=(Go.IntKind.wrap .i64 (e12_ + (1:Int)))
  let e8_:=(e14_,(e11_,()))
  let e7_:=(f317 (f119 e8_))
  let e1_:=(a0,(a1,(false,(((0:Int),(e7_.1,())),((Vx.quoI Go.IntKind.i64 (Go.IntKind.wrap .i64 (e15_.2.1 - e11_)) (2:Int)),((!e7_.2.1),()))))))
  let e10_:=(e14_,(e12_,()))
  let e9_:=(f317 (f119 e10_))
  let e2_:=(a0,(a1,(false,(((0:Int),(e9_.1,())),((Vx.quoI Go.IntKind.i64 (Go.IntKind.wrap .i64 (e15_.2.1 - e12_)) (2:Int)),((!e9_.2.1),()))))))
  let e3_:=e8_
  let e4_:=e10_
  let e5_:=e13_
  let e6_:=e16_
  bif (p311 (a0,(a1,((a2 :: []),())))) then
  (bif ((f311 (a0,(a1,((a2 :: []),())))).2.1 != (0:Int)) then
  (some ((0:Int),((0:Int),(f311 (a0,(a1,((a2 :: []),())))).2)))
  else bif (p65 (a0,(a2,()))) then
  (bif (p312 (a0,((f65 (a0,(a2,()))).1,()))) then
  (bif (f312 (a0,((f65 (a0,(a2,()))).1,()))).2.2.1 then
  (some ((f312 (a0,((f65 (a0,(a2,()))).1,()))).1,((f312 (a0,((f65 (a0,(a2,()))).1,()))).2.1,((0:Int),()))))
  else bif ((((f65 (a0,(a2,()))).1 == (9:Int)) || ((f65 (a0,(a2,()))).1 == (6:Int))) || ((f65 (a0,(a2,()))).1 == (5:Int))) then
  (some (a2,((0:Int),((0:Int),()))))
  else bif (p313 e6_) then
  (bif (p314 e5_) then
  (bif ((Int.tmod (Go.IntKind.wrap .i64 ((f313 e6_).2.1 - (Go.IntKind.wrap .i64 ((126:Int) - (f314 e5_).1)))) (2:Int)) != (0:Int)) then
  (bif (p119 e3_) then
  (bif (p317 (f119 e3_)) then
  (bif (p122 e1_) then
  (some (f122 e1_))
  else none)
  else none)
  else none)
  else bif (p119 e4_) then
  (bif (p317 (f119 e4_)) then
  (bif (p122 e2_) then
  (some (f122 e2_))
  else none)
  else none)
  else none)
  else none)
  else none)
  else none)
  else none)
  else none
theorem r318 (p311:DenS I311 → Bool) (f311:DenS I311 → DenS O311) (p65:DenS I65 → Bool) (f65:DenS I65 → DenS O65) (p312:DenS I312 → Bool) (f312:DenS I312 → DenS O312) (p313:DenS I313 → Bool) (f313:DenS I313 → DenS O313) (p314:DenS I314 → Bool) (f314:DenS I314 → DenS O314) (p119:DenS I119 → Bool) (f119:DenS I119 → DenS O119) (p317:DenS I317 → Bool) (f317:DenS I317 → DenS O317) (p122:DenS I122 → Bool) (f122:DenS I122 → DenS O122) (a0:Den (.int .i64)) (a1:Den (.int .i64)) (a2:Den (.int .u64)) :
    run { P:=Go.Proofs.Tryd.prog,sums:=[(66,⟨I311,O311,p311,f311⟩),(26,⟨I65,O65,p65,f65⟩),(67,⟨I312,O312,p312,f312⟩),(68,⟨I313,O313,p313,f313⟩),(69,⟨I314,O314,p314,f314⟩),(71,⟨I119,O119,p119,f119⟩),(70,⟨I317,O317,p317,f317⟩),(61,⟨I122,O122,p122,f122⟩)],loops:=[],globs:=G1 } 9 30 Go.Proofs.Tryd.f30 I318 O318 (a0,a1,a2,()) = t318 p311 f311 p65 f65 p312 f312 p313 f313 p314 f314 p119 f119 p317 f317 p122 f122 a0 a1 a2:=by kernel_rfl
noncomputable def T318 (x:DenS I318):Option (DenS O318):=t318 S311.pre S311.F S65.pre S65.F S312.pre S312.F S313.pre S313.F S314.pre S314.F S119.pre S119.F S317.pre S317.F S122.pre S122.F x.1 x.2.1 x.2.2.1
noncomputable def C318:Cfg:={ P:=Go.Proofs.Tryd.prog,sums:=[(66,S311),(26,S65),(67,S312),(68,S313),(69,S314),(71,S119),(70,S317),(61,S122)],loops:=[],globs:=G1 }
noncomputable def S318:Sum:=sumOf I318 O318 T318 (DenS.dflt O318)
theorem S318_sound:Sound Go.Proofs.Tryd.prog G1 30 S318 :=
  fn_sound C318 9 30 Go.Proofs.Tryd.f30 mixedOk (by kernel_rfl) (by kernel_rfl) (by kernel_rfl) ⟨S311_sound,⟨S65_sound,⟨S312_sound,⟨S313_sound,⟨S314_sound,⟨S119_sound,⟨S317_sound,⟨S122_sound,trivial⟩⟩⟩⟩⟩⟩⟩⟩ trivial I318 O318 T318 _ (fun x=>r318 S311.pre S311.F S65.pre S65.F S312.pre S312.F S313.pre S313.F S314.pre S314.F S119.pre S119.F S317.pre S317.F S122.pre S122.F x.1 x.2.1 x.2.2.1)
abbrev I323:Sig:=[(false,.int .i64)]
abbrev O323:Sig:=[(false,.bool)]
noncomputable def t323 (a0:Den (.int .i64)):Option (DenS O323) :=
  some (((a0 == (2:Int)) || (a0 == (9:Int))),())
theorem r323 (a0:Den (.int .i64)) :
    run { P:=Go.Proofs.Tryd.prog,sums:=[],loops:=[],globs:=G1 } 9 79 Go.Proofs.Tryd.f79 I323 O323 (a0,()) = t323 a0:=by kernel_rfl
noncomputable def T323 (x:DenS I323):Option (DenS O323):=t323 x.1
noncomputable def C323:Cfg:={ P:=Go.Proofs.Tryd.prog,sums:=[],loops:=[],globs:=G1 }
noncomputable def S323:Sum:=sumOf I323 O323 T323 (DenS.dflt O323)
theorem S323_sound:Sound Go.Proofs.Tryd.prog G1 79 S323 :=
  fn_sound C323 9 79 Go.Proofs.Tryd.f79 mixedOk (by kernel_rfl) (by kernel_rfl) (by kernel_rfl) trivial trivial I323 O323 T323 _ (fun x=>r323 x.1)
abbrev I324:Sig:=[(false,.slice (.int .u64)),(false,.slice (.int .u64))]
abbrev O324:Sig:=[(false,.slice (.int .u64))]
abbrev P324_4:Pat:=⟨84,[(25,.one (.v .i64)),(24,.one (.sl (.int .u64))),(1,.one (.sl (.int .u64))),(26,.one (.v .i64)),(5,.one (.own 0))],[.arr (.int .u64)]⟩
abbrev A324_4:List (Nat × Shape):=[]
abbrev X324_4:List (Nat × Pat):=[(0,⟨84,[(5,.one (.own 0))],[.arr (.int .u64)]⟩)]
abbrev Q324_4:Option Pat:=none
abbrev P324_8:Pat:=⟨84,[(32,.one (.v .i64)),(31,.one (.sl (.int .u64))),(7,.one (.v .u64)),(33,.one (.v .i64)),(6,.one (.v .i64)),(8,.one (.v .u64)),(26,.one (.v .i64)),(25,.one (.v .i64)),(24,.one (.sl (.int .u64))),(1,.one (.sl (.int .u64))),(5,.one (.own 0))],[.arr (.int .u64)]⟩
abbrev A324_8:List (Nat × Shape):=[]
abbrev X324_8:List (Nat × Pat):=[(2,⟨84,[(6,.one (.v .i64)),(8,.one (.v .u64)),(26,.one (.v .i64)),(25,.one (.v .i64)),(24,.one (.sl (.int .u64))),(1,.one (.sl (.int .u64))),(5,.one (.own 0))],[.arr (.int .u64)]⟩)]
abbrev Q324_8:Option Pat:=none
noncomputable def h324_8 (p315:DenS I315 → Bool) (f315:DenS I315 → DenS O315) (p155:DenS I155 → Bool) (f155:DenS I155 → DenS O155) (p173:DenS I173 → Bool) (f173:DenS I173 → DenS O173) {R:Type} (L:Pat.D P324_8 → Option R) (e:OutT X324_8 Q324_8 → Option R) (x:Pat.D P324_8):Option R :=
  let e10_:=(x.1.2.2.1,((x.1.2.1.getD (Int.toNat x.1.2.2.2.1) (0:Int)),()))
  let e8_:=(f315 e10_)
  let e11_:=(Go.IntKind.wrap .i64 (x.1.2.2.2.2.1 + x.1.2.2.2.1))
  let e9_:=(Int.toNat e11_)
  let e7_:=(f155 (e8_.2.1,((x.2.1.getD e9_ (0:Int)),((0:Int),()))))
  let e1_:=(f155 (e7_.1,(x.1.2.2.2.2.2.1,((0:Int),()))))
  let e2_:=e7_
  let e3_:=((decide ((0:Int) ≤ e11_)) && (decide (e11_ < (x.2.1.length:Int))))
  let e4_:=(x.1.2.2.2.2.2.2.1,(x.1.2.2.2.2.2.2.2.1,(x.1.2.2.2.2.2.2.2.2.1,(x.1.2.2.2.2.2.2.2.2.2.1,((),())))))
  let e5_:=e8_
  let e6_:=e9_
  bif (decide (x.1.2.2.2.1 < x.1.1)) then
  (bif ((decide ((0:Int) ≤ x.1.2.2.2.1)) && (decide (x.1.2.2.2.1 < (x.1.2.1.length:Int)))) then
  (bif (p315 e10_) then
  (bif e3_ then
  (bif (p155 (e5_.2.1,((x.2.1.getD e6_ (0:Int)),((0:Int),())))) then
  (bif (p155 (e2_.1,(x.1.2.2.2.2.2.1,((0:Int),())))) then
  (bif e3_ then
  ((L ((x.1.1,(x.1.2.1,(x.1.2.2.1,((Go.IntKind.wrap .i64 (x.1.2.2.2.1 + (1:Int))),(x.1.2.2.2.2.1,((Go.IntKind.wrap .u64 ((Go.IntKind.wrap .u64 (e5_.1 + e2_.2.1)) + e1_.2.1)),e4_)))))),((x.2.1.set e6_ e1_.1),()))))
  else none)
  else none)
  else none)
  else none)
  else none)
  else none)
  else (e (.inl ((x.1.2.2.2.2.1,(x.1.2.2.2.2.2.1,e4_)),x.2)))
theorem s324_8 (p315:DenS I315 → Bool) (f315:DenS I315 → DenS O315) (p155:DenS I155 → Bool) (f155:DenS I155 → DenS O155) (p173:DenS I173 → Bool) (f173:DenS I173 → DenS O173) (w324_4:Pat.D P324_4 → Option (OutT X324_4 Q324_4)) (w324_8:Pat.D P324_8 → Option (OutT X324_8 Q324_8)) (d:Nat) (R:Type) (L:Pat.D P324_8 → Option R) (e:OutT X324_8 Q324_8 → Option R) (x:Pat.D P324_8) :
    lStep { P:=Go.Proofs.Tryd.prog,sums:=[(102,⟨I315,O315,p315,f315⟩),(112,⟨I155,O155,p155,f155⟩),(106,⟨I173,O173,p173,f173⟩)],loops:=[(110,4,LoopSpec.of P324_4 A324_4 X324_4 Q324_4 w324_4),(110,8,LoopSpec.of P324_8 A324_8 X324_8 Q324_8 w324_8)],globs:=G1 } (d + 2) 110 (bodyOf Go.Proofs.Tryd.f110 8) P324_8 A324_8 X324_8 Q324_8 (R:=R) L e x = h324_8 p315 f315 p155 f155 p173 f173 L e x:=by kernel_rfl
theorem m324_8 (p315:DenS I315 → Bool) (f315:DenS I315 → DenS O315) (p155:DenS I155 → Bool) (f155:DenS I155 → DenS O155) (p173:DenS I173 → Bool) (f173:DenS I173 → DenS O173):Par fun L e x=>h324_8 p315 f315 p155 f155 p173 f173 L e x:=by
  intro A B rel L L' e e' h0 hL he x
  unfold h324_8
  repeat' (first | exact h0 | exact hL _ | exact he _ | apply rel_cond | (apply rel_obind h0; intro _) | (apply rel_obind2 <;> intro _))
noncomputable def h324_4 (p315:DenS I315 → Bool) (f315:DenS I315 → DenS O315) (p155:DenS I155 → Bool) (f155:DenS I155 → DenS O155) (p173:DenS I173 → Bool) (f173:DenS I173 → DenS O173) (w324_8:Pat.D P324_8 → Option (OutT X324_8 Q324_8)) {R:Type} (L:Pat.D P324_4 → Option R) (e:OutT X324_4 Q324_4 → Option R) (x:Pat.D P324_4):Option R :=
  bif (decide (x.1.2.2.2.1 < x.1.1)) then
  (bif ((decide ((0:Int) ≤ x.1.2.2.2.1)) && (decide (x.1.2.2.2.1 < (x.1.2.1.length:Int)))) then
  (Vx.obind (w324_8 (((x.1.2.2.1.length:Int),(x.1.2.2.1,((x.1.2.1.getD (Int.toNat x.1.2.2.2.1) (0:Int)),((0:Int),(x.1.2.2.2.1,((0:Int),(x.1.2.2.2.1,(x.1.1,(x.1.2.1,(x.1.2.2.1,((),()))))))))))),x.2)) fun y2 =>
  Vx.obind2 y2 (fun y3 =>
  bif ((decide ((0:Int) ≤ (Go.IntKind.wrap .i64 (y3.1.1 + (y3.1.2.2.2.2.2.1.length:Int))))) && (decide ((Go.IntKind.wrap .i64 (y3.1.1 + (y3.1.2.2.2.2.2.1.length:Int))) < (y3.2.1.length:Int)))) then
  ((L ((y3.1.2.2.2.1,(y3.1.2.2.2.2.1,(y3.1.2.2.2.2.2.1,((Go.IntKind.wrap .i64 (y3.1.2.2.1 + (1:Int))),((),()))))),((y3.2.1.set (Int.toNat (Go.IntKind.wrap .i64 (y3.1.1 + (y3.1.2.2.2.2.2.1.length:Int)))) y3.1.2.1),()))))
  else none) (fun z3 =>
  none))
  else none)
  else (e (.inl (((),()),x.2)))
theorem s324_4 (p315:DenS I315 → Bool) (f315:DenS I315 → DenS O315) (p155:DenS I155 → Bool) (f155:DenS I155 → DenS O155) (p173:DenS I173 → Bool) (f173:DenS I173 → DenS O173) (w324_4:Pat.D P324_4 → Option (OutT X324_4 Q324_4)) (w324_8:Pat.D P324_8 → Option (OutT X324_8 Q324_8)) (d:Nat) (R:Type) (L:Pat.D P324_4 → Option R) (e:OutT X324_4 Q324_4 → Option R) (x:Pat.D P324_4) :
    lStep { P:=Go.Proofs.Tryd.prog,sums:=[(102,⟨I315,O315,p315,f315⟩),(112,⟨I155,O155,p155,f155⟩),(106,⟨I173,O173,p173,f173⟩)],loops:=[(110,4,LoopSpec.of P324_4 A324_4 X324_4 Q324_4 w324_4),(110,8,LoopSpec.of P324_8 A324_8 X324_8 Q324_8 w324_8)],globs:=G1 } (d + 2) 110 (bodyOf Go.Proofs.Tryd.f110 4) P324_4 A324_4 X324_4 Q324_4 (R:=R) L e x = h324_4 p315 f315 p155 f155 p173 f173 w324_8 L e x:=by kernel_rfl
theorem m324_4 (p315:DenS I315 → Bool) (f315:DenS I315 → DenS O315) (p155:DenS I155 → Bool) (f155:DenS I155 → DenS O155) (p173:DenS I173 → Bool) (f173:DenS I173 → DenS O173) (w324_8:Pat.D P324_8 → Option (OutT X324_8 Q324_8)):Par fun L e x=>h324_4 p315 f315 p155 f155 p173 f173 w324_8 L e x:=by
  intro A B rel L L' e e' h0 hL he x
  unfold h324_4
  repeat' (first | exact h0 | exact hL _ | exact he _ | apply rel_cond | (apply rel_obind h0; intro _) | (apply rel_obind2 <;> intro _))
noncomputable def t324 (p315:DenS I315 → Bool) (f315:DenS I315 → DenS O315) (p155:DenS I155 → Bool) (f155:DenS I155 → DenS O155) (p173:DenS I173 → Bool) (f173:DenS I173 → DenS O173) (w324_4:Pat.D P324_4 → Option (OutT X324_4 Q324_4)) (w324_8:Pat.D P324_8 → Option (OutT X324_8 Q324_8)) (a0:Den (.slice (.int .u64))) (a1:Den (.slice (.int .u64))):Option (DenS O324) :=
  let e1_:=(Go.IntKind.wrap .i64 (((f173 (a0,())).1.length:Int) + ((f173 (a1,())).1.length:Int)))
  bif (p173 (a0,())) then
  (bif (p173 (a1,())) then
  (bif ((decide ((0:Int) ≤ e1_)) && (decide ((e1_ * (8:Int)) ≤ (140737488355328:Int)))) then
  (Vx.obind (w324_4 ((((f173 (a0,())).1.length:Int),((f173 (a0,())).1,((f173 (a1,())).1,((0:Int),((),()))))),((List.replicate (Int.toNat e1_) (0:Int)),()))) fun y3 =>
  Vx.obind2 y3 (fun y4 =>
  bif (p173 y4.2) then
  (some (f173 y4.2))
  else none) (fun z4 =>
  none))
  else none)
  else none)
  else none
theorem r324 (p315:DenS I315 → Bool) (f315:DenS I315 → DenS O315) (p155:DenS I155 → Bool) (f155:DenS I155 → DenS O155) (p173:DenS I173 → Bool) (f173:DenS I173 → DenS O173) (w324_4:Pat.D P324_4 → Option (OutT X324_4 Q324_4)) (w324_8:Pat.D P324_8 → Option (OutT X324_8 Q324_8)) (a0:Den (.slice (.int .u64))) (a1:Den (.slice (.int .u64))) :
    run { P:=Go.Proofs.Tryd.prog,sums:=[(102,⟨I315,O315,p315,f315⟩),(112,⟨I155,O155,p155,f155⟩),(106,⟨I173,O173,p173,f173⟩)],loops:=[(110,4,LoopSpec.of P324_4 A324_4 X324_4 Q324_4 w324_4),(110,8,LoopSpec.of P324_8 A324_8 X324_8 Q324_8 w324_8)],globs:=G1 } 9 110 Go.Proofs.Tryd.f110 I324 O324 (a0,a1,()) = t324 p315 f315 p155 f155 p173 f173 w324_4 w324_8 a0 a1:=by kernel_rfl
noncomputable def W324_8:P324_8.D → Option (OutT X324_8 Q324_8):=lfix fun L=>h324_8 S315.pre S315.F S155.pre S155.F S173.pre S173.F L some
noncomputable def W324_4:P324_4.D → Option (OutT X324_4 Q324_4):=lfix fun L=>h324_4 S315.pre S315.F S155.pre S155.F S173.pre S173.F W324_8 L some
noncomputable def T324 (x:DenS I324):Option (DenS O324):=t324 S315.pre S315.F S155.pre S155.F S173.pre S173.F W324_4 W324_8 x.1 x.2.1
noncomputable def C324:Cfg:={ P:=Go.Proofs.Tryd.prog,sums:=[(102,S315),(112,S155),(106,S173)],loops:=[(110,4,LoopSpec.of P324_4 A324_4 X324_4 Q324_4 W324_4),(110,8,LoopSpec.of P324_8 A324_8 X324_8 Q324_8 W324_8)],globs:=G1 }
noncomputable def S324:Sum:=sumOf I324 O324 T324 (DenS.dflt O324)
theorem S324_sound:Sound Go.Proofs.Tryd.prog G1 110 S324 :=
  fn_sound C324 9 110 Go.Proofs.Tryd.f110 mixedOk (by kernel_rfl) (by kernel_rfl) (by kernel_rfl) ⟨S315_sound,⟨S155_sound,⟨S173_sound,trivial⟩⟩⟩ ⟨rfl,fun d=>loopOk_of (fun L e x=>h324_4 S315.pre S315.F S155.pre S155.F S173.pre S173.F W324_8 L e x) (m324_4 S315.pre S315.F S155.pre S155.F S173.pre S173.F W324_8) (fun R L e x=>s324_4 S315.pre S315.F S155.pre S155.F S173.pre S173.F W324_4 W324_8 d R L e x),⟨rfl,fun d=>loopOk_of (fun L e x=>h324_8 S315.pre S315.F S155.pre S155.F S173.pre S173.F L e x) (m324_8 S315.pre S315.F S155.pre S155.F S173.pre S173.F) (fun R L e x=>s324_8 S315.pre S315.F S155.pre S155.F S173.pre S173.F W324_4 W324_8 d R L e x),trivial⟩⟩ I324 O324 T324 _ (fun x=>r324 S315.pre S315.F S155.pre S155.F S173.pre S173.F W324_4 W324_8 x.1 x.2.1)
abbrev I325:Sig:=[(false,.slice (.int .u64)),(false,.slice (.int .u64))]
abbrev O325:Sig:=[(false,.slice (.int .u64)),(false,.int .i64)]
noncomputable def t325 (p324:DenS I324 → Bool) (f324:DenS I324 → DenS O324) (p185:DenS I185 → Bool) (f185:DenS I185 → DenS O185) (a0:Den (.slice (.int .u64))) (a1:Den (.slice (.int .u64))):Option (DenS O325) :=
  bif (p185 ((a0 :: (a1 :: [])),())) then
  (bif (f185 ((a0 :: (a1 :: [])),())).1 then
  (some ([],((5:Int),())))
  else bif (p324 (a0,(a1,()))) then
  (bif (p185 (((f324 (a0,(a1,()))).1 :: []),())) then
  (bif (f185 (((f324 (a0,(a1,()))).1 :: []),())).1 then
  (some ([],((5:Int),())))
  else some ((f324 (a0,(a1,()))).1,((0:Int),())))
  else none)
  else none)
  else none
theorem r325 (p324:DenS I324 → Bool) (f324:DenS I324 → DenS O324) (p185:DenS I185 → Bool) (f185:DenS I185 → DenS O185) (a0:Den (.slice (.int .u64))) (a1:Den (.slice (.int .u64))) :
    run { P:=Go.Proofs.Tryd.prog,sums:=[(110,⟨I324,O324,p324,f324⟩),(104,⟨I185,O185,p185,f185⟩)],loops:=[],globs:=G1 } 9 86 Go.Proofs.Tryd.f86 I325 O325 (a0,a1,()) = t325 p324 f324 p185 f185 a0 a1:=by kernel_rfl
noncomputable def T325 (x:DenS I325):Option (DenS O325):=t325 S324.pre S324.F S185.pre S185.F x.1 x.2.1
noncomputable def C325:Cfg:={ P:=Go.Proofs.Tryd.prog,sums:=[(110,S324),(104,S185)],loops:=[],globs:=G1 }
noncomputable def S325:Sum:=sumOf I325 O325 T325 (DenS.dflt O325)
theorem S325_sound:Sound Go.Proofs.Tryd.prog G1 86 S325 :=
  fn_sound C325 9 86 Go.Proofs.Tryd.f86 mixedOk (by kernel_rfl) (by kernel_rfl) (by kernel_rfl) ⟨S324_sound,⟨S185_sound,trivial⟩⟩ trivial I325 O325 T325 _ (fun x=>r325 S324.pre S324.F S185.pre S185.F x.1 x.2.1)
abbrev I326:Sig:=[(false,.int .u64),(false,.int .i64)]
abbrev O326:Sig:=[(false,.slice (.int .u64))]
noncomputable def t326 (p325:DenS I325 → Bool) (f325:DenS I325 → DenS O325) (p176:DenS I176 → Bool) (f176:DenS I176 → DenS O176) (a0:Den (.int .u64)) (a1:Den (.int .i64)):Option (DenS O326) :=
  let e1_:=((f325 ((a0 :: []),((a0 :: []),()))).1,((Go.IntKind.wrap .i64 ((2:Int) * a1)),()))
  bif (a0 == (0:Int)) then
  (some ([],()))
  else bif (p325 ((a0 :: []),((a0 :: []),()))) then
  (bif (p176 e1_) then
  (some ((f176 e1_).1,()))
  else none)
  else none
theorem r326 (p325:DenS I325 → Bool) (f325:DenS I325 → DenS O325) (p176:DenS I176 → Bool) (f176:DenS I176 → DenS O176) (a0:Den (.int .u64)) (a1:Den (.int .i64)) :
    run { P:=Go.Proofs.Tryd.prog,sums:=[(86,⟨I325,O325,p325,f325⟩),(72,⟨I176,O176,p176,f176⟩)],loops:=[],globs:=G1 } 9 81 Go.Proofs.Tryd.f81 I326 O326 (a0,a1,()) = t326 p325 f325 p176 f176 a0 a1:=by kernel_rfl
noncomputable def T326 (x:DenS I326):Option (DenS O326):=t326 S325.pre S325.F S176.pre S176.F x.1 x.2.1
noncomputable def C326:Cfg:={ P:=Go.Proofs.Tryd.prog,sums:=[(86,S325),(72,S176)],loops:=[],globs:=G1 }
noncomputable def S326:Sum:=sumOf I326 O326 T326 (DenS.dflt O326)
theorem S326_sound:Sound Go.Proofs.Tryd.prog G1 81 S326 :=
  fn_sound C326 9 81 Go.Proofs.Tryd.f81 mixedOk (by kernel_rfl) (by kernel_rfl) (by kernel_rfl) ⟨S325_sound,⟨S176_sound,trivial⟩⟩ trivial I326 O326 T326 _ (fun x=>r326 S325.pre S325.F S176.pre S176.F x.1 x.2.1)
abbrev I1146:Sig:=[(false,.slice (.int .u64))]
abbrev O1146:Sig:=[(true,.slice (.int .u64))]
noncomputable def t1146 (p173:DenS I173 → Bool) (f173:DenS I173 → DenS O173) (a0:Den (.slice (.int .u64))):Option (DenS O1146) :=
  bif (p173 (a0,())) then
  (bif ((decide ((0:Int) ≤ ((f173 (a0,())).1.length:Int))) && (decide ((((f173 (a0,())).1.length:Int) * (8:Int)) ≤ (140737488355328:Int)))) then
  (some ((((f173 (a0,())).1.take (List.replicate (Int.toNat ((f173 (a0,())).1.length:Int)) (0:Int)).length) ++ ((List.replicate (Int.toNat ((f173 (a0,())).1.length:Int)) (0:Int)).drop (f173 (a0,())).1.length)),()))
  else none)
  else none
theorem r1146 (p173:DenS I173 → Bool) (f173:DenS I173 → DenS O173) (a0:Den (.slice (.int .u64))) :
    run { P:=Go.Proofs.Tryd.prog,sums:=[(106,⟨I173,O173,p173,f173⟩)],loops:=[],globs:=G1,keep:=true } 9 122 Go.Proofs.Tryd.f122 I1146 O1146 (a0,()) = t1146 p173 f173 a0:=by kernel_rfl
noncomputable def T1146 (x:DenS I1146):Option (DenS O1146):=t1146 S173.pre S173.F x.1
noncomputable def C1146:Cfg:={ P:=Go.Proofs.Tryd.prog,sums:=[(106,S173)],loops:=[],globs:=G1,keep:=true }
noncomputable def S1146:Sum:=sumOf I1146 O1146 T1146 (DenS.dflt O1146)
theorem S1146_sound:Sound Go.Proofs.Tryd.prog G1 122 S1146 :=
  fn_sound C1146 9 122 Go.Proofs.Tryd.f122 mixedOk (by kernel_rfl) (by kernel_rfl) (by kernel_rfl) ⟨S173_sound,trivial⟩ trivial I1146 O1146 T1146 _ (fun x=>r1146 S173.pre S173.F x.1)
abbrev I327:Sig:=[(false,.int .u64)]
abbrev O327:Sig:=[(false,.int .i64)]
noncomputable def t327 (p178:DenS I178 → Bool) (f178:DenS I178 → DenS O178) (a0:Den (.int .u64)):Option (DenS O327) :=
  bif (p178 (a0,())) then
  (some ((Go.IntKind.wrap .i64 ((64:Int) - (f178 (a0,())).1)),()))
  else none
theorem r327 (p178:DenS I178 → Bool) (f178:DenS I178 → DenS O178) (a0:Den (.int .u64)) :
    run { P:=Go.Proofs.Tryd.prog,sums:=[(103,⟨I178,O178,p178,f178⟩)],loops:=[],globs:=G1 } 9 124 Go.Proofs.Tryd.f124 I327 O327 (a0,()) = t327 p178 f178 a0:=by kernel_rfl
noncomputable def T327 (x:DenS I327):Option (DenS O327):=t327 S178.pre S178.F x.1
noncomputable def C327:Cfg:={ P:=Go.Proofs.Tryd.prog,sums:=[(103,S178)],loops:=[],globs:=G1 }
noncomputable def S327:Sum:=sumOf I327 O327 T327 (DenS.dflt O327)
theorem S327_sound:Sound Go.Proofs.Tryd.prog G1 124 S327 :=
  fn_sound C327 9 124 Go.Proofs.Tryd.f124 mixedOk (by kernel_rfl) (by kernel_rfl) (by kernel_rfl) ⟨S178_sound,trivial⟩ trivial I327 O327 T327 _ (fun x=>r327 S178.pre S178.F x.1)
abbrev I328:Sig:=[(false,.int .u64),(false,.int .u64),(false,.int .u64)]
abbrev O328:Sig:=[(false,.int .u64),(false,.int .u64)]
abbrev P328_17:Pat:=⟨135,[(16,.one (.v .u64)),(11,.one (.v .u64)),(13,.one (.v .u64)),(10,.one (.v .u64)),(9,.one (.v .u64)),(15,.one (.v .u64)),(14,.one (.v .u64)),(2,.one (.v .u64)),(8,.one (.v .u64))],[]⟩
abbrev A328_17:List (Nat × Shape):=[]
abbrev X328_17:List (Nat × Pat):=[(0,⟨135,[(11,.one (.v .u64)),(13,.one (.v .u64)),(10,.one (.v .u64)),(9,.one (.v .u64)),(15,.one (.v .u64)),(14,.one (.v .u64)),(2,.one (.v .u64)),(8,.one (.v .u64))],[]⟩)]
abbrev Q328_17:Option Pat:=none
abbrev P328_24:Pat:=⟨135,[(10,.one (.v .u64)),(16,.one (.v .u64)),(9,.one (.v .u64)),(15,.one (.v .u64)),(17,.one (.v .u64)),(14,.one (.v .u64)),(18,.one (.v .u64)),(2,.one (.v .u64)),(8,.one (.v .u64))],[]⟩
abbrev A328_24:List (Nat × Shape):=[]
abbrev X328_24:List (Nat × Pat):=[(2,⟨135,[(15,.one (.v .u64)),(17,.one (.v .u64)),(14,.one (.v .u64)),(18,.one (.v .u64)),(2,.one (.v .u64)),(8,.one (.v .u64))],[]⟩)]
abbrev Q328_24:Option Pat:=none
noncomputable def h328_24 (p327:DenS I327 → Bool) (f327:DenS I327 → DenS O327) {R:Type} (L:Pat.D P328_24 → Option R) (e:OutT X328_24 Q328_24 → Option R) (x:Pat.D P328_24):Option R :=
  let e1_:=(x.1.2.2.2.1,(x.1.2.2.2.2.1,(x.1.2.2.2.2.2.1,((Go.IntKind.wrap .u64 (x.1.2.2.2.2.2.2.1 - (1:Int))),x.1.2.2.2.2.2.2.2))))
  let e2_:=(Go.IntKind.wrap .u64 (x.1.2.1 + x.1.2.2.1))
  bif ((decide (x.1.2.2.2.2.2.2.1 ≥ (4294967296:Int))) || (decide ((Go.IntKind.wrap .u64 (x.1.2.2.2.2.2.2.1 * x.1.1)) > (Go.IntKind.wrap .u64 ((Go.IntKind.wrap .u64 ((4294967296:Int) * x.1.2.1)) + x.1.2.2.2.2.2.1))))) then
  (bif (decide (e2_ ≥ (4294967296:Int))) then
  ((e (.inl (e1_,()))))
  else (L ((x.1.1,(e2_,(x.1.2.2.1,e1_))),())))
  else (e (.inl (x.1.2.2.2,())))
theorem s328_24 (p327:DenS I327 → Bool) (f327:DenS I327 → DenS O327) (w328_17:Pat.D P328_17 → Option (OutT X328_17 Q328_17)) (w328_24:Pat.D P328_24 → Option (OutT X328_24 Q328_24)) (d:Nat) (R:Type) (L:Pat.D P328_24 → Option R) (e:OutT X328_24 Q328_24 → Option R) (x:Pat.D P328_24) :
    lStep { P:=Go.Proofs.Tryd.prog,sums:=[(124,⟨I327,O327,p327,f327⟩)],loops:=[(131,17,LoopSpec.of P328_17 A328_17 X328_17 Q328_17 w328_17),(131,24,LoopSpec.of P328_24 A328_24 X328_24 Q328_24 w328_24)],globs:=G1 } (d + 2) 131 (bodyOf Go.Proofs.Tryd.f131 24) P328_24 A328_24 X328_24 Q328_24 (R:=R) L e x = h328_24 p327 f327 L e x:=by kernel_rfl
theorem m328_24 (p327:DenS I327 → Bool) (f327:DenS I327 → DenS O327):Par fun L e x=>h328_24 p327 f327 L e x:=by
  intro A B rel L L' e e' h0 hL he x
  unfold h328_24
  repeat' (first | exact h0 | exact hL _ | exact he _ | apply rel_cond | (apply rel_obind h0; intro _) | (apply rel_obind2 <;> intro _))
noncomputable def h328_17 (p327:DenS I327 → Bool) (f327:DenS I327 → DenS O327) {R:Type} (L:Pat.D P328_17 → Option R) (e:OutT X328_17 Q328_17 → Option R) (x:Pat.D P328_17):Option R :=
  let e1_:=(x.1.2.1,(x.1.2.2.1,(x.1.2.2.2.1,(x.1.2.2.2.2.1,((Go.IntKind.wrap .u64 (x.1.2.2.2.2.2.1 - (1:Int))),x.1.2.2.2.2.2.2)))))
  let e2_:=(Go.IntKind.wrap .u64 (x.1.1 + x.1.2.2.2.2.1))
  bif ((decide (x.1.2.2.2.2.2.1 ≥ (4294967296:Int))) || (decide ((Go.IntKind.wrap .u64 (x.1.2.2.2.2.2.1 * x.1.2.2.2.1)) > (Go.IntKind.wrap .u64 ((Go.IntKind.wrap .u64 ((4294967296:Int) * x.1.1)) + x.1.2.2.1))))) then
  (bif (decide (e2_ ≥ (4294967296:Int))) then
  ((e (.inl (e1_,()))))
  else (L ((e2_,e1_),())))
  else (e (.inl (x.1.2,())))
theorem s328_17 (p327:DenS I327 → Bool) (f327:DenS I327 → DenS O327) (w328_17:Pat.D P328_17 → Option (OutT X328_17 Q328_17)) (w328_24:Pat.D P328_24 → Option (OutT X328_24 Q328_24)) (d:Nat) (R:Type) (L:Pat.D P328_17 → Option R) (e:OutT X328_17 Q328_17 → Option R) (x:Pat.D P328_17) :
    lStep { P:=Go.Proofs.Tryd.prog,sums:=[(124,⟨I327,O327,p327,f327⟩)],loops:=[(131,17,LoopSpec.of P328_17 A328_17 X328_17 Q328_17 w328_17),(131,24,LoopSpec.of P328_24 A328_24 X328_24 Q328_24 w328_24)],globs:=G1 } (d + 2) 131 (bodyOf Go.Proofs.Tryd.f131 17) P328_17 A328_17 X328_17 Q328_17 (R:=R) L e x = h328_17 p327 f327 L e x:=by kernel_rfl
theorem m328_17 (p327:DenS I327 → Bool) (f327:DenS I327 → DenS O327):Par fun L e x=>h328_17 p327 f327 L e x:=by
  intro A B rel L L' e e' h0 hL he x
  unfold h328_17
  repeat' (first | exact h0 | exact hL _ | exact he _ | apply rel_cond | (apply rel_obind h0; intro _) | (apply rel_obind2 <;> intro _))
noncomputable def t328 (p327:DenS I327 → Bool) (f327:DenS I327 → DenS O327) (w328_17:Pat.D P328_17 → Option (OutT X328_17 Q328_17)) (w328_24:Pat.D P328_24 → Option (OutT X328_24 Q328_24)) (a0:Den (.int .u64)) (a1:Den (.int .u64)) (a2:Den (.int .u64)):Option (DenS O328) :=
  let e9_:=(Go.IntKind.wrap .u64 (f327 (a2,())).1)
  let e6_:=(Vx.orI Go.IntKind.u64 (Vx.shlI Go.IntKind.u64 a0 e9_) (Vx.shrI Go.IntKind.u64 a1 (Go.IntKind.wrap .u64 ((64:Int) - e9_))))
  let e8_:=(Vx.shlI Go.IntKind.u64 a2 e9_)
  let e7_:=(Vx.shrI Go.IntKind.u64 e8_ (32:Int))
  let e1_:=(Vx.quoI Go.IntKind.u64 e6_ e7_)
  let e2_:=e6_
  let e3_:=e7_
  let e4_:=(Vx.shlI Go.IntKind.u64 a1 e9_)
  let e5_:=e8_
  bif (a2 == (0:Int)) then
    (none)
  else bif (decide (a2 ≤ a0)) then
    (none)
  else bif (a0 == (0:Int)) then
  (bif (a2 != (0:Int)) then
  (bif (a2 != (0:Int)) then
  (some ((Vx.quoI Go.IntKind.u64 a1 a2),((Int.tmod a1 a2),())))
  else none)
  else none)
  else bif (p327 (a2,())) then
  (bif (e3_ != (0:Int)) then
  (Vx.obind (w328_17 (((Go.IntKind.wrap .u64 (e2_ - (Go.IntKind.wrap .u64 (e1_ * e3_)))),(e2_,((Vx.shrI Go.IntKind.u64 e4_ (32:Int)),((Vx.andI Go.IntKind.u64 e5_ (4294967295:Int)),(e3_,(e1_,((Vx.andI Go.IntKind.u64 e4_ (4294967295:Int)),(e5_,(e9_,()))))))))),())) fun y5 =>
  Vx.obind2 y5 (fun y6 =>
  bif (y6.1.2.2.2.1 != (0:Int)) then
  (Vx.obind (w328_24 ((y6.1.2.2.1,((Go.IntKind.wrap .u64 ((Go.IntKind.wrap .u64 ((Go.IntKind.wrap .u64 ((Go.IntKind.wrap .u64 (y6.1.1 * (4294967296:Int))) + y6.1.2.1)) - (Go.IntKind.wrap .u64 (y6.1.2.2.2.2.1 * y6.1.2.2.2.2.2.2.1)))) - (Go.IntKind.wrap .u64 ((Vx.quoI Go.IntKind.u64 (Go.IntKind.wrap .u64 ((Go.IntKind.wrap .u64 ((Go.IntKind.wrap .u64 (y6.1.1 * (4294967296:Int))) + y6.1.2.1)) - (Go.IntKind.wrap .u64 (y6.1.2.2.2.2.1 * y6.1.2.2.2.2.2.2.1)))) y6.1.2.2.2.1) * y6.1.2.2.2.1)))),(y6.1.2.2.2.1,(y6.1.2.2.2.2.1,((Go.IntKind.wrap .u64 ((Go.IntKind.wrap .u64 ((Go.IntKind.wrap .u64 (y6.1.1 * (4294967296:Int))) + y6.1.2.1)) - (Go.IntKind.wrap .u64 (y6.1.2.2.2.2.1 * y6.1.2.2.2.2.2.2.1)))),(y6.1.2.2.2.2.2.1,((Vx.quoI Go.IntKind.u64 (Go.IntKind.wrap .u64 ((Go.IntKind.wrap .u64 ((Go.IntKind.wrap .u64 (y6.1.1 * (4294967296:Int))) + y6.1.2.1)) - (Go.IntKind.wrap .u64 (y6.1.2.2.2.2.1 * y6.1.2.2.2.2.2.2.1)))) y6.1.2.2.2.1),y6.1.2.2.2.2.2.2))))))),())) fun y8 =>
  Vx.obind2 y8 (fun y9 =>
  some ((Go.IntKind.wrap .u64 ((Go.IntKind.wrap .u64 (y9.1.1 * (4294967296:Int))) + y9.1.2.2.2.1)),((Vx.shrI Go.IntKind.u64 (Go.IntKind.wrap .u64 ((Go.IntKind.wrap .u64 ((Go.IntKind.wrap .u64 (y9.1.2.1 * (4294967296:Int))) + y9.1.2.2.1)) - (Go.IntKind.wrap .u64 (y9.1.2.2.2.1 * y9.1.2.2.2.2.1)))) y9.1.2.2.2.2.2.1),()))) (fun z9 =>
  none))
  else none) (fun z6 =>
  none))
  else none)
  else none
theorem r328 (p327:DenS I327 → Bool) (f327:DenS I327 → DenS O327) (w328_17:Pat.D P328_17 → Option (OutT X328_17 Q328_17)) (w328_24:Pat.D P328_24 → Option (OutT X328_24 Q328_24)) (a0:Den (.int .u64)) (a1:Den (.int .u64)) (a2:Den (.int .u64)) :
    run { P:=Go.Proofs.Tryd.prog,sums:=[(124,⟨I327,O327,p327,f327⟩)],loops:=[(131,17,LoopSpec.of P328_17 A328_17 X328_17 Q328_17 w328_17),(131,24,LoopSpec.of P328_24 A328_24 X328_24 Q328_24 w328_24)],globs:=G1 } 9 131 Go.Proofs.Tryd.f131 I328 O328 (a0,a1,a2,()) = t328 p327 f327 w328_17 w328_24 a0 a1 a2:=by kernel_rfl
noncomputable def W328_24:P328_24.D → Option (OutT X328_24 Q328_24):=lfix fun L=>h328_24 S327.pre S327.F L some
noncomputable def W328_17:P328_17.D → Option (OutT X328_17 Q328_17):=lfix fun L=>h328_17 S327.pre S327.F L some
noncomputable def T328 (x:DenS I328):Option (DenS O328):=t328 S327.pre S327.F W328_17 W328_24 x.1 x.2.1 x.2.2.1
noncomputable def C328:Cfg:={ P:=Go.Proofs.Tryd.prog,sums:=[(124,S327)],loops:=[(131,17,LoopSpec.of P328_17 A328_17 X328_17 Q328_17 W328_17),(131,24,LoopSpec.of P328_24 A328_24 X328_24 Q328_24 W328_24)],globs:=G1 }
noncomputable def S328:Sum:=sumOf I328 O328 T328 (DenS.dflt O328)
theorem S328_sound:Sound Go.Proofs.Tryd.prog G1 131 S328 :=
  fn_sound C328 9 131 Go.Proofs.Tryd.f131 mixedOk (by kernel_rfl) (by kernel_rfl) (by kernel_rfl) ⟨S327_sound,trivial⟩ ⟨rfl,fun d=>loopOk_of (fun L e x=>h328_17 S327.pre S327.F L e x) (m328_17 S327.pre S327.F) (fun R L e x=>s328_17 S327.pre S327.F W328_17 W328_24 d R L e x),⟨rfl,fun d=>loopOk_of (fun L e x=>h328_24 S327.pre S327.F L e x) (m328_24 S327.pre S327.F) (fun R L e x=>s328_24 S327.pre S327.F W328_17 W328_24 d R L e x),trivial⟩⟩ I328 O328 T328 _ (fun x=>r328 S327.pre S327.F W328_17 W328_24 x.1 x.2.1 x.2.2.1)
abbrev I1329:Sig:=[(true,.slice (.int .u64)),(false,.int .u64)]
abbrev O1329:Sig:=[(false,.slice (.int .u64)),(false,.int .u64)]
abbrev P1329_3:Pat:=⟨31,[(1,.one (.v .u64)),(7,.one (.v .i64)),(0,.one (.own 0)),(6,.one (.v .u64))],[.arr (.int .u64)]⟩
abbrev A1329_3:List (Nat × Shape):=[]
abbrev X1329_3:List (Nat × Pat):=[(0,⟨31,[(0,.one (.own 0)),(6,.one (.v .u64))],[.arr (.int .u64)]⟩)]
abbrev Q1329_3:Option Pat:=none
noncomputable def h1329_3 (p328:DenS I328 → Bool) (f328:DenS I328 → DenS O328) (p173:DenS I173 → Bool) (f173:DenS I173 → DenS O173) {R:Type} (L:Pat.D P1329_3 → Option R) (e:OutT X1329_3 Q1329_3 → Option R) (x:Pat.D P1329_3):Option R :=
  let e3_:=(x.1.2.2.2.1,((x.2.1.getD (Int.toNat x.1.2.1) (0:Int)),(x.1.1,())))
  let e1_:=(f328 e3_)
  let e2_:=((decide ((0:Int) ≤ x.1.2.1)) && (decide (x.1.2.1 < (x.2.1.length:Int))))
  bif (decide (x.1.2.1 ≥ (0:Int))) then
  (bif e2_ then
  (bif (p328 e3_) then
  (bif e2_ then
  ((L ((x.1.1,((Go.IntKind.wrap .i64 (x.1.2.1 - (1:Int))),((),e1_.2))),((x.2.1.set (Int.toNat x.1.2.1) e1_.1),()))))
  else none)
  else none)
  else none)
  else (e (.inl (((),x.1.2.2.2),x.2)))
theorem s1329_3 (p328:DenS I328 → Bool) (f328:DenS I328 → DenS O328) (p173:DenS I173 → Bool) (f173:DenS I173 → DenS O173) (w1329_3:Pat.D P1329_3 → Option (OutT X1329_3 Q1329_3)) (d:Nat) (R:Type) (L:Pat.D P1329_3 → Option R) (e:OutT X1329_3 Q1329_3 → Option R) (x:Pat.D P1329_3) :
    lStep { P:=Go.Proofs.Tryd.prog,sums:=[(131,⟨I328,O328,p328,f328⟩),(106,⟨I173,O173,p173,f173⟩)],loops:=[(123,3,LoopSpec.of P1329_3 A1329_3 X1329_3 Q1329_3 w1329_3)],globs:=G1,keep:=true } (d + 2) 123 (bodyOf Go.Proofs.Tryd.f123 3) P1329_3 A1329_3 X1329_3 Q1329_3 (R:=R) L e x = h1329_3 p328 f328 p173 f173 L e x:=by kernel_rfl
theorem m1329_3 (p328:DenS I328 → Bool) (f328:DenS I328 → DenS O328) (p173:DenS I173 → Bool) (f173:DenS I173 → DenS O173):Par fun L e x=>h1329_3 p328 f328 p173 f173 L e x:=by
  intro A B rel L L' e e' h0 hL he x
  unfold h1329_3
  repeat' (first | exact h0 | exact hL _ | exact he _ | apply rel_cond | (apply rel_obind h0; intro _) | (apply rel_obind2 <;> intro _))
noncomputable def t1329 (p328:DenS I328 → Bool) (f328:DenS I328 → DenS O328) (p173:DenS I173 → Bool) (f173:DenS I173 → DenS O173) (w1329_3:Pat.D P1329_3 → Option (OutT X1329_3 Q1329_3)) (a0:Den (.slice (.int .u64))) (a1:Den (.int .u64)):Option (DenS O1329) :=
  Vx.obind (w1329_3 ((a1,((Go.IntKind.wrap .i64 ((a0.length:Int) - (1:Int))),((),((0:Int),())))),(a0,()))) fun y0 =>
  Vx.obind2 y0 (fun y1 =>
  bif (p173 y1.2) then
  (some ((f173 y1.2).1,y1.1.2))
  else none) (fun z1 =>
  none)
theorem r1329 (p328:DenS I328 → Bool) (f328:DenS I328 → DenS O328) (p173:DenS I173 → Bool) (f173:DenS I173 → DenS O173) (w1329_3:Pat.D P1329_3 → Option (OutT X1329_3 Q1329_3)) (a0:Den (.slice (.int .u64))) (a1:Den (.int .u64)) :
    run { P:=Go.Proofs.Tryd.prog,sums:=[(131,⟨I328,O328,p328,f328⟩),(106,⟨I173,O173,p173,f173⟩)],loops:=[(123,3,LoopSpec.of P1329_3 A1329_3 X1329_3 Q1329_3 w1329_3)],globs:=G1,keep:=true } 9 123 Go.Proofs.Tryd.f123 I1329 O1329 (a0,a1,()) = t1329 p328 f328 p173 f173 w1329_3 a0 a1:=by kernel_rfl
noncomputable def W1329_3:P1329_3.D → Option (OutT X1329_3 Q1329_3):=lfix fun L=>h1329_3 S328.pre S328.F S173.pre S173.F L some
noncomputable def T1329 (x:DenS I1329):Option (DenS O1329):=t1329 S328.pre S328.F S173.pre S173.F W1329_3 x.1 x.2.1
noncomputable def C1329:Cfg:={ P:=Go.Proofs.Tryd.prog,sums:=[(131,S328),(106,S173)],loops:=[(123,3,LoopSpec.of P1329_3 A1329_3 X1329_3 Q1329_3 W1329_3)],globs:=G1,keep:=true }
noncomputable def S1329:Sum:=sumOf I1329 O1329 T1329 (DenS.dflt O1329)
theorem S1329_sound:Sound Go.Proofs.Tryd.prog G1 123 S1329 :=
  fn_sound C1329 9 123 Go.Proofs.Tryd.f123 mixedOk (by kernel_rfl) (by kernel_rfl) (by kernel_rfl) ⟨S328_sound,⟨S173_sound,trivial⟩⟩ ⟨rfl,fun d=>loopOk_of (fun L e x=>h1329_3 S328.pre S328.F S173.pre S173.F L e x) (m1329_3 S328.pre S328.F S173.pre S173.F) (fun R L e x=>s1329_3 S328.pre S328.F S173.pre S173.F W1329_3 d R L e x),trivial⟩ I1329 O1329 T1329 _ (fun x=>r1329 S328.pre S328.F S173.pre S173.F W1329_3 x.1 x.2.1)
abbrev I144:Sig:=[(false,.slice (.int .u64)),(false,.slice (.int .u64))]
abbrev O144:Sig:=[(false,.int .i64)]
abbrev P144_7:Pat:=⟨49,[(0,.one (.sl (.int .u64))),(1,.one (.sl (.int .u64))),(5,.one (.v .i64))],[]⟩
abbrev A144_7:List (Nat × Shape):=[]
abbrev X144_7:List (Nat × Pat):=[(1,⟨49,[],[]⟩)]
abbrev Q144_7:Option Pat:=(some ⟨49,[(4,.one (.v .i64))],[]⟩)
noncomputable def h144_7 (p173:DenS I173 → Bool) (f173:DenS I173 → DenS O173) {R:Type} (L:Pat.D P144_7 → Option R) (e:OutT X144_7 Q144_7 → Option R) (x:Pat.D P144_7):Option R :=
  bif (decide (x.1.2.2.1 ≥ (0:Int))) then
  (bif ((decide ((0:Int) ≤ x.1.2.2.1)) && (decide (x.1.2.2.1 < (x.1.1.length:Int)))) then
  (bif ((decide ((0:Int) ≤ x.1.2.2.1)) && (decide (x.1.2.2.1 < (x.1.2.1.length:Int)))) then
  (bif (decide ((x.1.1.getD (Int.toNat x.1.2.2.1) (0:Int)) < (x.1.2.1.getD (Int.toNat x.1.2.2.1) (0:Int)))) then
  ((e (.inr (((-(1:Int)),()),()))))
  else bif ((decide ((0:Int) ≤ x.1.2.2.1)) && (decide (x.1.2.2.1 < (x.1.1.length:Int)))) then
  (bif ((decide ((0:Int) ≤ x.1.2.2.1)) && (decide (x.1.2.2.1 < (x.1.2.1.length:Int)))) then
  (bif (decide ((x.1.1.getD (Int.toNat x.1.2.2.1) (0:Int)) > (x.1.2.1.getD (Int.toNat x.1.2.2.1) (0:Int)))) then
  ((e (.inr (((1:Int),()),()))))
  else (L ((x.1.1,(x.1.2.1,((Go.IntKind.wrap .i64 (x.1.2.2.1 - (1:Int))),()))),())))
  else none)
  else none)
  else none)
  else none)
  else (e (.inl ((),())))
theorem s144_7 (p173:DenS I173 → Bool) (f173:DenS I173 → DenS O173) (w144_7:Pat.D P144_7 → Option (OutT X144_7 Q144_7)) (d:Nat) (R:Type) (L:Pat.D P144_7 → Option R) (e:OutT X144_7 Q144_7 → Option R) (x:Pat.D P144_7) :
    lStep { P:=Go.Proofs.Tryd.prog,sums:=[(106,⟨I173,O173,p173,f173⟩)],loops:=[(109,7,LoopSpec.of P144_7 A144_7 X144_7 Q144_7 w144_7)],globs:=G1 } (d + 2) 109 (bodyOf Go.Proofs.Tryd.f109 7) P144_7 A144_7 X144_7 Q144_7 (R:=R) L e x = h144_7 p173 f173 L e x:=by kernel_rfl
theorem m144_7 (p173:DenS I173 → Bool) (f173:DenS I173 → DenS O173):Par fun L e x=>h144_7 p173 f173 L e x:=by
  intro A B rel L L' e e' h0 hL he x
  unfold h144_7
  repeat' (first | exact h0 | exact hL _ | exact he _ | apply rel_cond | (apply rel_obind h0; intro _) | (apply rel_obind2 <;> intro _))
noncomputable def t144 (p173:DenS I173 → Bool) (f173:DenS I173 → DenS O173) (w144_7:Pat.D P144_7 → Option (OutT X144_7 Q144_7)) (a0:Den (.slice (.int .u64))) (a1:Den (.slice (.int .u64))):Option (DenS O144) :=
  bif (p173 (a0,())) then
  (bif (p173 (a1,())) then
  (bif (decide (((f173 (a0,())).1.length:Int) < ((f173 (a1,())).1.length:Int))) then
  (some ((-(1:Int)),()))
  else bif (decide (((f173 (a0,())).1.length:Int) > ((f173 (a1,())).1.length:Int))) then
  (some ((1:Int),()))
  else Vx.obind (w144_7 (((f173 (a0,())).1,((f173 (a1,())).1,((Go.IntKind.wrap .i64 (((f173 (a0,())).1.length:Int) - (1:Int))),()))),())) fun y4 =>
  Vx.obind2 y4 (fun y5 =>
  some ((0:Int),())) (fun z5 =>
  some z5.1))
  else none)
  else none
theorem r144 (p173:DenS I173 → Bool) (f173:DenS I173 → DenS O173) (w144_7:Pat.D P144_7 → Option (OutT X144_7 Q144_7)) (a0:Den (.slice (.int .u64))) (a1:Den (.slice (.int .u64))) :
    run { P:=Go.Proofs.Tryd.prog,sums:=[(106,⟨I173,O173,p173,f173⟩)],loops:=[(109,7,LoopSpec.of P144_7 A144_7 X144_7 Q144_7 w144_7)],globs:=G1 } 9 109 Go.Proofs.Tryd.f109 I144 O144 (a0,a1,()) = t144 p173 f173 w144_7 a0 a1:=by kernel_rfl
noncomputable def W144_7:P144_7.D → Option (OutT X144_7 Q144_7):=lfix fun L=>h144_7 S173.pre S173.F L some
noncomputable def T144 (x:DenS I144):Option (DenS O144):=t144 S173.pre S173.F W144_7 x.1 x.2.1
noncomputable def C144:Cfg:={ P:=Go.Proofs.Tryd.prog,sums:=[(106,S173)],loops:=[(109,7,LoopSpec.of P144_7 A144_7 X144_7 Q144_7 W144_7)],globs:=G1 }
noncomputable def S144:Sum:=sumOf I144 O144 T144 (DenS.dflt O144)
theorem S144_sound:Sound Go.Proofs.Tryd.prog G1 109 S144 :=
  fn_sound C144 9 109 Go.Proofs.Tryd.f109 mixedOk (by kernel_rfl) (by kernel_rfl) (by kernel_rfl) ⟨S173_sound,trivial⟩ ⟨rfl,fun d=>loopOk_of (fun L e x=>h144_7 S173.pre S173.F L e x) (m144_7 S173.pre S173.F) (fun R L e x=>s144_7 S173.pre S173.F W144_7 d R L e x),trivial⟩ I144 O144 T144 _ (fun x=>r144 S173.pre S173.F W144_7 x.1 x.2.1)
abbrev I329:Sig:=[(false,.slice (.int .u64)),(false,.int .u64)]
abbrev O329:Sig:=[(false,.slice (.int .u64)),(false,.int .u64)]
abbrev P329_3:Pat:=⟨31,[(1,.one (.v .u64)),(7,.one (.v .i64)),(0,.one (.sl (.int .u64))),(6,.one (.v .u64))],[]⟩
abbrev A329_3:List (Nat × Shape):=[]
abbrev X329_3:List (Nat × Pat):=[(0,⟨31,[(0,.one (.sl (.int .u64))),(6,.one (.v .u64))],[]⟩)]
abbrev Q329_3:Option Pat:=none
noncomputable def h329_3 (p328:DenS I328 → Bool) (f328:DenS I328 → DenS O328) (p173:DenS I173 → Bool) (f173:DenS I173 → DenS O173) {R:Type} (L:Pat.D P329_3 → Option R) (e:OutT X329_3 Q329_3 → Option R) (x:Pat.D P329_3):Option R :=
  let e1_:=((decide ((0:Int) ≤ x.1.2.1)) && (decide (x.1.2.1 < (x.1.2.2.1.length:Int))))
  bif (decide (x.1.2.1 ≥ (0:Int))) then
  (bif e1_ then
  (bif (p328 (x.1.2.2.2.1,((x.1.2.2.1.getD (Int.toNat x.1.2.1) (0:Int)),(x.1.1,())))) then
  (bif e1_ then
          (none)
  else none)
  else none)
  else none)
  else (e (.inl (x.1.2.2,())))
theorem s329_3 (p328:DenS I328 → Bool) (f328:DenS I328 → DenS O328) (p173:DenS I173 → Bool) (f173:DenS I173 → DenS O173) (w329_3:Pat.D P329_3 → Option (OutT X329_3 Q329_3)) (d:Nat) (R:Type) (L:Pat.D P329_3 → Option R) (e:OutT X329_3 Q329_3 → Option R) (x:Pat.D P329_3) :
    lStep { P:=Go.Proofs.Tryd.prog,sums:=[(131,⟨I328,O328,p328,f328⟩),(106,⟨I173,O173,p173,f173⟩)],loops:=[(123,3,LoopSpec.of P329_3 A329_3 X329_3 Q329_3 w329_3)],globs:=G1 } (d + 2) 123 (bodyOf Go.Proofs.Tryd.f123 3) P329_3 A329_3 X329_3 Q329_3 (R:=R) L e x = h329_3 p328 f328 p173 f173 L e x:=by kernel_rfl
theorem m329_3 (p328:DenS I328 → Bool) (f328:DenS I328 → DenS O328) (p173:DenS I173 → Bool) (f173:DenS I173 → DenS O173):Par fun L e x=>h329_3 p328 f328 p173 f173 L e x:=by
  intro A B rel L L' e e' h0 hL he x
  unfold h329_3
  repeat' (first | exact h0 | exact hL _ | exact he _ | apply rel_cond | (apply rel_obind h0; intro _) | (apply rel_obind2 <;> intro _))
noncomputable def t329 (p328:DenS I328 → Bool) (f328:DenS I328 → DenS O328) (p173:DenS I173 → Bool) (f173:DenS I173 → DenS O173) (w329_3:Pat.D P329_3 → Option (OutT X329_3 Q329_3)) (a0:Den (.slice (.int .u64))) (a1:Den (.int .u64)):Option (DenS O329) :=
  Vx.obind (w329_3 ((a1,((Go.IntKind.wrap .i64 ((a0.length:Int) - (1:Int))),(a0,((0:Int),())))),())) fun y0 =>
  Vx.obind2 y0 (fun y1 =>
  bif (p173 (y1.1.1,())) then
  (some ((f173 (y1.1.1,())).1,y1.1.2))
  else none) (fun z1 =>
  none)
theorem r329 (p328:DenS I328 → Bool) (f328:DenS I328 → DenS O328) (p173:DenS I173 → Bool) (f173:DenS I173 → DenS O173) (w329_3:Pat.D P329_3 → Option (OutT X329_3 Q329_3)) (a0:Den (.slice (.int .u64))) (a1:Den (.int .u64)) :
    run { P:=Go.Proofs.Tryd.prog,sums:=[(131,⟨I328,O328,p328,f328⟩),(106,⟨I173,O173,p173,f173⟩)],loops:=[(123,3,LoopSpec.of P329_3 A329_3 X329_3 Q329_3 w329_3)],globs:=G1 } 9 123 Go.Proofs.Tryd.f123 I329 O329 (a0,a1,()) = t329 p328 f328 p173 f173 w329_3 a0 a1:=by kernel_rfl
noncomputable def W329_3:P329_3.D → Option (OutT X329_3 Q329_3):=lfix fun L=>h329_3 S328.pre S328.F S173.pre S173.F L some
noncomputable def T329 (x:DenS I329):Option (DenS O329):=t329 S328.pre S328.F S173.pre S173.F W329_3 x.1 x.2.1
noncomputable def C329:Cfg:={ P:=Go.Proofs.Tryd.prog,sums:=[(131,S328),(106,S173)],loops:=[(123,3,LoopSpec.of P329_3 A329_3 X329_3 Q329_3 W329_3)],globs:=G1 }
noncomputable def S329:Sum:=sumOf I329 O329 T329 (DenS.dflt O329)
theorem S329_sound:Sound Go.Proofs.Tryd.prog G1 123 S329 :=
  fn_sound C329 9 123 Go.Proofs.Tryd.f123 mixedOk (by kernel_rfl) (by kernel_rfl) (by kernel_rfl) ⟨S328_sound,⟨S173_sound,trivial⟩⟩ ⟨rfl,fun d=>loopOk_of (fun L e x=>h329_3 S328.pre S328.F S173.pre S173.F L e x) (m329_3 S328.pre S328.F S173.pre S173.F) (fun R L e x=>s329_3 S328.pre S328.F S173.pre S173.F W329_3 d R L e x),trivial⟩ I329 O329 T329 _ (fun x=>r329 S328.pre S328.F S173.pre S173.F W329_3 x.1 x.2.1)
abbrev I330:Sig:=[(false,.slice (.int .u64)),(false,.int .u64)]
abbrev O330:Sig:=[(false,.bool)]
abbrev K330:LK:=.win (.int .u64)
abbrev P330_3:Pat:=⟨68,[(16,.one (.v .i64)),(15,.one (.sl (.int .u64))),(2,.one (.v .u64)),(17,.one (.v .i64)),(1,.one (.sl (.int .u64))),(0,.one (.sub 0)),(7,.one (.v .u64)),(8,.one (.v .u64))],[.arr (.int .u64)]⟩
abbrev A330_3:List (Nat × Shape):=[]
abbrev X330_3:List (Nat × Pat):=[(0,⟨68,[(1,.one (.sl (.int .u64))),(0,.one (.sub 0)),(7,.one (.v .u64)),(8,.one (.v .u64))],[.arr (.int .u64)]⟩)]
abbrev Q330_3:Option Pat:=none
noncomputable def h330_3 (p315:DenS I315 → Bool) (f315:DenS I315 → DenS O315) (p155:DenS I155 → Bool) (f155:DenS I155 → DenS O155) (p157:DenS I157 → Bool) (f157:DenS I157 → DenS O157) {R:Type} (L:Pat.D P330_3 → Option R) (e:OutT X330_3 Q330_3 → Option R) (x:Pat.D P330_3):Option R :=
  let e7_:=(x.2.1.getD (x.1.2.2.2.2.2.1.1 + (Int.toNat x.1.2.2.2.1)) (0:Int))
  let e8_:=(x.1.2.2.1,((x.1.2.1.getD (Int.toNat x.1.2.2.2.1) (0:Int)),()))
  let e6_:=(f315 e8_)
  let e5_:=(f155 (e6_.2.1,(x.1.2.2.2.2.2.2.1,((0:Int),()))))
  let e1_:=(f157 (e7_,(e5_.1,x.1.2.2.2.2.2.2.2)))
  let e2_:=e5_
  let e3_:=((decide ((0:Int) ≤ x.1.2.2.2.1)) && (decide (x.1.2.2.2.1 < (x.1.2.2.2.2.2.1.2:Int))))
  let e4_:=e6_
  bif (decide (x.1.2.2.2.1 < x.1.1)) then
  (bif ((decide ((0:Int) ≤ x.1.2.2.2.1)) && (decide (x.1.2.2.2.1 < (x.1.2.1.length:Int)))) then
  (bif (p315 e8_) then
  (bif (p155 (e4_.2.1,(x.1.2.2.2.2.2.2.1,((0:Int),())))) then
  (bif e3_ then
  (bif (p157 (e7_,(e2_.1,x.1.2.2.2.2.2.2.2))) then
  (bif e3_ then
  ((L ((x.1.1,(x.1.2.1,(x.1.2.2.1,((Go.IntKind.wrap .i64 (x.1.2.2.2.1 + (1:Int))),(x.1.2.2.2.2.1,(x.1.2.2.2.2.2.1,((Go.IntKind.wrap .u64 (e4_.1 + e2_.2.1)),e1_.2))))))),((x.2.1.set (x.1.2.2.2.2.2.1.1 + (Int.toNat x.1.2.2.2.1)) e1_.1),()))))
  else none)
  else none)
  else none)
  else none)
  else none)
  else none)
  else (e (.inl (x.1.2.2.2.2,x.2)))
theorem s330_3 (p315:DenS I315 → Bool) (f315:DenS I315 → DenS O315) (p155:DenS I155 → Bool) (f155:DenS I155 → DenS O155) (p157:DenS I157 → Bool) (f157:DenS I157 → DenS O157) (w330_3:Pat.D P330_3 → Option (OutT X330_3 Q330_3)) (d:Nat) (R:Type) (L:Pat.D P330_3 → Option R) (e:OutT X330_3 Q330_3 → Option R) (x:Pat.D P330_3) :
    lStep { P:=Go.Proofs.Tryd.prog,sums:=[(102,⟨I315,O315,p315,f315⟩),(112,⟨I155,O155,p155,f155⟩),(116,⟨I157,O157,p157,f157⟩)],loops:=[(132,3,LoopSpec.of P330_3 A330_3 X330_3 Q330_3 w330_3 1)],globs:=G1 } (d + 2) 132 (bodyOf Go.Proofs.Tryd.f132 3) P330_3 A330_3 X330_3 Q330_3 (R:=R) L e x 1 = h330_3 p315 f315 p155 f155 p157 f157 L e x:=by kernel_rfl
theorem m330_3 (p315:DenS I315 → Bool) (f315:DenS I315 → DenS O315) (p155:DenS I155 → Bool) (f155:DenS I155 → DenS O155) (p157:DenS I157 → Bool) (f157:DenS I157 → DenS O157):Par fun L e x=>h330_3 p315 f315 p155 f155 p157 f157 L e x:=by
  intro A B rel L L' e e' h0 hL he x
  unfold h330_3
  repeat' (first | exact h0 | exact hL _ | exact he _ | apply rel_cond | (apply rel_obind h0; intro _) | (apply rel_obind2 <;> intro _))
noncomputable def t330 (p315:DenS I315 → Bool) (f315:DenS I315 → DenS O315) (p155:DenS I155 → Bool) (f155:DenS I155 → DenS O155) (p157:DenS I157 → Bool) (f157:DenS I157 → DenS O157) (w330_3:Pat.D P330_3 → Option (OutT X330_3 Q330_3)) (l0:LK.D (.win (.int .u64))) (a0:Den (.slice (.int .u64))) (a1:Den (.int .u64)):Option (LK.B K330 × DenS O330) :=
  Vx.obind (w330_3 (((a0.length:Int),(a0,(a1,((0:Int),(a0,(l0.2,((0:Int),((0:Int),())))))))),(l0.1,()))) fun y0 =>
  Vx.obind2 y0 (fun y1 =>
  bif ((decide ((0:Int) ≤ (y1.1.1.length:Int))) && (decide ((y1.1.1.length:Int) < (y1.1.2.1.2:Int)))) then
  (bif (p157 ((y1.2.1.getD (y1.1.2.1.1 + (Int.toNat (y1.1.1.length:Int))) (0:Int)),y1.1.2.2)) then
  (bif ((decide ((0:Int) ≤ (y1.1.1.length:Int))) && (decide ((y1.1.1.length:Int) < (y1.1.2.1.2:Int)))) then
  (some ((y1.2.1.set (y1.1.2.1.1 + (Int.toNat (y1.1.1.length:Int))) (f157 ((y1.2.1.getD (y1.1.2.1.1 + (Int.toNat (y1.1.1.length:Int))) (0:Int)),y1.1.2.2)).1),(((f157 ((y1.2.1.getD (y1.1.2.1.1 + (Int.toNat (y1.1.1.length:Int))) (0:Int)),y1.1.2.2)).2.1 != (0:Int)),())))
  else none)
  else none)
  else none) (fun z1 =>
  none)
theorem r330 (p315:DenS I315 → Bool) (f315:DenS I315 → DenS O315) (p155:DenS I155 → Bool) (f155:DenS I155 → DenS O155) (p157:DenS I157 → Bool) (f157:DenS I157 → DenS O157) (w330_3:Pat.D P330_3 → Option (OutT X330_3 Q330_3)) (l0:LK.D (.win (.int .u64))) (a0:Den (.slice (.int .u64))) (a1:Den (.int .u64)) :
    runL { P:=Go.Proofs.Tryd.prog,sums:=[(102,⟨I315,O315,p315,f315⟩),(112,⟨I155,O155,p155,f155⟩),(116,⟨I157,O157,p157,f157⟩)],loops:=[(132,3,LoopSpec.of P330_3 A330_3 X330_3 Q330_3 w330_3 1)],globs:=G1 } 9 132 Go.Proofs.Tryd.f132 (K330) I330 O330 (l0,(a0,a1,())) = t330 p315 f315 p155 f155 p157 f157 w330_3 l0 a0 a1:=by kernel_rfl
noncomputable def W330_3:P330_3.D → Option (OutT X330_3 Q330_3):=lfix fun L=>h330_3 S315.pre S315.F S155.pre S155.F S157.pre S157.F L some
noncomputable def T330 (x:LK.D K330 × DenS I330):Option (LK.B K330 × DenS O330):=t330 S315.pre S315.F S155.pre S155.F S157.pre S157.F W330_3 x.1 x.2.1 x.2.2.1
noncomputable def C330:Cfg:={ P:=Go.Proofs.Tryd.prog,sums:=[(102,S315),(112,S155),(116,S157)],loops:=[(132,3,LoopSpec.of P330_3 A330_3 X330_3 Q330_3 W330_3 1)],globs:=G1 }
noncomputable def S330:SumL:=sumOfL K330 I330 O330 T330 (LK.dflt K330,DenS.dflt O330)
theorem S330_sound:SoundL Go.Proofs.Tryd.prog G1 132 S330 :=
  fn_soundL C330 9 132 Go.Proofs.Tryd.f132 mixedOk (by kernel_rfl) (by kernel_rfl) (by kernel_rfl) ⟨S315_sound,⟨S155_sound,⟨S157_sound,trivial⟩⟩⟩ ⟨rfl,fun d=>loopOk_of (fun L e x=>h330_3 S315.pre S315.F S155.pre S155.F S157.pre S157.F L e x) (m330_3 S315.pre S315.F S155.pre S155.F S157.pre S157.F) (fun R L e x=>s330_3 S315.pre S315.F S155.pre S155.F S157.pre S157.F W330_3 d R L e x),trivial⟩ K330 I330 O330 T330 _ (fun x=>r330 S315.pre S315.F S155.pre S155.F S157.pre S157.F W330_3 x.1 x.2.1 x.2.2.1)
abbrev I331:Sig:=[(false,.slice (.int .u64))]
abbrev O331:Sig:=[(false,.bool)]
abbrev K331:LK:=.win (.int .u64)
abbrev P331_3:Pat:=⟨46,[(10,.one (.v .i64)),(9,.one (.sl (.int .u64))),(11,.one (.v .i64)),(1,.one (.sl (.int .u64))),(0,.one (.sub 0)),(5,.one (.v .u64))],[.arr (.int .u64)]⟩
abbrev A331_3:List (Nat × Shape):=[]
abbrev X331_3:List (Nat × Pat):=[(0,⟨46,[(1,.one (.sl (.int .u64))),(0,.one (.sub 0)),(5,.one (.v .u64))],[.arr (.int .u64)]⟩)]
abbrev Q331_3:Option Pat:=none
noncomputable def h331_3 (p155:DenS I155 → Bool) (f155:DenS I155 → DenS O155) {R:Type} (L:Pat.D P331_3 → Option R) (e:OutT X331_3 Q331_3 → Option R) (x:Pat.D P331_3):Option R :=
  let e3_:=((x.2.1.getD (x.1.2.2.2.2.1.1 + (Int.toNat x.1.2.2.1)) (0:Int)),((x.1.2.1.getD (Int.toNat x.1.2.2.1) (0:Int)),x.1.2.2.2.2.2))
  let e1_:=(f155 e3_)
  let e2_:=((decide ((0:Int) ≤ x.1.2.2.1)) && (decide (x.1.2.2.1 < (x.1.2.2.2.2.1.2:Int))))
  bif (decide (x.1.2.2.1 < x.1.1)) then
  (bif ((decide ((0:Int) ≤ x.1.2.2.1)) && (decide (x.1.2.2.1 < (x.1.2.1.length:Int)))) then
  (bif e2_ then
  (bif (p155 e3_) then
  (bif e2_ then
  ((L ((x.1.1,(x.1.2.1,((Go.IntKind.wrap .i64 (x.1.2.2.1 + (1:Int))),(x.1.2.2.2.1,(x.1.2.2.2.2.1,e1_.2))))),((x.2.1.set (x.1.2.2.2.2.1.1 + (Int.toNat x.1.2.2.1)) e1_.1),()))))
  else none)
  else none)
  else none)
  else none)
  else (e (.inl (x.1.2.2.2,x.2)))
theorem s331_3 (p155:DenS I155 → Bool) (f155:DenS I155 → DenS O155) (w331_3:Pat.D P331_3 → Option (OutT X331_3 Q331_3)) (d:Nat) (R:Type) (L:Pat.D P331_3 → Option R) (e:OutT X331_3 Q331_3 → Option R) (x:Pat.D P331_3) :
    lStep { P:=Go.Proofs.Tryd.prog,sums:=[(112,⟨I155,O155,p155,f155⟩)],loops:=[(133,3,LoopSpec.of P331_3 A331_3 X331_3 Q331_3 w331_3 1)],globs:=G1 } (d + 2) 133 (bodyOf Go.Proofs.Tryd.f133 3) P331_3 A331_3 X331_3 Q331_3 (R:=R) L e x 1 = h331_3 p155 f155 L e x:=by kernel_rfl
theorem m331_3 (p155:DenS I155 → Bool) (f155:DenS I155 → DenS O155):Par fun L e x=>h331_3 p155 f155 L e x:=by
  intro A B rel L L' e e' h0 hL he x
  unfold h331_3
  repeat' (first | exact h0 | exact hL _ | exact he _ | apply rel_cond | (apply rel_obind h0; intro _) | (apply rel_obind2 <;> intro _))
noncomputable def t331 (p155:DenS I155 → Bool) (f155:DenS I155 → DenS O155) (w331_3:Pat.D P331_3 → Option (OutT X331_3 Q331_3)) (l0:LK.D (.win (.int .u64))) (a0:Den (.slice (.int .u64))):Option (LK.B K331 × DenS O331) :=
  Vx.obind (w331_3 (((a0.length:Int),(a0,((0:Int),(a0,(l0.2,((0:Int),())))))),(l0.1,()))) fun y0 =>
  Vx.obind2 y0 (fun y1 =>
  bif ((decide ((0:Int) ≤ (y1.1.1.length:Int))) && (decide ((y1.1.1.length:Int) < (y1.1.2.1.2:Int)))) then
  (bif (p155 ((y1.2.1.getD (y1.1.2.1.1 + (Int.toNat (y1.1.1.length:Int))) (0:Int)),((0:Int),y1.1.2.2))) then
  (bif ((decide ((0:Int) ≤ (y1.1.1.length:Int))) && (decide ((y1.1.1.length:Int) < (y1.1.2.1.2:Int)))) then
  (some ((y1.2.1.set (y1.1.2.1.1 + (Int.toNat (y1.1.1.length:Int))) (f155 ((y1.2.1.getD (y1.1.2.1.1 + (Int.toNat (y1.1.1.length:Int))) (0:Int)),((0:Int),y1.1.2.2))).1),(((f155 ((y1.2.1.getD (y1.1.2.1.1 + (Int.toNat (y1.1.1.length:Int))) (0:Int)),((0:Int),y1.1.2.2))).2.1 != (0:Int)),())))
  else none)
  else none)
  else none) (fun z1 =>
  none)
theorem r331 (p155:DenS I155 → Bool) (f155:DenS I155 → DenS O155) (w331_3:Pat.D P331_3 → Option (OutT X331_3 Q331_3)) (l0:LK.D (.win (.int .u64))) (a0:Den (.slice (.int .u64))) :
    runL { P:=Go.Proofs.Tryd.prog,sums:=[(112,⟨I155,O155,p155,f155⟩)],loops:=[(133,3,LoopSpec.of P331_3 A331_3 X331_3 Q331_3 w331_3 1)],globs:=G1 } 9 133 Go.Proofs.Tryd.f133 (K331) I331 O331 (l0,(a0,())) = t331 p155 f155 w331_3 l0 a0:=by kernel_rfl
noncomputable def W331_3:P331_3.D → Option (OutT X331_3 Q331_3):=lfix fun L=>h331_3 S155.pre S155.F L some
noncomputable def T331 (x:LK.D K331 × DenS I331):Option (LK.B K331 × DenS O331):=t331 S155.pre S155.F W331_3 x.1 x.2.1
noncomputable def C331:Cfg:={ P:=Go.Proofs.Tryd.prog,sums:=[(112,S155)],loops:=[(133,3,LoopSpec.of P331_3 A331_3 X331_3 Q331_3 W331_3 1)],globs:=G1 }
noncomputable def S331:SumL:=sumOfL K331 I331 O331 T331 (LK.dflt K331,DenS.dflt O331)
theorem S331_sound:SoundL Go.Proofs.Tryd.prog G1 133 S331 :=
  fn_soundL C331 9 133 Go.Proofs.Tryd.f133 mixedOk (by kernel_rfl) (by kernel_rfl) (by kernel_rfl) ⟨S155_sound,trivial⟩ ⟨rfl,fun d=>loopOk_of (fun L e x=>h331_3 S155.pre S155.F L e x) (m331_3 S155.pre S155.F) (fun R L e x=>s331_3 S155.pre S155.F W331_3 d R L e x),trivial⟩ K331 I331 O331 T331 _ (fun x=>r331 S155.pre S155.F W331_3 x.1 x.2.1)
abbrev I332:Sig:=[(false,.slice (.int .u64))]
abbrev O332:Sig:=[(false,.int .u64)]
abbrev K332:LK:=.win (.int .u64)
abbrev P332_6:Pat:=⟨92,[(6,.one (.v .u64)),(7,.one (.v .u64)),(5,.one (.v .i64)),(0,.one (.sub 0)),(1,.one (.sl (.int .u64)))],[.arr (.int .u64)]⟩
abbrev A332_6:List (Nat × Shape):=[]
abbrev X332_6:List (Nat × Pat):=[(0,⟨92,[(0,.one (.sub 0)),(1,.one (.sl (.int .u64))),(6,.one (.v .u64))],[.arr (.int .u64)]⟩)]
abbrev Q332_6:Option Pat:=none
abbrev P332_13:Pat:=⟨92,[(6,.one (.v .u64)),(0,.one (.sub 0)),(1,.one (.sl (.int .u64)))],[.arr (.int .u64)]⟩
abbrev A332_13:List (Nat × Shape):=[]
abbrev X332_13:List (Nat × Pat):=[(2,⟨92,[(6,.one (.v .u64))],[.arr (.int .u64)]⟩)]
abbrev Q332_13:Option Pat:=none
noncomputable def h332_13 (p328:DenS I328 → Bool) (f328:DenS I328 → DenS O328) (p315:DenS I315 → Bool) (f315:DenS I315 → DenS O315) (p155:DenS I155 → Bool) (f155:DenS I155 → DenS O155) (p330:LK.D K330 × DenS I330 → Bool) (f330:LK.D K330 × DenS I330 → LK.B K330 × DenS O330) (p331:LK.D K331 × DenS I331 → Bool) (f331:LK.D K331 × DenS I331 → LK.B K331 × DenS O331) {R:Type} (L:Pat.D P332_13 → Option R) (e:OutT X332_13 Q332_13 → Option R) (x:Pat.D P332_13):Option R :=
  let e1_:=(Go.IntKind.wrap .u64 (x.1.1 - (1:Int)))
  bif (p331 ((x.2.1,x.1.2.1),x.1.2.2)) then
  (bif (f331 ((x.2.1,x.1.2.1),x.1.2.2)).2.1 then
  ((e (.inl ((e1_,()),((f331 ((x.2.1,x.1.2.1),x.1.2.2)).1,())))))
  else (L ((e1_,x.1.2),((f331 ((x.2.1,x.1.2.1),x.1.2.2)).1,()))))
  else none
theorem s332_13 (p328:DenS I328 → Bool) (f328:DenS I328 → DenS O328) (p315:DenS I315 → Bool) (f315:DenS I315 → DenS O315) (p155:DenS I155 → Bool) (f155:DenS I155 → DenS O155) (p330:LK.D K330 × DenS I330 → Bool) (f330:LK.D K330 × DenS I330 → LK.B K330 × DenS O330) (p331:LK.D K331 × DenS I331 → Bool) (f331:LK.D K331 × DenS I331 → LK.B K331 × DenS O331) (w332_6:Pat.D P332_6 → Option (OutT X332_6 Q332_6)) (w332_13:Pat.D P332_13 → Option (OutT X332_13 Q332_13)) (d:Nat) (R:Type) (L:Pat.D P332_13 → Option R) (e:OutT X332_13 Q332_13 → Option R) (x:Pat.D P332_13) :
    lStep { P:=Go.Proofs.Tryd.prog,sums:=[(131,⟨I328,O328,p328,f328⟩),(102,⟨I315,O315,p315,f315⟩),(112,⟨I155,O155,p155,f155⟩)],loops:=[(125,6,LoopSpec.of P332_6 A332_6 X332_6 Q332_6 w332_6 1),(125,13,LoopSpec.of P332_13 A332_13 X332_13 Q332_13 w332_13 1)],globs:=G1,lsums:=[(132,⟨K330,I330,O330,p330,f330⟩),(133,⟨K331,I331,O331,p331,f331⟩)] } (d + 2) 125 (bodyOf Go.Proofs.Tryd.f125 13) P332_13 A332_13 X332_13 Q332_13 (R:=R) L e x 1 = h332_13 p328 f328 p315 f315 p155 f155 p330 f330 p331 f331 L e x:=by kernel_rfl
theorem m332_13 (p328:DenS I328 → Bool) (f328:DenS I328 → DenS O328) (p315:DenS I315 → Bool) (f315:DenS I315 → DenS O315) (p155:DenS I155 → Bool) (f155:DenS I155 → DenS O155) (p330:LK.D K330 × DenS I330 → Bool) (f330:LK.D K330 × DenS I330 → LK.B K330 × DenS O330) (p331:LK.D K331 × DenS I331 → Bool) (f331:LK.D K331 × DenS I331 → LK.B K331 × DenS O331):Par fun L e x=>h332_13 p328 f328 p315 f315 p155 f155 p330 f330 p331 f331 L e x:=by
  intro A B rel L L' e e' h0 hL he x
  unfold h332_13
  repeat' (first | exact h0 | exact hL _ | exact he _ | apply rel_cond | (apply rel_obind h0; intro _) | (apply rel_obind2 <;> intro _))
noncomputable def h332_6 (p328:DenS I328 → Bool) (f328:DenS I328 → DenS O328) (p315:DenS I315 → Bool) (f315:DenS I315 → DenS O315) (p155:DenS I155 → Bool) (f155:DenS I155 → DenS O155) (p330:LK.D K330 × DenS I330 → Bool) (f330:LK.D K330 × DenS I330 → LK.B K330 × DenS O330) (p331:LK.D K331 × DenS I331 → Bool) (f331:LK.D K331 × DenS I331 → LK.B K331 × DenS O331) {R:Type} (L:Pat.D P332_6 → Option R) (e:OutT X332_6 Q332_6 → Option R) (x:Pat.D P332_6):Option R :=
  let e11_:=(Go.IntKind.wrap .i64 (x.1.2.2.1 - (2:Int)))
  let e10_:=(Int.toNat e11_)
  let e9_:=(f315 (x.1.1,((x.1.2.2.2.2.1.getD e10_ (0:Int)),())))
  let e1_:=(decide (e9_.1 < x.1.2.1))
  let e12_:=(Go.IntKind.wrap .i64 (x.1.2.2.1 - (1:Int)))
  let e2_:=(f155 (x.1.2.1,((x.1.2.2.2.2.1.getD (Int.toNat e12_) (0:Int)),((0:Int),()))))
  let e3_:=e9_
  let e4_:=(decide ((0:Int) ≤ e11_))
  let e5_:=e10_
  let e6_:=e12_
  let e7_:=e11_
  let e8_:=(Go.IntKind.wrap .u64 (x.1.1 - (1:Int)))
  bif (e4_ && (decide (e7_ < (x.1.2.2.2.2.1.length:Int)))) then
  (bif (p315 (x.1.1,((x.1.2.2.2.2.1.getD e5_ (0:Int)),()))) then
  (bif ((e4_ && (decide (e7_ < (x.1.2.2.2.1.2:Int)))) || (!((bif e1_ then false else true) && (decide (e3_.1 = x.1.2.1))))) then
  (bif (e1_ || ((e3_.1 == x.1.2.1) && (decide (e3_.2.1 ≤ (x.2.1.getD (x.1.2.2.2.1.1 + e5_) (0:Int)))))) then
  ((e (.inl ((x.1.2.2.2.1,(x.1.2.2.2.2.1,(x.1.1,()))),x.2))))
  else bif ((decide ((0:Int) ≤ e6_)) && (decide (e6_ < (x.1.2.2.2.2.1.length:Int)))) then
  (bif (p155 (x.1.2.1,((x.1.2.2.2.2.1.getD (Int.toNat e6_) (0:Int)),((0:Int),())))) then
  (bif (e2_.2.1 != (0:Int)) then
  ((e (.inl ((x.1.2.2.2.1,(x.1.2.2.2.2.1,(e8_,()))),x.2))))
  else (L ((e8_,(e2_.1,x.1.2.2)),x.2)))
  else none)
  else none)
  else none)
  else none)
  else none
theorem s332_6 (p328:DenS I328 → Bool) (f328:DenS I328 → DenS O328) (p315:DenS I315 → Bool) (f315:DenS I315 → DenS O315) (p155:DenS I155 → Bool) (f155:DenS I155 → DenS O155) (p330:LK.D K330 × DenS I330 → Bool) (f330:LK.D K330 × DenS I330 → LK.B K330 × DenS O330) (p331:LK.D K331 × DenS I331 → Bool) (f331:LK.D K331 × DenS I331 → LK.B K331 × DenS O331) (w332_6:Pat.D P332_6 → Option (OutT X332_6 Q332_6)) (w332_13:Pat.D P332_13 → Option (OutT X332_13 Q332_13)) (d:Nat) (R:Type) (L:Pat.D P332_6 → Option R) (e:OutT X332_6 Q332_6 → Option R) (x:Pat.D P332_6) :
    lStep { P:=Go.Proofs.Tryd.prog,sums:=[(131,⟨I328,O328,p328,f328⟩),(102,⟨I315,O315,p315,f315⟩),(112,⟨I155,O155,p155,f155⟩)],loops:=[(125,6,LoopSpec.of P332_6 A332_6 X332_6 Q332_6 w332_6 1),(125,13,LoopSpec.of P332_13 A332_13 X332_13 Q332_13 w332_13 1)],globs:=G1,lsums:=[(132,⟨K330,I330,O330,p330,f330⟩),(133,⟨K331,I331,O331,p331,f331⟩)] } (d + 2) 125 (bodyOf Go.Proofs.Tryd.f125 6) P332_6 A332_6 X332_6 Q332_6 (R:=R) L e x 1 = h332_6 p328 f328 p315 f315 p155 f155 p330 f330 p331 f331 L e x:=by kernel_rfl
theorem m332_6 (p328:DenS I328 → Bool) (f328:DenS I328 → DenS O328) (p315:DenS I315 → Bool) (f315:DenS I315 → DenS O315) (p155:DenS I155 → Bool) (f155:DenS I155 → DenS O155) (p330:LK.D K330 × DenS I330 → Bool) (f330:LK.D K330 × DenS I330 → LK.B K330 × DenS O330) (p331:LK.D K331 × DenS I331 → Bool) (f331:LK.D K331 × DenS I331 → LK.B K331 × DenS O331):Par fun L e x=>h332_6 p328 f328 p315 f315 p155 f155 p330 f330 p331 f331 L e x:=by
  intro A B rel L L' e e' h0 hL he x
  unfold h332_6
  repeat' (first | exact h0 | exact hL _ | exact he _ | apply rel_cond | (apply rel_obind h0; intro _) | (apply rel_obind2 <;> intro _))
noncomputable def t332 (p328:DenS I328 → Bool) (f328:DenS I328 → DenS O328) (p315:DenS I315 → Bool) (f315:DenS I315 → DenS O315) (p155:DenS I155 → Bool) (f155:DenS I155 → DenS O155) (p330:LK.D K330 × DenS I330 → Bool) (f330:LK.D K330 × DenS I330 → LK.B K330 × DenS O330) (p331:LK.D K331 × DenS I331 → Bool) (f331:LK.D K331 × DenS I331 → LK.B K331 × DenS O331) (w332_6:Pat.D P332_6 → Option (OutT X332_6 Q332_6)) (w332_13:Pat.D P332_13 → Option (OutT X332_13 Q332_13)) (l0:LK.D (.win (.int .u64))) (a0:Den (.slice (.int .u64))):Option (LK.B K332 × DenS O332) :=
  let e11_:=(l0.1.getD (l0.2.1 + (Int.toNat (a0.length:Int))) (0:Int))
  let e10_:=(Go.IntKind.wrap .i64 ((a0.length:Int) - (1:Int)))
  let e9_:=(Int.toNat e10_)
  let e8_:=(a0.getD e9_ (0:Int))
  let e1_:=(f328 (e11_,((l0.1.getD (l0.2.1 + e9_) (0:Int)),(e8_,()))))
  let e2_:=((decide ((0:Int) ≤ e10_)) && (decide (e10_ < (a0.length:Int))))
  let e3_:=e8_
  let e4_:=((decide ((0:Int) ≤ (a0.length:Int))) && (decide ((a0.length:Int) < (l0.2.2:Int))))
  let e5_:=e10_
  let e12_:=((l0.1,l0.2),(a0,((18446744073709551615:Int),())))
  let e6_:=(f330 e12_)
  let e7_:=e11_
  bif e4_ then
  (bif e2_ then
  (bif (decide (e7_ < e3_)) then
  (bif e4_ then
  (bif ((decide ((0:Int) ≤ e5_)) && (decide (e5_ < (l0.2.2:Int)))) then
  (bif e2_ then
  (bif (p328 (e7_,((l0.1.getD (l0.2.1 + (Int.toNat e5_)) (0:Int)),(e3_,())))) then
  (Vx.obind (w332_6 ((e1_.1,(e1_.2.1,((a0.length:Int),(l0.2,(a0,()))))),(l0.1,()))) fun y7 =>
  Vx.obind2 y7 (fun y8 =>
  bif (p330 ((y8.2.1,y8.1.1),y8.1.2)) then
  (bif (f330 ((y8.2.1,y8.1.1),y8.1.2)).2.1 then
  (Vx.obind (w332_13 ((y8.1.2.2.1,(y8.1.1,(y8.1.2.1,()))),((f330 ((y8.2.1,y8.1.1),y8.1.2)).1,()))) fun y11 =>
  Vx.obind2 y11 (fun y12 =>
  some (y12.2.1,y12.1)) (fun z12 =>
  none))
  else some ((f330 ((y8.2.1,y8.1.1),y8.1.2)).1,y8.1.2.2))
  else none) (fun z8 =>
  none))
  else none)
  else none)
  else none)
  else none)
  else bif (p330 e12_) then
  (bif e6_.2.1 then
  (Vx.obind (w332_13 (((18446744073709551615:Int),(l0.2,(a0,()))),(e6_.1,()))) fun y5 =>
  Vx.obind2 y5 (fun y6 =>
  some (y6.2.1,y6.1)) (fun z6 =>
  none))
  else some (e6_.1,((18446744073709551615:Int),())))
  else none)
  else none)
  else none
theorem r332 (p328:DenS I328 → Bool) (f328:DenS I328 → DenS O328) (p315:DenS I315 → Bool) (f315:DenS I315 → DenS O315) (p155:DenS I155 → Bool) (f155:DenS I155 → DenS O155) (p330:LK.D K330 × DenS I330 → Bool) (f330:LK.D K330 × DenS I330 → LK.B K330 × DenS O330) (p331:LK.D K331 × DenS I331 → Bool) (f331:LK.D K331 × DenS I331 → LK.B K331 × DenS O331) (w332_6:Pat.D P332_6 → Option (OutT X332_6 Q332_6)) (w332_13:Pat.D P332_13 → Option (OutT X332_13 Q332_13)) (l0:LK.D (.win (.int .u64))) (a0:Den (.slice (.int .u64))) :
    runL { P:=Go.Proofs.Tryd.prog,sums:=[(131,⟨I328,O328,p328,f328⟩),(102,⟨I315,O315,p315,f315⟩),(112,⟨I155,O155,p155,f155⟩)],loops:=[(125,6,LoopSpec.of P332_6 A332_6 X332_6 Q332_6 w332_6 1),(125,13,LoopSpec.of P332_13 A332_13 X332_13 Q332_13 w332_13 1)],globs:=G1,lsums:=[(132,⟨K330,I330,O330,p330,f330⟩),(133,⟨K331,I331,O331,p331,f331⟩)] } 9 125 Go.Proofs.Tryd.f125 (K332) I332 O332 (l0,(a0,())) = t332 p328 f328 p315 f315 p155 f155 p330 f330 p331 f331 w332_6 w332_13 l0 a0:=by kernel_rfl
noncomputable def W332_13:P332_13.D → Option (OutT X332_13 Q332_13):=lfix fun L=>h332_13 S328.pre S328.F S315.pre S315.F S155.pre S155.F S330.pre S330.F S331.pre S331.F L some
noncomputable def W332_6:P332_6.D → Option (OutT X332_6 Q332_6):=lfix fun L=>h332_6 S328.pre S328.F S315.pre S315.F S155.pre S155.F S330.pre S330.F S331.pre S331.F L some
noncomputable def T332 (x:LK.D K332 × DenS I332):Option (LK.B K332 × DenS O332):=t332 S328.pre S328.F S315.pre S315.F S155.pre S155.F S330.pre S330.F S331.pre S331.F W332_6 W332_13 x.1 x.2.1
noncomputable def C332:Cfg:={ P:=Go.Proofs.Tryd.prog,sums:=[(131,S328),(102,S315),(112,S155)],loops:=[(125,6,LoopSpec.of P332_6 A332_6 X332_6 Q332_6 W332_6 1),(125,13,LoopSpec.of P332_13 A332_13 X332_13 Q332_13 W332_13 1)],globs:=G1,lsums:=[(132,S330),(133,S331)] }
noncomputable def S332:SumL:=sumOfL K332 I332 O332 T332 (LK.dflt K332,DenS.dflt O332)
theorem S332_sound:SoundL Go.Proofs.Tryd.prog G1 125 S332 :=
  fn_soundL C332 9 125 Go.Proofs.Tryd.f125 mixedOk (by kernel_rfl) (by kernel_rfl) (by kernel_rfl) ⟨S328_sound,⟨S315_sound,⟨S155_sound,trivial⟩⟩⟩ ⟨rfl,fun d=>loopOk_of (fun L e x=>h332_6 S328.pre S328.F S315.pre S315.F S155.pre S155.F S330.pre S330.F S331.pre S331.F L e x) (m332_6 S328.pre S328.F S315.pre S315.F S155.pre S155.F S330.pre S330.F S331.pre S331.F) (fun R L e x=>s332_6 S328.pre S328.F S315.pre S315.F S155.pre S155.F S330.pre S330.F S331.pre S331.F W332_6 W332_13 d R L e x),⟨rfl,fun d=>loopOk_of (fun L e x=>h332_13 S328.pre S328.F S315.pre S315.F S155.pre S155.F S330.pre S330.F S331.pre S331.F L e x) (m332_13 S328.pre S328.F S315.pre S315.F S155.pre S155.F S330.pre S330.F S331.pre S331.F) (fun R L e x=>s332_13 S328.pre S328.F S315.pre S315.F S155.pre S155.F S330.pre S330.F S331.pre S331.F W332_6 W332_13 d R L e x),trivial⟩⟩ K332 I332 O332 T332 _ (fun x=>r332 S328.pre S328.F S315.pre S315.F S155.pre S155.F S330.pre S330.F S331.pre S331.F W332_6 W332_13 x.1 x.2.1) (hls:=⟨S330_sound,⟨S331_sound,trivial⟩⟩)
end Vx
namespace Vx
open Go Go.Proofs
abbrev I333:Sig:=[(false,.slice (.int .u64)),(false,.slice (.int .u64))]
abbrev O333:Sig:=[(false,.slice (.int .u64)),(false,.slice (.int .u64))]
abbrev P333_14:Pat:=⟨91,[(9,.one (.sl (.int .u64))),(12,.one (.v .i64)),(4,.one (.own 1)),(10,.one (.own 0)),(11,.one (.v .i64)),(8,.one (.v .i64))],[.arr (.int .u64),.arr (.int .u64)]⟩
abbrev A333_14:List (Nat × Shape):=[]
abbrev X333_14:List (Nat × Pat):=[(0,⟨91,[(4,.one (.own 1)),(10,.one (.own 0)),(11,.one (.v .i64)),(8,.one (.v .i64))],[.arr (.int .u64),.arr (.int .u64)]⟩)]
abbrev Q333_14:Option Pat:=none
noncomputable def h333_14 (p1146:DenS I1146 → Bool) (f1146:DenS I1146 → DenS O1146) (p1329:DenS I1329 → Bool) (f1329:DenS I1329 → DenS O1329) (p144:DenS I144 → Bool) (f144:DenS I144 → DenS O144) (p146:DenS I146 → Bool) (f146:DenS I146 → DenS O146) (p329:DenS I329 → Bool) (f329:DenS I329 → DenS O329) (p327:DenS I327 → Bool) (f327:DenS I327 → DenS O327) (p186:DenS I186 → Bool) (f186:DenS I186 → DenS O186) (p332:LK.D K332 × DenS I332 → Bool) (f332:LK.D K332 × DenS I332 → LK.B K332 × DenS O332) (p173:DenS I173 → Bool) (f173:DenS I173 → DenS O173) (p171:DenS I171 → Bool) (f171:DenS I171 → DenS O171) {R:Type} (L:Pat.D P333_14 → Option R) (e:OutT X333_14 Q333_14 → Option R) (x:Pat.D P333_14):Option R :=
  let e3_:=(Go.IntKind.wrap .i64 ((Go.IntKind.wrap .i64 (x.1.2.1 + x.1.2.2.2.2.1)) + (1:Int)))
  let e1_:=(f332 ((x.2.1,((Int.toNat x.1.2.1),((Int.toNat e3_) - (Int.toNat x.1.2.1)))),(x.1.1,())))
  let e2_:=e3_
  bif (decide (x.1.2.1 ≥ (0:Int))) then
  (bif (((decide ((0:Int) ≤ x.1.2.1)) && (decide (x.1.2.1 ≤ e2_))) && (decide (e2_ ≤ (x.2.1.length:Int)))) then
  (bif (p332 ((x.2.1,((Int.toNat x.1.2.1),((Int.toNat e2_) - (Int.toNat x.1.2.1)))),(x.1.1,()))) then
  (bif ((decide ((0:Int) ≤ x.1.2.1)) && (decide (x.1.2.1 < (x.2.2.1.length:Int)))) then
  ((L ((x.1.1,((Go.IntKind.wrap .i64 (x.1.2.1 - (1:Int))),((),((),x.1.2.2.2.2)))),(e1_.1,((x.2.2.1.set (Int.toNat x.1.2.1) e1_.2.1),())))))
  else none)
  else none)
  else none)
  else (e (.inl (((),((),x.1.2.2.2.2)),x.2)))
theorem s333_14 (p1146:DenS I1146 → Bool) (f1146:DenS I1146 → DenS O1146) (p1329:DenS I1329 → Bool) (f1329:DenS I1329 → DenS O1329) (p144:DenS I144 → Bool) (f144:DenS I144 → DenS O144) (p146:DenS I146 → Bool) (f146:DenS I146 → DenS O146) (p329:DenS I329 → Bool) (f329:DenS I329 → DenS O329) (p327:DenS I327 → Bool) (f327:DenS I327 → DenS O327) (p186:DenS I186 → Bool) (f186:DenS I186 → DenS O186) (p332:LK.D K332 × DenS I332 → Bool) (f332:LK.D K332 × DenS I332 → LK.B K332 × DenS O332) (p173:DenS I173 → Bool) (f173:DenS I173 → DenS O173) (p171:DenS I171 → Bool) (f171:DenS I171 → DenS O171) (w333_14:Pat.D P333_14 → Option (OutT X333_14 Q333_14)) (d:Nat) (R:Type) (L:Pat.D P333_14 → Option R) (e:OutT X333_14 Q333_14 → Option R) (x:Pat.D P333_14) :
    lStep { P:=Go.Proofs.Tryd.prog,sums:=[(122,⟨I1146,O1146,p1146,f1146⟩),(123,⟨I1329,O1329,p1329,f1329⟩),(109,⟨I144,O144,p144,f144⟩),(122,⟨I146,O146,p146,f146⟩),(123,⟨I329,O329,p329,f329⟩),(124,⟨I327,O327,p327,f327⟩),(105,⟨I186,O186,p186,f186⟩),(106,⟨I173,O173,p173,f173⟩),(108,⟨I171,O171,p171,f171⟩)],loops:=[(107,14,LoopSpec.of P333_14 A333_14 X333_14 Q333_14 w333_14)],globs:=G1,cut:=true,lsums:=[(125,⟨K332,I332,O332,p332,f332⟩)] } (d + 2) 107 (bodyOf Go.Proofs.Tryd.f107 14) P333_14 A333_14 X333_14 Q333_14 (R:=R) L e x = h333_14 p1146 f1146 p1329 f1329 p144 f144 p146 f146 p329 f329 p327 f327 p186 f186 p332 f332 p173 f173 p171 f171 L e x:=by kernel_rfl
theorem m333_14 (p1146:DenS I1146 → Bool) (f1146:DenS I1146 → DenS O1146) (p1329:DenS I1329 → Bool) (f1329:DenS I1329 → DenS O1329) (p144:DenS I144 → Bool) (f144:DenS I144 → DenS O144) (p146:DenS I146 → Bool) (f146:DenS I146 → DenS O146) (p329:DenS I329 → Bool) (f329:DenS I329 → DenS O329) (p327:DenS I327 → Bool) (f327:DenS I327 → DenS O327) (p186:DenS I186 → Bool) (f186:DenS I186 → DenS O186) (p332:LK.D K332 × DenS I332 → Bool) (f332:LK.D K332 × DenS I332 → LK.B K332 × DenS O332) (p173:DenS I173 → Bool) (f173:DenS I173 → DenS O173) (p171:DenS I171 → Bool) (f171:DenS I171 → DenS O171):Par fun L e x=>h333_14 p1146 f1146 p1329 f1329 p144 f144 p146 f146 p329 f329 p327 f327 p186 f186 p332 f332 p173 f173 p171 f171 L e x:=by
  intro A B rel L L' e e' h0 hL he x
  unfold h333_14
  repeat' (first | exact h0 | exact hL _ | exact he _ | apply rel_cond | (apply rel_obind h0; intro _) | (apply rel_obind2 <;> intro _))
noncomputable def t333 (p1146:DenS I1146 → Bool) (f1146:DenS I1146 → DenS O1146) (p1329:DenS I1329 → Bool) (f1329:DenS I1329 → DenS O1329) (p144:DenS I144 → Bool) (f144:DenS I144 → DenS O144) (p146:DenS I146 → Bool) (f146:DenS I146 → DenS O146) (p329:DenS I329 → Bool) (f329:DenS I329 → DenS O329) (p327:DenS I327 → Bool) (f327:DenS I327 → DenS O327) (p186:DenS I186 → Bool) (f186:DenS I186 → DenS O186) (p332:LK.D K332 × DenS I332 → Bool) (f332:LK.D K332 × DenS I332 → LK.B K332 × DenS O332) (p173:DenS I173 → Bool) (f173:DenS I173 → DenS O173) (p171:DenS I171 → Bool) (f171:DenS I171 → DenS O171) (w333_14:Pat.D P333_14 → Option (OutT X333_14 Q333_14)) (a0:Den (.slice (.int .u64))) (a1:Den (.slice (.int .u64))):Option (DenS O333) :=
  let e17_:=(Go.IntKind.wrap .i64 (((f173 (a1,())).1.length:Int) - (1:Int)))
  let e14_:=(f327 (((f173 (a1,())).1.getD (Int.toNat e17_) (0:Int)),()))
  let e12_:=(f186 ((f173 (a0,())).1,e14_))
  let e18_:=(Go.IntKind.wrap .i64 (((f173 (a0,())).1.length:Int) + (1:Int)))
  let e15_:=(List.replicate (Int.toNat e18_) (0:Int))
  let e13_:=(f186 ((f173 (a1,())).1,e14_))
  let e11_:=(Go.IntKind.wrap .i64 ((((e12_.1.take e15_.length) ++ (e15_.drop e12_.1.length)).length:Int) - (e13_.1.length:Int)))
  let e1_:=(List.replicate (Int.toNat e11_) (0:Int))
  let e2_:=e11_
  let e3_:=e13_
  let e4_:=e12_
  let e5_:=e14_
  let e6_:=e15_
  let e16_:=((f1146 (f173 (a0,()))).1,(((f173 (a1,())).1.getD (Int.toNat (0:Int)) (0:Int)),()))
  let e7_:=(((f1329 e16_).2.1 :: []),())
  let e8_:=e16_
  let e9_:=e17_
  let e10_:=e18_
  bif (p173 (a0,())) then
  (bif (p173 (a1,())) then
  (bif (p144 ((f173 (a0,())).1,(f173 (a1,())))) then
  (bif (decide ((f144 ((f173 (a0,())).1,(f173 (a1,())))).1 < (0:Int))) then
  (bif (p1146 (f173 (a0,()))) then
  (some ([],(f1146 (f173 (a0,())))))
  else none)
  else bif (((f173 (a1,())).1.length:Int) == (1:Int)) then
  (bif (p1146 (f173 (a0,()))) then
  (bif (decide ((0:Int) < ((f173 (a1,())).1.length:Int))) then
  (bif (p1329 e8_) then
  (bif (p173 e7_) then
  (some ((f1329 e8_).1,(f173 e7_)))
  else none)
  else none)
  else none)
  else none)
  else bif ((decide ((0:Int) ≤ e9_)) && (decide (e9_ < ((f173 (a1,())).1.length:Int)))) then
  (bif (p327 (((f173 (a1,())).1.getD (Int.toNat e9_) (0:Int)),())) then
  (bif (p186 ((f173 (a1,())).1,e5_)) then
  (bif ((decide ((0:Int) ≤ e10_)) && (decide ((e10_ * (8:Int)) ≤ (140737488355328:Int)))) then
  (bif (p186 ((f173 (a0,())).1,e5_)) then
  (bif ((decide ((0:Int) ≤ e2_)) && (decide ((e2_ * (8:Int)) ≤ (140737488355328:Int)))) then
  (Vx.obind (w333_14 ((e3_.1,((Go.IntKind.wrap .i64 ((e1_.length:Int) - (1:Int))),((),((),((e3_.1.length:Int),e5_))))),(((e4_.1.take e6_.length) ++ (e6_.drop e4_.1.length)),(e1_,())))) fun y11 =>
  Vx.obind2 y11 (fun y12 =>
  bif (p173 y12.2.2) then
  (bif ((decide ((0:Int) ≤ y12.1.2.2.1)) && (decide (y12.1.2.2.1 ≤ (y12.2.1.length:Int)))) then
  (bif (p171 (((y12.2.1.take (Int.toNat y12.1.2.2.1)).drop (Int.toNat (0:Int))),y12.1.2.2.2)) then
  (some ((f173 y12.2.2).1,(f171 (((y12.2.1.take (Int.toNat y12.1.2.2.1)).drop (Int.toNat (0:Int))),y12.1.2.2.2))))
  else none)
  else none)
  else none) (fun z12 =>
  none))
  else none)
  else none)
  else none)
  else none)
  else none)
  else none)
  else none)
  else none)
  else none
theorem r333 (p1146:DenS I1146 → Bool) (f1146:DenS I1146 → DenS O1146) (p1329:DenS I1329 → Bool) (f1329:DenS I1329 → DenS O1329) (p144:DenS I144 → Bool) (f144:DenS I144 → DenS O144) (p146:DenS I146 → Bool) (f146:DenS I146 → DenS O146) (p329:DenS I329 → Bool) (f329:DenS I329 → DenS O329) (p327:DenS I327 → Bool) (f327:DenS I327 → DenS O327) (p186:DenS I186 → Bool) (f186:DenS I186 → DenS O186) (p332:LK.D K332 × DenS I332 → Bool) (f332:LK.D K332 × DenS I332 → LK.B K332 × DenS O332) (p173:DenS I173 → Bool) (f173:DenS I173 → DenS O173) (p171:DenS I171 → Bool) (f171:DenS I171 → DenS O171) (w333_14:Pat.D P333_14 → Option (OutT X333_14 Q333_14)) (a0:Den (.slice (.int .u64))) (a1:Den (.slice (.int .u64))) :
    run { P:=Go.Proofs.Tryd.prog,sums:=[(122,⟨I1146,O1146,p1146,f1146⟩),(123,⟨I1329,O1329,p1329,f1329⟩),(109,⟨I144,O144,p144,f144⟩),(122,⟨I146,O146,p146,f146⟩),(123,⟨I329,O329,p329,f329⟩),(124,⟨I327,O327,p327,f327⟩),(105,⟨I186,O186,p186,f186⟩),(106,⟨I173,O173,p173,f173⟩),(108,⟨I171,O171,p171,f171⟩)],loops:=[(107,14,LoopSpec.of P333_14 A333_14 X333_14 Q333_14 w333_14)],globs:=G1,cut:=true,lsums:=[(125,⟨K332,I332,O332,p332,f332⟩)] } 9 107 Go.Proofs.Tryd.f107 I333 O333 (a0,a1,()) = t333 p1146 f1146 p1329 f1329 p144 f144 p146 f146 p329 f329 p327 f327 p186 f186 p332 f332 p173 f173 p171 f171 w333_14 a0 a1:=by kernel_rfl
noncomputable def W333_14:P333_14.D → Option (OutT X333_14 Q333_14):=lfix fun L=>h333_14 S1146.pre S1146.F S1329.pre S1329.F S144.pre S144.F S146.pre S146.F S329.pre S329.F S327.pre S327.F S186.pre S186.F S332.pre S332.F S173.pre S173.F S171.pre S171.F L some
noncomputable def T333 (x:DenS I333):Option (DenS O333):=t333 S1146.pre S1146.F S1329.pre S1329.F S144.pre S144.F S146.pre S146.F S329.pre S329.F S327.pre S327.F S186.pre S186.F S332.pre S332.F S173.pre S173.F S171.pre S171.F W333_14 x.1 x.2.1
noncomputable def C333:Cfg:={ P:=Go.Proofs.Tryd.prog,sums:=[(122,S1146),(123,S1329),(109,S144),(122,S146),(123,S329),(124,S327),(105,S186),(106,S173),(108,S171)],loops:=[(107,14,LoopSpec.of P333_14 A333_14 X333_14 Q333_14 W333_14)],globs:=G1,cut:=true,lsums:=[(125,S332)] }
noncomputable def S333:Sum:=sumOf I333 O333 T333 (DenS.dflt O333)
theorem S333_sound:Sound Go.Proofs.Tryd.prog G1 107 S333 :=
  fn_sound C333 9 107 Go.Proofs.Tryd.f107 mixedOk (by kernel_rfl) (by kernel_rfl) (by kernel_rfl) ⟨S1146_sound,⟨S1329_sound,⟨S144_sound,⟨S146_sound,⟨S329_sound,⟨S327_sound,⟨S186_sound,⟨S173_sound,⟨S171_sound,trivial⟩⟩⟩⟩⟩⟩⟩⟩⟩ ⟨rfl,fun d=>loopOk_of (fun L e x=>h333_14 S1146.pre S1146.F S1329.pre S1329.F S144.pre S144.F S146.pre S146.F S329.pre S329.F S327.pre S327.F S186.pre S186.F S332.pre S332.F S173.pre S173.F S171.pre S171.F L e x) (m333_14 S1146.pre S1146.F S1329.pre S1329.F S144.pre S144.F S146.pre S146.F S329.pre S329.F S327.pre S327.F S186.pre S186.F S332.pre S332.F S173.pre S173.F S171.pre S171.F) (fun R L e x=>s333_14 S1146.pre S1146.F S1329.pre S1329.F S144.pre S144.F S146.pre S146.F S329.pre S329.F S327.pre S327.F S186.pre S186.F S332.pre S332.F S173.pre S173.F S171.pre S171.F W333_14 d R L e x),trivial⟩ I333 O333 T333 _ (fun x=>r333 S1146.pre S1146.F S1329.pre S1329.F S144.pre S144.F S146.pre S146.F S329.pre S329.F S327.pre S327.F S186.pre S186.F S332.pre S332.F S173.pre S173.F S171.pre S171.F W333_14 x.1 x.2.1) (hls:=⟨S332_sound,trivial⟩)
abbrev I334:Sig:=[(false,.slice (.int .u64))]
abbrev O334:Sig:=[(false,.slice (.int .u64)),(false,.bool),(false,.int .i64)]
abbrev P334_7:Pat:=⟨45,[(5,.one (.sl (.int .u64))),(0,.one (.sl (.int .u64)))],[]⟩
abbrev A334_7:List (Nat × Shape):=[]
abbrev X334_7:List (Nat × Pat):=[(0,⟨45,[(5,.one (.sl (.int .u64))),(0,.one (.sl (.int .u64)))],[]⟩)]
abbrev Q334_7:Option Pat:=none
noncomputable def h334_7 (p185:DenS I185 → Bool) (f185:DenS I185 → DenS O185) (p173:DenS I173 → Bool) (f173:DenS I173 → DenS O173) (p151:DenS I151 → Bool) (f151:DenS I151 → DenS O151) (p186:DenS I186 → Bool) (f186:DenS I186 → DenS O186) (p333:DenS I333 → Bool) (f333:DenS I333 → DenS O333) (p143:DenS I143 → Bool) (f143:DenS I143 → DenS O143) (p171:DenS I171 → Bool) (f171:DenS I171 → DenS O171) (p324:DenS I324 → Bool) (f324:DenS I324 → DenS O324) (p144:DenS I144 → Bool) (f144:DenS I144 → DenS O144) {R:Type} (L:Pat.D P334_7 → Option R) (e:OutT X334_7 Q334_7 → Option R) (x:Pat.D P334_7):Option R :=
  let e4_:=(x.1.1,((f333 (x.1.2.1,(x.1.1,()))).1,()))
  let e3_:=((f143 e4_).1,((1:Int),()))
  let e1_:=((f171 e3_).1,(x.1.1,()))
  let e2_:=e3_
  bif (p333 (x.1.2.1,(x.1.1,()))) then
  (bif (p143 e4_) then
  (bif (p171 e2_) then
  (bif (p144 e1_) then
  (bif (decide ((f144 e1_).1 ≥ (0:Int))) then
  ((e (.inl (x.1,()))))
  else (L (((f171 e2_).1,x.1.2),())))
  else none)
  else none)
  else none)
  else none
theorem s334_7 (p185:DenS I185 → Bool) (f185:DenS I185 → DenS O185) (p173:DenS I173 → Bool) (f173:DenS I173 → DenS O173) (p151:DenS I151 → Bool) (f151:DenS I151 → DenS O151) (p186:DenS I186 → Bool) (f186:DenS I186 → DenS O186) (p333:DenS I333 → Bool) (f333:DenS I333 → DenS O333) (p143:DenS I143 → Bool) (f143:DenS I143 → DenS O143) (p171:DenS I171 → Bool) (f171:DenS I171 → DenS O171) (p324:DenS I324 → Bool) (f324:DenS I324 → DenS O324) (p144:DenS I144 → Bool) (f144:DenS I144 → DenS O144) (w334_7:Pat.D P334_7 → Option (OutT X334_7 Q334_7)) (d:Nat) (R:Type) (L:Pat.D P334_7 → Option R) (e:OutT X334_7 Q334_7 → Option R) (x:Pat.D P334_7) :
    lStep { P:=Go.Proofs.Tryd.prog,sums:=[(104,⟨I185,O185,p185,f185⟩),(106,⟨I173,O173,p173,f173⟩),(100,⟨I151,O151,p151,f151⟩),(105,⟨I186,O186,p186,f186⟩),(107,⟨I333,O333,p333,f333⟩),(80,⟨I143,O143,p143,f143⟩),(108,⟨I171,O171,p171,f171⟩),(110,⟨I324,O324,p324,f324⟩),(109,⟨I144,O144,p144,f144⟩)],loops:=[(74,7,LoopSpec.of P334_7 A334_7 X334_7 Q334_7 w334_7)],globs:=G1 } (d + 2) 74 (bodyOf Go.Proofs.Tryd.f74 7) P334_7 A334_7 X334_7 Q334_7 (R:=R) L e x = h334_7 p185 f185 p173 f173 p151 f151 p186 f186 p333 f333 p143 f143 p171 f171 p324 f324 p144 f144 L e x:=by kernel_rfl
theorem m334_7 (p185:DenS I185 → Bool) (f185:DenS I185 → DenS O185) (p173:DenS I173 → Bool) (f173:DenS I173 → DenS O173) (p151:DenS I151 → Bool) (f151:DenS I151 → DenS O151) (p186:DenS I186 → Bool) (f186:DenS I186 → DenS O186) (p333:DenS I333 → Bool) (f333:DenS I333 → DenS O333) (p143:DenS I143 → Bool) (f143:DenS I143 → DenS O143) (p171:DenS I171 → Bool) (f171:DenS I171 → DenS O171) (p324:DenS I324 → Bool) (f324:DenS I324 → DenS O324) (p144:DenS I144 → Bool) (f144:DenS I144 → DenS O144):Par fun L e x=>h334_7 p185 f185 p173 f173 p151 f151 p186 f186 p333 f333 p143 f143 p171 f171 p324 f324 p144 f144 L e x:=by
  intro A B rel L L' e e' h0 hL he x
  unfold h334_7
  repeat' (first | exact h0 | exact hL _ | exact he _ | apply rel_cond | (apply rel_obind h0; intro _) | (apply rel_obind2 <;> intro _))
noncomputable def t334 (p185:DenS I185 → Bool) (f185:DenS I185 → DenS O185) (p173:DenS I173 → Bool) (f173:DenS I173 → DenS O173) (p151:DenS I151 → Bool) (f151:DenS I151 → DenS O151) (p186:DenS I186 → Bool) (f186:DenS I186 → DenS O186) (p333:DenS I333 → Bool) (f333:DenS I333 → DenS O333) (p143:DenS I143 → Bool) (f143:DenS I143 → DenS O143) (p171:DenS I171 → Bool) (f171:DenS I171 → DenS O171) (p324:DenS I324 → Bool) (f324:DenS I324 → DenS O324) (p144:DenS I144 → Bool) (f144:DenS I144 → DenS O144) (w334_7:Pat.D P334_7 → Option (OutT X334_7 Q334_7)) (a0:Den (.slice (.int .u64))):Option (DenS O334) :=
  let e1_:=(((1:Int) :: []),((Vx.quoI Go.IntKind.i64 (Go.IntKind.wrap .i64 ((f151 (f173 (a0,()))).1 + (1:Int))) (2:Int)),()))
  bif (p185 ((a0 :: []),())) then
  (bif (f185 ((a0 :: []),())).1 then
  (some ([],(false,((5:Int),()))))
  else bif (p173 (a0,())) then
  (bif (((f173 (a0,())).1.length:Int) == (0:Int)) then
  (some ([],(true,((0:Int),()))))
  else bif (p151 (f173 (a0,()))) then
  (bif (p186 e1_) then
  (Vx.obind (w334_7 (((f186 e1_).1,(f173 (a0,()))),())) fun y6 =>
  Vx.obind2 y6 (fun y7 =>
  bif (p324 (y7.1.1,(y7.1.1,()))) then
  (bif (p144 ((f324 (y7.1.1,(y7.1.1,()))).1,y7.1.2)) then
  (some (y7.1.1,(((f144 ((f324 (y7.1.1,(y7.1.1,()))).1,y7.1.2)).1 == (0:Int)),((0:Int),()))))
  else none)
  else none) (fun z7 =>
  none))
  else none)
  else none)
  else none)
  else none
theorem r334 (p185:DenS I185 → Bool) (f185:DenS I185 → DenS O185) (p173:DenS I173 → Bool) (f173:DenS I173 → DenS O173) (p151:DenS I151 → Bool) (f151:DenS I151 → DenS O151) (p186:DenS I186 → Bool) (f186:DenS I186 → DenS O186) (p333:DenS I333 → Bool) (f333:DenS I333 → DenS O333) (p143:DenS I143 → Bool) (f143:DenS I143 → DenS O143) (p171:DenS I171 → Bool) (f171:DenS I171 → DenS O171) (p324:DenS I324 → Bool) (f324:DenS I324 → DenS O324) (p144:DenS I144 → Bool) (f144:DenS I144 → DenS O144) (w334_7:Pat.D P334_7 → Option (OutT X334_7 Q334_7)) (a0:Den (.slice (.int .u64))) :
    run { P:=Go.Proofs.Tryd.prog,sums:=[(104,⟨I185,O185,p185,f185⟩),(106,⟨I173,O173,p173,f173⟩),(100,⟨I151,O151,p151,f151⟩),(105,⟨I186,O186,p186,f186⟩),(107,⟨I333,O333,p333,f333⟩),(80,⟨I143,O143,p143,f143⟩),(108,⟨I171,O171,p171,f171⟩),(110,⟨I324,O324,p324,f324⟩),(109,⟨I144,O144,p144,f144⟩)],loops:=[(74,7,LoopSpec.of P334_7 A334_7 X334_7 Q334_7 w334_7)],globs:=G1 } 9 74 Go.Proofs.Tryd.f74 I334 O334 (a0,()) = t334 p185 f185 p173 f173 p151 f151 p186 f186 p333 f333 p143 f143 p171 f171 p324 f324 p144 f144 w334_7 a0:=by kernel_rfl
noncomputable def W334_7:P334_7.D → Option (OutT X334_7 Q334_7):=lfix fun L=>h334_7 S185.pre S185.F S173.pre S173.F S151.pre S151.F S186.pre S186.F S333.pre S333.F S143.pre S143.F S171.pre S171.F S324.pre S324.F S144.pre S144.F L some
noncomputable def T334 (x:DenS I334):Option (DenS O334):=t334 S185.pre S185.F S173.pre S173.F S151.pre S151.F S186.pre S186.F S333.pre S333.F S143.pre S143.F S171.pre S171.F S324.pre S324.F S144.pre S144.F W334_7 x.1
noncomputable def C334:Cfg:={ P:=Go.Proofs.Tryd.prog,sums:=[(104,S185),(106,S173),(100,S151),(105,S186),(107,S333),(80,S143),(108,S171),(110,S324),(109,S144)],loops:=[(74,7,LoopSpec.of P334_7 A334_7 X334_7 Q334_7 W334_7)],globs:=G1 }
noncomputable def S334:Sum:=sumOf I334 O334 T334 (DenS.dflt O334)
theorem S334_sound:Sound Go.Proofs.Tryd.prog G1 74 S334 :=
  fn_sound C334 9 74 Go.Proofs.Tryd.f74 mixedOk (by kernel_rfl) (by kernel_rfl) (by kernel_rfl) ⟨S185_sound,⟨S173_sound,⟨S151_sound,⟨S186_sound,⟨S333_sound,⟨S143_sound,⟨S171_sound,⟨S324_sound,⟨S144_sound,trivial⟩⟩⟩⟩⟩⟩⟩⟩⟩ ⟨rfl,fun d=>loopOk_of (fun L e x=>h334_7 S185.pre S185.F S173.pre S173.F S151.pre S151.F S186.pre S186.F S333.pre S333.F S143.pre S143.F S171.pre S171.F S324.pre S324.F S144.pre S144.F L e x) (m334_7 S185.pre S185.F S173.pre S173.F S151.pre S151.F S186.pre S186.F S333.pre S333.F S143.pre S143.F S171.pre S171.F S324.pre S324.F S144.pre S144.F) (fun R L e x=>s334_7 S185.pre S185.F S173.pre S173.F S151.pre S151.F S186.pre S186.F S333.pre S333.F S143.pre S143.F S171.pre S171.F S324.pre S324.F S144.pre S144.F W334_7 d R L e x),trivial⟩ I334 O334 T334 _ (fun x=>r334 S185.pre S185.F S173.pre S173.F S151.pre S151.F S186.pre S186.F S333.pre S333.F S143.pre S143.F S171.pre S171.F S324.pre S324.F S144.pre S144.F W334_7 x.1)
abbrev I335:Sig:=[(false,.int .i64),(false,.int .i64),(false,.slice (.int .u64)),(false,.int .i64),(false,.bool)]
abbrev O335:Sig:=[(false,.int .u64),(false,.int .i64),(false,.int .i64)]
noncomputable def t335 (p151:DenS I151 → Bool) (f151:DenS I151 → DenS O151) (p141:DenS I141 → Bool) (f141:DenS I141 → DenS O141) (p176:DenS I176 → Bool) (f176:DenS I176 → DenS O176) (p144:DenS I144 → Bool) (f144:DenS I144 → DenS O144) (p122:DenS I122 → Bool) (f122:DenS I122 → DenS O122) (a0:Den (.int .i64)) (a1:Den (.int .i64)) (a2:Den (.slice (.int .u64))) (a3:Den (.int .i64)) (a4:Den (.bool)):Option (DenS O335) :=
  let e13_:=(((0:Int) :: ((0:Int) :: [])).take (0:Nat))
  let e12_:=(Go.IntKind.wrap .i64 ((f151 (a2,())).1 - (128:Int)))
  let e11_:=(e12_,())
  let e10_:=(f141 (a2,e11_))
  let e7_:=((e13_ ++ (e10_.1.take ((0:Int) :: ((0:Int) :: [])).length)) ++ (((0:Int) :: ((0:Int) :: [])).drop ((0:Nat) + (min e10_.1.length ((0:Int) :: ((0:Int) :: [])).length))))
  let e9_:=(e10_.1,e11_)
  let e1_:=(a0,(a1,(false,(((e7_.getD (Int.toNat (1:Int)) (0:Int)),((e7_.getD (Int.toNat (0:Int)) (0:Int)),())),((Go.IntKind.wrap .i64 (a3 + e12_)),((a4 || ((f144 ((f176 e9_).1,(a2,()))).1 != (0:Int))),()))))))
  let e8_:=((e13_ ++ (a2.take ((0:Int) :: ((0:Int) :: [])).length)) ++ (((0:Int) :: ((0:Int) :: [])).drop ((0:Nat) + (min a2.length ((0:Int) :: ((0:Int) :: [])).length))))
  let e2_:=(a0,(a1,(false,(((e8_.getD (Int.toNat (1:Int)) (0:Int)),((e8_.getD (Int.toNat (0:Int)) (0:Int)),())),(a3,(a4,()))))))
  let e3_:=(e7_.length:Int)
  let e4_:=(e8_.length:Int)
  let e5_:=e9_
  let e6_:=e12_
  bif (p151 (a2,())) then
  (bif (decide (e6_ > (0:Int))) then
  (bif (p141 (a2,(e6_,()))) then
  (bif (p176 e5_) then
  (bif ((p144 ((f176 e5_).1,(a2,()))) || (!(bif a4 then false else true))) then
  (bif (decide ((1:Int) < e3_)) then
  (bif (decide ((0:Int) < e3_)) then
  (bif (p122 e1_) then
  (some (f122 e1_))
  else none)
  else none)
  else none)
  else none)
  else none)
  else none)
  else bif (decide ((1:Int) < e4_)) then
  (bif (decide ((0:Int) < e4_)) then
  (bif (p122 e2_) then
  (some (f122 e2_))
  else none)
  else none)
  else none)
  else none
theorem r335 (p151:DenS I151 → Bool) (f151:DenS I151 → DenS O151) (p141:DenS I141 → Bool) (f141:DenS I141 → DenS O141) (p176:DenS I176 → Bool) (f176:DenS I176 → DenS O176) (p144:DenS I144 → Bool) (f144:DenS I144 → DenS O144) (p122:DenS I122 → Bool) (f122:DenS I122 → DenS O122) (a0:Den (.int .i64)) (a1:Den (.int .i64)) (a2:Den (.slice (.int .u64))) (a3:Den (.int .i64)) (a4:Den (.bool)) :
    run { P:=Go.Proofs.Tryd.prog,sums:=[(100,⟨I151,O151,p151,f151⟩),(111,⟨I141,O141,p141,f141⟩),(72,⟨I176,O176,p176,f176⟩),(109,⟨I144,O144,p144,f144⟩),(61,⟨I122,O122,p122,f122⟩)],loops:=[],globs:=G1 } 9 75 Go.Proofs.Tryd.f75 I335 O335 (a0,a1,a2,a3,a4,()) = t335 p151 f151 p141 f141 p176 f176 p144 f144 p122 f122 a0 a1 a2 a3 a4:=by kernel_rfl
noncomputable def T335 (x:DenS I335):Option (DenS O335):=t335 S151.pre S151.F S141.pre S141.F S176.pre S176.F S144.pre S144.F S122.pre S122.F x.1 x.2.1 x.2.2.1 x.2.2.2.1 x.2.2.2.2.1
noncomputable def C335:Cfg:={ P:=Go.Proofs.Tryd.prog,sums:=[(100,S151),(111,S141),(72,S176),(109,S144),(61,S122)],loops:=[],globs:=G1 }
noncomputable def S335:Sum:=sumOf I335 O335 T335 (DenS.dflt O335)
theorem S335_sound:Sound Go.Proofs.Tryd.prog G1 75 S335 :=
  fn_sound C335 9 75 Go.Proofs.Tryd.f75 mixedOk (by kernel_rfl) (by kernel_rfl) (by kernel_rfl) ⟨S151_sound,⟨S141_sound,⟨S176_sound,⟨S144_sound,⟨S122_sound,trivial⟩⟩⟩⟩⟩ trivial I335 O335 T335 _ (fun x=>r335 S151.pre S151.F S141.pre S141.F S176.pre S176.F S144.pre S144.F S122.pre S122.F x.1 x.2.1 x.2.2.1 x.2.2.2.1 x.2.2.2.2.1)
abbrev I336:Sig:=[(false,.int .i64),(false,.int .i64),(false,.int .u64),(false,.int .u64)]
abbrev O336:Sig:=[(false,.int .u64),(false,.int .i64),(false,.int .i64)]
noncomputable def t336 (p311:DenS I311 → Bool) (f311:DenS I311 → DenS O311) (p65:DenS I65 → Bool) (f65:DenS I65 → DenS O65) (p323:DenS I323 → Bool) (f323:DenS I323 → DenS O323) (p97:DenS I97 → Bool) (f97:DenS I97 → DenS O97) (p70:DenS I70 → Bool) (f70:DenS I70 → DenS O70) (p313:DenS I313 → Bool) (f313:DenS I313 → DenS O313) (p118:DenS I118 → Bool) (f118:DenS I118 → DenS O118) (p326:DenS I326 → Bool) (f326:DenS I326 → DenS O326) (p143:DenS I143 → Bool) (f143:DenS I143 → DenS O143) (p176:DenS I176 → Bool) (f176:DenS I176 → DenS O176) (p334:DenS I334 → Bool) (f334:DenS I334 → DenS O334) (p335:DenS I335 → Bool) (f335:DenS I335 → DenS O335) (a0:Den (.int .i64)) (a1:Den (.int .i64)) (a2:Den (.int .u64)) (a3:Den (.int .u64)):Option (DenS O336) :=
  let e37_:=(a0,((f311 (a0,(a1,((a2 :: (a3 :: [])),())))).1,(a2,())))
  let e35_:=(f313 e37_)
  let e36_:=(a0,((f311 (a0,(a1,((a2 :: (a3 :: [])),())))).1,(a3,())))
  let e34_:=(f313 e36_)
  let e29_:=(if (e34_.2.1 < e35_.2.1) then e34_.2.1 else e35_.2.1)
  let e27_:=(e35_.1,((Go.IntKind.wrap .i64 (e35_.2.1 - e29_)),()))
  let e28_:=(e34_.1,((Go.IntKind.wrap .i64 (e34_.2.1 - e29_)),()))
  let e20_:=((f143 ((f326 e27_).1,(f326 e28_))).1,((128:Int),()))
  let e19_:=(f334 ((f176 e20_).1,()))
  let e1_:=(a0,(a1,(e19_.1,((Go.IntKind.wrap .i64 (e29_ - (64:Int))),((!e19_.2.1),())))))
  let e30_:=(e35_.1,((Go.IntKind.wrap .i64 (e35_.2.1 - e35_.2.1)),()))
  let e31_:=(e34_.1,((Go.IntKind.wrap .i64 (e34_.2.1 - e35_.2.1)),()))
  let e26_:=((f326 e30_).1,(f326 e31_))
  let e24_:=((f143 e26_).1,((128:Int),()))
  let e23_:=((f176 e24_).1,())
  let e22_:=(f334 e23_)
  let e18_:=(a0,(a1,(e22_.1,((Go.IntKind.wrap .i64 (e35_.2.1 - (64:Int))),((!e22_.2.1),())))))
  let e2_:=(p335 e18_)
  let e3_:=(f335 e18_)
  let e32_:=(e35_.1,((Go.IntKind.wrap .i64 (e35_.2.1 - e34_.2.1)),()))
  let e33_:=(e34_.1,((Go.IntKind.wrap .i64 (e34_.2.1 - e34_.2.1)),()))
  let e25_:=((f143 ((f326 e32_).1,(f326 e33_))).1,((128:Int),()))
  let e21_:=(f334 ((f176 e25_).1,()))
  let e4_:=(a0,(a1,(e21_.1,((Go.IntKind.wrap .i64 (e34_.2.1 - (64:Int))),((!e21_.2.1),())))))
  let e5_:=e20_
  let e6_:=(p334 e23_)
  let e7_:=(p176 e24_)
  let e8_:=e25_
  let e9_:=(p143 e26_)
  let e10_:=e27_
  let e11_:=e28_
  let e12_:=(p326 e30_)
  let e13_:=(p326 e31_)
  let e14_:=e32_
  let e15_:=e33_
  let e16_:=(e34_.1 == (0:Int))
  let e17_:=(e35_.1 == (0:Int))
  bif (p311 (a0,(a1,((a2 :: (a3 :: [])),())))) then
  (bif ((f311 (a0,(a1,((a2 :: (a3 :: [])),())))).2.1 != (0:Int)) then
  (some ((0:Int),((0:Int),(f311 (a0,(a1,((a2 :: (a3 :: [])),())))).2)))
  else bif (p65 (a0,(a2,()))) then
  (bif (p65 (a0,(a3,()))) then
  (bif (((f65 (a0,(a2,()))).1 == (0:Int)) || ((f65 (a0,(a3,()))).1 == (0:Int))) then
  (bif (p70 (a0,())) then
  (some ((f70 (a0,())).1,((1:Int),(f70 (a0,())).2)))
  else none)
  else bif (p323 ((f65 (a0,(a2,()))).1,())) then
  (bif ((p323 ((f65 (a0,(a3,()))).1,())) || (!(bif (f323 ((f65 (a0,(a2,()))).1,())).1 then false else true))) then
  (bif ((f323 ((f65 (a0,(a2,()))).1,())).1 || (f323 ((f65 (a0,(a3,()))).1,())).1) then
  (bif (p97 (a0,(false,()))) then
  (some ((f97 (a0,(false,()))).1,((0:Int),(f97 (a0,(false,()))).2)))
  else none)
  else bif (((f65 (a0,(a2,()))).1 == (1:Int)) || ((f65 (a0,(a3,()))).1 == (1:Int))) then
  (bif (p70 (a0,())) then
  (some ((f70 (a0,())).1,((0:Int),(f70 (a0,())).2)))
  else none)
  else bif (p313 e37_) then
  (bif (p313 e36_) then
  (bif (e17_ && e16_) then
  (bif (p118 (a0,(false,()))) then
  (some ((f118 (a0,(false,()))).1,((0:Int),(f118 (a0,(false,()))).2)))
  else none)
  else bif e17_ then
  (bif e16_ then
  (bif e12_ then
  (bif e13_ then
  (bif e9_ then
  (bif e7_ then
  (bif e6_ then
  (bif e2_ then
  (some e3_)
  else none)
  else none)
  else none)
  else none)
  else none)
  else none)
  else bif (p326 e14_) then
  (bif (p326 e15_) then
  (bif (p143 ((f326 e14_).1,(f326 e15_))) then
  (bif (p176 e8_) then
  (bif (p334 ((f176 e8_).1,())) then
  (bif (p335 e4_) then
  (some (f335 e4_))
  else none)
  else none)
  else none)
  else none)
  else none)
  else none)
  else bif e16_ then
  (bif e12_ then
  (bif e13_ then
  (bif e9_ then
  (bif e7_ then
  (bif e6_ then
  (bif e2_ then
  (some e3_)
  else none)
  else none)
  else none)
  else none)
  else none)
  else none)
  else bif (p326 e10_) then
  (bif (p326 e11_) then
  (bif (p143 ((f326 e10_).1,(f326 e11_))) then
  (bif (p176 e5_) then
  (bif (p334 ((f176 e5_).1,())) then
  (bif (p335 e1_) then
  (some (f335 e1_))
  else none)
  else none)
  else none)
  else none)
  else none)
  else none)
  else none)
  else none)
  else none)
  else none)
  else none)
  else none)
  else none
theorem r336 (p311:DenS I311 → Bool) (f311:DenS I311 → DenS O311) (p65:DenS I65 → Bool) (f65:DenS I65 → DenS O65) (p323:DenS I323 → Bool) (f323:DenS I323 → DenS O323) (p97:DenS I97 → Bool) (f97:DenS I97 → DenS O97) (p70:DenS I70 → Bool) (f70:DenS I70 → DenS O70) (p313:DenS I313 → Bool) (f313:DenS I313 → DenS O313) (p118:DenS I118 → Bool) (f118:DenS I118 → DenS O118) (p326:DenS I326 → Bool) (f326:DenS I326 → DenS O326) (p143:DenS I143 → Bool) (f143:DenS I143 → DenS O143) (p176:DenS I176 → Bool) (f176:DenS I176 → DenS O176) (p334:DenS I334 → Bool) (f334:DenS I334 → DenS O334) (p335:DenS I335 → Bool) (f335:DenS I335 → DenS O335) (a0:Den (.int .i64)) (a1:Den (.int .i64)) (a2:Den (.int .u64)) (a3:Den (.int .u64)) :
    run { P:=Go.Proofs.Tryd.prog,sums:=[(66,⟨I311,O311,p311,f311⟩),(26,⟨I65,O65,p65,f65⟩),(79,⟨I323,O323,p323,f323⟩),(60,⟨I97,O97,p97,f97⟩),(45,⟨I70,O70,p70,f70⟩),(68,⟨I313,O313,p313,f313⟩),(33,⟨I118,O118,p118,f118⟩),(81,⟨I326,O326,p326,f326⟩),(80,⟨I143,O143,p143,f143⟩),(72,⟨I176,O176,p176,f176⟩),(74,⟨I334,O334,p334,f334⟩),(75,⟨I335,O335,p335,f335⟩)],loops:=[],globs:=G1 } 9 34 Go.Proofs.Tryd.f34 I336 O336 (a0,a1,a2,a3,()) = t336 p311 f311 p65 f65 p323 f323 p97 f97 p70 f70 p313 f313 p118 f118 p326 f326 p143 f143 p176 f176 p334 f334 p335 f335 a0 a1 a2 a3:=by kernel_rfl
noncomputable def T336 (x:DenS I336):Option (DenS O336):=t336 S311.pre S311.F S65.pre S65.F S323.pre S323.F S97.pre S97.F S70.pre S70.F S313.pre S313.F S118.pre S118.F S326.pre S326.F S143.pre S143.F S176.pre S176.F S334.pre S334.F S335.pre S335.F x.1 x.2.1 x.2.2.1 x.2.2.2.1
noncomputable def C336:Cfg:={ P:=Go.Proofs.Tryd.prog,sums:=[(66,S311),(26,S65),(79,S323),(60,S97),(45,S70),(68,S313),(33,S118),(81,S326),(80,S143),(72,S176),(74,S334),(75,S335)],loops:=[],globs:=G1 }
noncomputable def S336:Sum:=sumOf I336 O336 T336 (DenS.dflt O336)
theorem S336_sound:Sound Go.Proofs.Tryd.prog G1 34 S336 :=
  fn_sound C336 9 34 Go.Proofs.Tryd.f34 mixedOk (by kernel_rfl) (by kernel_rfl) (by kernel_rfl) ⟨S311_sound,⟨S65_sound,⟨S323_sound,⟨S97_sound,⟨S70_sound,⟨S313_sound,⟨S118_sound,⟨S326_sound,⟨S143_sound,⟨S176_sound,⟨S334_sound,⟨S335_sound,trivial⟩⟩⟩⟩⟩⟩⟩⟩⟩⟩⟩⟩ trivial I336 O336 T336 _ (fun x=>r336 S311.pre S311.F S65.pre S65.F S323.pre S323.F S97.pre S97.F S70.pre S70.F S313.pre S313.F S118.pre S118.F S326.pre S326.F S143.pre S143.F S176.pre S176.F S334.pre S334.F S335.pre S335.F x.1 x.2.1 x.2.2.1 x.2.2.2.1)
abbrev I337:Sig:=[]
abbrev O337:Sig:=[(false,.bool)]
noncomputable def t337 (p318:DenS I318 → Bool) (f318:DenS I318 → DenS O318) (p336:DenS I336 → Bool) (f336:DenS I336 → DenS O336):Option (DenS O337) :=
  let e3_:=((0:Int),((0:Int),((16896:Int),((50176:Int),()))))
  let e1_:=(f336 e3_)
  let e2_:=(f318 ((0:Int),((0:Int),((16384:Int),()))))
  bif (p318 ((0:Int),((0:Int),((16384:Int),())))) then
  (bif (p336 e3_) then
  (some (((((((e2_.1 == (15784:Int)) && (e2_.2.1 == (16:Int))) && (e2_.2.2.1 == (0:Int))) && (e1_.1 == (17664:Int))) && (e1_.2.1 == (0:Int))) && (e1_.2.2.1 == (0:Int))),()))
  else none)
  else none
theorem r337 (p318:DenS I318 → Bool) (f318:DenS I318 → DenS O318) (p336:DenS I336 → Bool) (f336:DenS I336 → DenS O336) :
    run { P:=Go.Proofs.Tryd.prog,sums:=[(30,⟨I318,O318,p318,f318⟩),(34,⟨I336,O336,p336,f336⟩)],loops:=[],globs:=G1 } 9 27 Go.Proofs.Tryd.f27 I337 O337 (()) = t337 p318 f318 p336 f336:=by kernel_rfl
noncomputable def T337 (x:DenS I337):Option (DenS O337):=t337 S318.pre S318.F S336.pre S336.F
noncomputable def C337:Cfg:={ P:=Go.Proofs.Tryd.prog,sums:=[(30,S318),(34,S336)],loops:=[],globs:=G1 }
noncomputable def S337:Sum:=sumOf I337 O337 T337 (DenS.dflt O337)
theorem S337_sound:Sound Go.Proofs.Tryd.prog G1 27 S337 :=
  fn_sound C337 9 27 Go.Proofs.Tryd.f27 mixedOk (by kernel_rfl) (by kernel_rfl) (by kernel_rfl) ⟨S318_sound,⟨S336_sound,trivial⟩⟩ trivial I337 O337 T337 _ (fun x=>r337 S318.pre S318.F S336.pre S336.F)
abbrev I345:Sig:=[(false,.slice (.int .u64)),(false,.slice (.int .u64))]
abbrev O345:Sig:=[(false,.slice (.int .u64)),(false,.slice (.int .u64)),(false,.int .i64)]
noncomputable def t345 (p185:DenS I185 → Bool) (f185:DenS I185 → DenS O185) (p173:DenS I173 → Bool) (f173:DenS I173 → DenS O173) (p333:DenS I333 → Bool) (f333:DenS I333 → DenS O333) (a0:Den (.slice (.int .u64))) (a1:Den (.slice (.int .u64))):Option (DenS O345) :=
  bif (p185 ((a0 :: (a1 :: [])),())) then
  (bif (f185 ((a0 :: (a1 :: [])),())).1 then
  (some ([],([],((5:Int),()))))
  else bif (p173 (a1,())) then
  (bif (((f173 (a1,())).1.length:Int) == (0:Int)) then
  (some ([],([],((10:Int),()))))
  else bif (p333 (a0,(a1,()))) then
  (some ((f333 (a0,(a1,()))).1,((f333 (a0,(a1,()))).2.1,((0:Int),()))))
  else none)
  else none)
  else none
theorem r345 (p185:DenS I185 → Bool) (f185:DenS I185 → DenS O185) (p173:DenS I173 → Bool) (f173:DenS I173 → DenS O173) (p333:DenS I333 → Bool) (f333:DenS I333 → DenS O333) (a0:Den (.slice (.int .u64))) (a1:Den (.slice (.int .u64))) :
    run { P:=Go.Proofs.Tryd.prog,sums:=[(104,⟨I185,O185,p185,f185⟩),(106,⟨I173,O173,p173,f173⟩),(107,⟨I333,O333,p333,f333⟩)],loops:=[],globs:=G1 } 9 73 Go.Proofs.Tryd.f73 I345 O345 (a0,a1,()) = t345 p185 f185 p173 f173 p333 f333 a0 a1:=by kernel_rfl
noncomputable def T345 (x:DenS I345):Option (DenS O345):=t345 S185.pre S185.F S173.pre S173.F S333.pre S333.F x.1 x.2.1
noncomputable def C345:Cfg:={ P:=Go.Proofs.Tryd.prog,sums:=[(104,S185),(106,S173),(107,S333)],loops:=[],globs:=G1 }
noncomputable def S345:Sum:=sumOf I345 O345 T345 (DenS.dflt O345)
theorem S345_sound:Sound Go.Proofs.Tryd.prog G1 73 S345 :=
  fn_sound C345 9 73 Go.Proofs.Tryd.f73 mixedOk (by kernel_rfl) (by kernel_rfl) (by kernel_rfl) ⟨S185_sound,⟨S173_sound,⟨S333_sound,trivial⟩⟩⟩ trivial I345 O345 T345 _ (fun x=>r345 S185.pre S185.F S173.pre S173.F S333.pre S333.F x.1 x.2.1)
abbrev I346:Sig:=[(false,.int .i64),(false,.int .i64),(false,.int .u64)]
abbrev O346:Sig:=[(false,.int .u64),(false,.int .i64),(false,.int .i64)]
noncomputable def t346 (p311:DenS I311 → Bool) (f311:DenS I311 → DenS O311) (p65:DenS I65 → Bool) (f65:DenS I65 → DenS O65) (p312:DenS I312 → Bool) (f312:DenS I312 → DenS O312) (p118:DenS I118 → Bool) (f118:DenS I118 → DenS O118) (p97:DenS I97 → Bool) (f97:DenS I97 → DenS O97) (p313:DenS I313 → Bool) (f313:DenS I313 → DenS O313) (p176:DenS I176 → Bool) (f176:DenS I176 → DenS O176) (p345:DenS I345 → Bool) (f345:DenS I345 → DenS O345) (p334:DenS I334 → Bool) (f334:DenS I334 → DenS O334) (p335:DenS I335 → Bool) (f335:DenS I335 → DenS O335) (a0:Den (.int .i64)) (a1:Den (.int .i64)) (a2:Den (.int .u64)):Option (DenS O346) :=
  let e25_:=(a0,((f311 (a0,(a1,((a2 :: []),())))).1,(a2,())))
  let e23_:=(f313 e25_)
  let e18_:=((f176 (((1:Int) :: []),((240:Int),()))).1,(((Go.IntKind.wrap .u64 ((2:Int) * e23_.1)) :: []),()))
  let e17_:=(f345 e18_)
  let e16_:=(e17_.1,())
  let e15_:=(f334 e16_)
  let e13_:=(a0,(a1,(e15_.1,((Go.IntKind.wrap .i64 ((-(120:Int)) - (Vx.quoI Go.IntKind.i64 (Go.IntKind.wrap .i64 (e23_.2.1 - (1:Int))) (2:Int)))),(((!e15_.2.1) || (decide ((e17_.2.1.length:Int) > (0:Int)))),())))))
  let e1_:=(p335 e13_)
  let e2_:=(f335 e13_)
  let e22_:=((f176 (((1:Int) :: []),((240:Int),()))).1,((e23_.1 :: []),()))
  let e21_:=(f345 e22_)
  let e20_:=(e21_.1,())
  let e19_:=(f334 e20_)
  let e14_:=(a0,(a1,(e19_.1,((Go.IntKind.wrap .i64 ((-(120:Int)) - (Vx.quoI Go.IntKind.i64 e23_.2.1 (2:Int)))),(((!e19_.2.1) || (decide ((e21_.2.1.length:Int) > (0:Int)))),())))))
  let e3_:=(p335 e14_)
  let e4_:=(f335 e14_)
  let e5_:=(p334 e16_)
  let e6_:=(p345 e18_)
  let e7_:=(p334 e20_)
  let e8_:=(p345 e22_)
  let e26_:=(a0,(((f65 (a0,(a2,()))).1 == (5:Int)),()))
  let e24_:=(f97 e26_)
  let e9_:=(e24_.1,((2:Int),e24_.2))
  let e10_:=((Int.tmod e23_.2.1 (2:Int)) != (0:Int))
  let e11_:=(p313 e25_)
  let e12_:=(p97 e26_)
  bif (p311 (a0,(a1,((a2 :: []),())))) then
  (bif ((f311 (a0,(a1,((a2 :: []),())))).2.1 != (0:Int)) then
  (some ((0:Int),((0:Int),(f311 (a0,(a1,((a2 :: []),())))).2)))
  else bif (p65 (a0,(a2,()))) then
  (bif (p312 (a0,((f65 (a0,(a2,()))).1,()))) then
  (bif (f312 (a0,((f65 (a0,(a2,()))).1,()))).2.2.1 then
  (some ((f312 (a0,((f65 (a0,(a2,()))).1,()))).1,((f312 (a0,((f65 (a0,(a2,()))).1,()))).2.1,((0:Int),()))))
  else bif ((f65 (a0,(a2,()))).1 == (9:Int)) then
  (bif (p118 (a0,(false,()))) then
  (some ((f118 (a0,(false,()))).1,((0:Int),(f118 (a0,(false,()))).2)))
  else none)
  else bif ((f65 (a0,(a2,()))).1 == (6:Int)) then
  (bif ((f65 (a0,(a2,()))).1 == (6:Int)) then
  (bif e12_ then
  (some e9_)
  else none)
  else bif e11_ then
  (bif e10_ then
  (bif (p176 (((1:Int) :: []),((240:Int),()))) then
  (bif e6_ then
  (bif e5_ then
  (bif e1_ then
  (some e2_)
  else none)
  else none)
  else none)
  else none)
  else bif (p176 (((1:Int) :: []),((240:Int),()))) then
  (bif e8_ then
  (bif e7_ then
  (bif e3_ then
  (some e4_)
  else none)
  else none)
  else none)
  else none)
  else none)
  else bif ((f65 (a0,(a2,()))).1 == (5:Int)) then
  (bif e12_ then
  (some e9_)
  else none)
  else bif e11_ then
  (bif e10_ then
  (bif (p176 (((1:Int) :: []),((240:Int),()))) then
  (bif e6_ then
  (bif e5_ then
  (bif e1_ then
  (some e2_)
  else none)
  else none)
  else none)
  else none)
  else bif (p176 (((1:Int) :: []),((240:Int),()))) then
  (bif e8_ then
  (bif e7_ then
  (bif e3_ then
  (some e4_)
  else none)
  else none)
  else none)
  else none)
  else none)
  else none)
  else none)
  else none
theorem r346 (p311:DenS I311 → Bool) (f311:DenS I311 → DenS O311) (p65:DenS I65 → Bool) (f65:DenS I65 → DenS O65) (p312:DenS I312 → Bool) (f312:DenS I312 → DenS O312) (p118:DenS I118 → Bool) (f118:DenS I118 → DenS O118) (p97:DenS I97 → Bool) (f97:DenS I97 → DenS O97) (p313:DenS I313 → Bool) (f313:DenS I313 → DenS O313) (p176:DenS I176 → Bool) (f176:DenS I176 → DenS O176) (p345:DenS I345 → Bool) (f345:DenS I345 → DenS O345) (p334:DenS I334 → Bool) (f334:DenS I334 → DenS O334) (p335:DenS I335 → Bool) (f335:DenS I335 → DenS O335) (a0:Den (.int .i64)) (a1:Den (.int .i64)) (a2:Den (.int .u64)) :
    run { P:=Go.Proofs.Tryd.prog,sums:=[(66,⟨I311,O311,p311,f311⟩),(26,⟨I65,O65,p65,f65⟩),(67,⟨I312,O312,p312,f312⟩),(33,⟨I118,O118,p118,f118⟩),(60,⟨I97,O97,p97,f97⟩),(68,⟨I313,O313,p313,f313⟩),(72,⟨I176,O176,p176,f176⟩),(73,⟨I345,O345,p345,f345⟩),(74,⟨I334,O334,p334,f334⟩),(75,⟨I335,O335,p335,f335⟩)],loops:=[],globs:=G1 } 9 31 Go.Proofs.Tryd.f31 I346 O346 (a0,a1,a2,()) = t346 p311 f311 p65 f65 p312 f312 p118 f118 p97 f97 p313 f313 p176 f176 p345 f345 p334 f334 p335 f335 a0 a1 a2:=by kernel_rfl
noncomputable def T346 (x:DenS I346):Option (DenS O346):=t346 S311.pre S311.F S65.pre S65.F S312.pre S312.F S118.pre S118.F S97.pre S97.F S313.pre S313.F S176.pre S176.F S345.pre S345.F S334.pre S334.F S335.pre S335.F x.1 x.2.1 x.2.2.1
noncomputable def C346:Cfg:={ P:=Go.Proofs.Tryd.prog,sums:=[(66,S311),(26,S65),(67,S312),(33,S118),(60,S97),(68,S313),(72,S176),(73,S345),(74,S334),(75,S335)],loops:=[],globs:=G1 }
noncomputable def S346:Sum:=sumOf I346 O346 T346 (DenS.dflt O346)
theorem S346_sound:Sound Go.Proofs.Tryd.prog G1 31 S346 :=
  fn_sound C346 9 31 Go.Proofs.Tryd.f31 mixedOk (by kernel_rfl) (by kernel_rfl) (by kernel_rfl) ⟨S311_sound,⟨S65_sound,⟨S312_sound,⟨S118_sound,⟨S97_sound,⟨S313_sound,⟨S176_sound,⟨S345_sound,⟨S334_sound,⟨S335_sound,trivial⟩⟩⟩⟩⟩⟩⟩⟩⟩⟩ trivial I346 O346 T346 _ (fun x=>r346 S311.pre S311.F S65.pre S65.F S312.pre S312.F S118.pre S118.F S97.pre S97.F S313.pre S313.F S176.pre S176.F S345.pre S345.F S334.pre S334.F S335.pre S335.F x.1 x.2.1 x.2.2.1)
abbrev I47:Sig:=[(true,.pair (.bool) (.pair (.slice (.int .u64)) (.pair (.int .i64) (.unit))))]
abbrev O47:Sig:=[(false,.int .i64)]
noncomputable def t47 (p102:DenS I102 → Bool) (f102:DenS I102 → DenS O102) (a0:Den (.pair (.bool) (.pair (.slice (.int .u64)) (.pair (.int .i64) (.unit))))):Option (DenS O47) :=
  bif (p102 (a0.2.1,())) then
  (bif (((f102 (a0.2.1,())).1.length:Int) == (0:Int)) then
  (some ((0:Int),()))
  else bif a0.1 then
  (some ((-(1:Int)),()))
  else some ((1:Int),()))
  else none
theorem r47 (p102:DenS I102 → Bool) (f102:DenS I102 → DenS O102) (a0:Den (.pair (.bool) (.pair (.slice (.int .u64)) (.pair (.int .i64) (.unit))))) :
    run { P:=Go.Proofs.Tryd.prog,sums:=[(99,⟨I102,O102,p102,f102⟩)],loops:=[],globs:=G1 } 9 82 Go.Proofs.Tryd.f82 I47 O47 (a0,()) = t47 p102 f102 a0:=by kernel_rfl
noncomputable def T47 (x:DenS I47):Option (DenS O47):=t47 S102.pre S102.F x.1
noncomputable def C47:Cfg:={ P:=Go.Proofs.Tryd.prog,sums:=[(99,S102)],loops:=[],globs:=G1 }
noncomputable def S47:Sum:=sumOf I47 O47 T47 (DenS.dflt O47)
theorem S47_sound:Sound Go.Proofs.Tryd.prog G1 82 S47 :=
  fn_sound C47 9 82 Go.Proofs.Tryd.f82 mixedOk (by kernel_rfl) (by kernel_rfl) (by kernel_rfl) ⟨S102_sound,trivial⟩ trivial I47 O47 T47 _ (fun x=>r47 S102.pre S102.F x.1)
abbrev I359:Sig:=[(false,.int .i64),(false,.int .u64)]
abbrev O359:Sig:=[(true,.pair (.bool) (.pair (.slice (.int .u64)) (.pair (.int .i64) (.unit)))),(false,.bool)]
noncomputable def t359 (p40:DenS I40 → Bool) (f40:DenS I40 → DenS O40) (p47:DenS I47 → Bool) (f47:DenS I47 → DenS O47) (a0:Den (.int .i64)) (a1:Den (.int .u64)):Option (DenS O359) :=
  bif (p40 (a0,(a1,()))) then
  (bif ((p47 ((f40 (a0,(a1,()))).1,())) || (!(decide ((f40 (a0,(a1,()))).2.1 = (0:Int))))) then
  (some ((f40 (a0,(a1,()))).1,((((f40 (a0,(a1,()))).2.1 == (0:Int)) && (decide ((f47 ((f40 (a0,(a1,()))).1,())).1 > (0:Int)))),())))
  else none)
  else none
theorem r359 (p40:DenS I40 → Bool) (f40:DenS I40 → DenS O40) (p47:DenS I47 → Bool) (f47:DenS I47 → DenS O47) (a0:Den (.int .i64)) (a1:Den (.int .u64)) :
    run { P:=Go.Proofs.Tryd.prog,sums:=[(29,⟨I40,O40,p40,f40⟩),(82,⟨I47,O47,p47,f47⟩)],loops:=[],globs:=G1 } 9 35 Go.Proofs.Tryd.f35 I359 O359 (a0,a1,()) = t359 p40 f40 p47 f47 a0 a1:=by kernel_rfl
noncomputable def T359 (x:DenS I359):Option (DenS O359):=t359 S40.pre S40.F S47.pre S47.F x.1 x.2.1
noncomputable def C359:Cfg:={ P:=Go.Proofs.Tryd.prog,sums:=[(29,S40),(82,S47)],loops:=[],globs:=G1 }
noncomputable def S359:Sum:=sumOf I359 O359 T359 (DenS.dflt O359)
theorem S359_sound:Sound Go.Proofs.Tryd.prog G1 35 S359 :=
  fn_sound C359 9 35 Go.Proofs.Tryd.f35 mixedOk (by kernel_rfl) (by kernel_rfl) (by kernel_rfl) ⟨S40_sound,⟨S47_sound,trivial⟩⟩ trivial I359 O359 T359 _ (fun x=>r359 S40.pre S40.F S47.pre S47.F x.1 x.2.1)
abbrev I99:Sig:=[(true,.pair (.bool) (.pair (.slice (.int .u64)) (.pair (.int .i64) (.unit)))),(true,.pair (.bool) (.pair (.slice (.int .u64)) (.pair (.int .i64) (.unit))))]
abbrev O99:Sig:=[(false,.int .i64)]
noncomputable def t99 (p103:DenS I103 → Bool) (f103:DenS I103 → DenS O103) (a0:Den (.pair (.bool) (.pair (.slice (.int .u64)) (.pair (.int .i64) (.unit))))) (a1:Den (.pair (.bool) (.pair (.slice (.int .u64)) (.pair (.int .i64) (.unit))))):Option (DenS O99) :=
  bif (p103 ((a0.1,a0.2),())) then
  (bif ((f103 ((a0.1,a0.2),())).1 != (0:Int)) then
  (some (f103 ((a0.1,a0.2),())))
  else bif (p103 ((a1.1,a1.2),())) then
  (some (f103 ((a1.1,a1.2),())))
  else none)
  else none
theorem r99 (p103:DenS I103 → Bool) (f103:DenS I103 → DenS O103) (a0:Den (.pair (.bool) (.pair (.slice (.int .u64)) (.pair (.int .i64) (.unit))))) (a1:Den (.pair (.bool) (.pair (.slice (.int .u64)) (.pair (.int .i64) (.unit))))) :
    run { P:=Go.Proofs.Tryd.prog,sums:=[(113,⟨I103,O103,p103,f103⟩)],loops:=[],globs:=G1 } 9 84 Go.Proofs.Tryd.f84 I99 O99 (a0,a1,()) = t99 p103 f103 a0 a1:=by kernel_rfl
noncomputable def T99 (x:DenS I99):Option (DenS O99):=t99 S103.pre S103.F x.1 x.2.1
noncomputable def C99:Cfg:={ P:=Go.Proofs.Tryd.prog,sums:=[(113,S103)],loops:=[],globs:=G1 }
noncomputable def S99:Sum:=sumOf I99 O99 T99 (DenS.dflt O99)
theorem S99_sound:Sound Go.Proofs.Tryd.prog G1 84 S99 :=
  fn_sound C99 9 84 Go.Proofs.Tryd.f84 mixedOk (by kernel_rfl) (by kernel_rfl) (by kernel_rfl) ⟨S103_sound,trivial⟩ trivial I99 O99 T99 _ (fun x=>r99 S103.pre S103.F x.1 x.2.1)
abbrev I360:Sig:=[(true,.pair (.bool) (.pair (.slice (.int .u64)) (.pair (.int .i64) (.unit)))),(true,.pair (.bool) (.pair (.slice (.int .u64)) (.pair (.int .i64) (.unit))))]
abbrev O360:Sig:=[(true,.pair (.bool) (.pair (.slice (.int .u64)) (.pair (.int .i64) (.unit)))),(false,.int .i64)]
noncomputable def t360 (p99:DenS I99 → Bool) (f99:DenS I99 → DenS O99) (p100:DenS I100 → Bool) (f100:DenS I100 → DenS O100) (p325:DenS I325 → Bool) (f325:DenS I325 → DenS O325) (p104:DenS I104 → Bool) (f104:DenS I104 → DenS O104) (a0:Den (.pair (.bool) (.pair (.slice (.int .u64)) (.pair (.int .i64) (.unit))))) (a1:Den (.pair (.bool) (.pair (.slice (.int .u64)) (.pair (.int .i64) (.unit))))):Option (DenS O360) :=
  let e4_:=((f100 ((a0.1,a0.2),())).1.2.1,((f100 ((a1.1,a1.2),())).1.2.1,()))
  let e3_:=(f325 e4_)
  let e1_:=(((!((f100 ((a0.1,a0.2),())).1.1 == (f100 ((a1.1,a1.2),())).1.1)),(e3_.1,((Go.IntKind.wrap .i64 ((f100 ((a0.1,a0.2),())).1.2.2.1 + (f100 ((a1.1,a1.2),())).1.2.2.1)),()))),())
  let e2_:=e3_
  bif (p99 ((a0.1,a0.2),((a1.1,a1.2),()))) then
  (bif ((f99 ((a0.1,a0.2),((a1.1,a1.2),()))).1 != (0:Int)) then
  (some ((false,([],((0:Int),()))),(f99 ((a0.1,a0.2),((a1.1,a1.2),())))))
  else bif (p100 ((a0.1,a0.2),())) then
  (bif (p100 ((a1.1,a1.2),())) then
  (bif (p325 e4_) then
  (bif (e2_.2.1 != (0:Int)) then
  (some ((false,([],((0:Int),()))),e2_.2))
  else bif (p104 e1_) then
  (some (f104 e1_))
  else none)
  else none)
  else none)
  else none)
  else none
theorem r360 (p99:DenS I99 → Bool) (f99:DenS I99 → DenS O99) (p100:DenS I100 → Bool) (f100:DenS I100 → DenS O100) (p325:DenS I325 → Bool) (f325:DenS I325 → DenS O325) (p104:DenS I104 → Bool) (f104:DenS I104 → DenS O104) (a0:Den (.pair (.bool) (.pair (.slice (.int .u64)) (.pair (.int .i64) (.unit))))) (a1:Den (.pair (.bool) (.pair (.slice (.int .u64)) (.pair (.int .i64) (.unit))))) :
    run { P:=Go.Proofs.Tryd.prog,sums:=[(84,⟨I99,O99,p99,f99⟩),(85,⟨I100,O100,p100,f100⟩),(86,⟨I325,O325,p325,f325⟩),(87,⟨I104,O104,p104,f104⟩)],loops:=[],globs:=G1 } 9 38 Go.Proofs.Tryd.f38 I360 O360 (a0,a1,()) = t360 p99 f99 p100 f100 p325 f325 p104 f104 a0 a1:=by kernel_rfl
noncomputable def T360 (x:DenS I360):Option (DenS O360):=t360 S99.pre S99.F S100.pre S100.F S325.pre S325.F S104.pre S104.F x.1 x.2.1
noncomputable def C360:Cfg:={ P:=Go.Proofs.Tryd.prog,sums:=[(84,S99),(85,S100),(86,S325),(87,S104)],loops:=[],globs:=G1 }
noncomputable def S360:Sum:=sumOf I360 O360 T360 (DenS.dflt O360)
theorem S360_sound:Sound Go.Proofs.Tryd.prog G1 38 S360 :=
  fn_sound C360 9 38 Go.Proofs.Tryd.f38 mixedOk (by kernel_rfl) (by kernel_rfl) (by kernel_rfl) ⟨S99_sound,⟨S100_sound,⟨S325_sound,⟨S104_sound,trivial⟩⟩⟩⟩ trivial I360 O360 T360 _ (fun x=>r360 S99.pre S99.F S100.pre S100.F S325.pre S325.F S104.pre S104.F x.1 x.2.1)
abbrev I361:Sig:=[(true,.pair (.bool) (.pair (.slice (.int .u64)) (.pair (.int .i64) (.unit))))]
abbrev O361:Sig:=[(true,.pair (.bool) (.pair (.slice (.int .u64)) (.pair (.int .i64) (.unit))))]
noncomputable def t361 (p360:DenS I360 → Bool) (f360:DenS I360 → DenS O360) (a0:Den (.pair (.bool) (.pair (.slice (.int .u64)) (.pair (.int .i64) (.unit))))):Option (DenS O361) :=
  bif (p360 ((a0.1,a0.2),((a0.1,a0.2),()))) then
  (some ((f360 ((a0.1,a0.2),((a0.1,a0.2),()))).1,()))
  else none
theorem r361 (p360:DenS I360 → Bool) (f360:DenS I360 → DenS O360) (a0:Den (.pair (.bool) (.pair (.slice (.int .u64)) (.pair (.int .i64) (.unit))))) :
    run { P:=Go.Proofs.Tryd.prog,sums:=[(38,⟨I360,O360,p360,f360⟩)],loops:=[],globs:=G1 } 9 37 Go.Proofs.Tryd.f37 I361 O361 (a0,()) = t361 p360 f360 a0:=by kernel_rfl
noncomputable def T361 (x:DenS I361):Option (DenS O361):=t361 S360.pre S360.F x.1
noncomputable def C361:Cfg:={ P:=Go.Proofs.Tryd.prog,sums:=[(38,S360)],loops:=[],globs:=G1 }
noncomputable def S361:Sum:=sumOf I361 O361 T361 (DenS.dflt O361)
theorem S361_sound:Sound Go.Proofs.Tryd.prog G1 37 S361 :=
  fn_sound C361 9 37 Go.Proofs.Tryd.f37 mixedOk (by kernel_rfl) (by kernel_rfl) (by kernel_rfl) ⟨S360_sound,trivial⟩ trivial I361 O361 T361 _ (fun x=>r361 S360.pre S360.F x.1)
abbrev I172:Sig:=[(false,.slice (.int .u64)),(false,.int .i64)]
abbrev O172:Sig:=[(false,.slice (.int .u64))]
abbrev P172_6:Pat:=⟨57,[(25,.one (.v .i64)),(24,.one (.sl (.int .u64))),(5,.one (.v .i64)),(6,.one (.v .u64)),(26,.one (.v .i64)),(7,.one (.own 0))],[.arr (.int .u64)]⟩
abbrev A172_6:List (Nat × Shape):=[]
abbrev X172_6:List (Nat × Pat):=[(0,⟨57,[(7,.one (.own 0))],[.arr (.int .u64)]⟩)]
abbrev Q172_6:Option Pat:=none
noncomputable def h172_6 (p102:DenS I102 → Bool) (f102:DenS I102 → DenS O102) {R:Type} (L:Pat.D P172_6 → Option R) (e:OutT X172_6 Q172_6 → Option R) (x:Pat.D P172_6):Option R :=
  bif (decide (x.1.2.2.2.2.1 < x.1.1)) then
  (bif ((decide ((0:Int) ≤ x.1.2.2.2.2.1)) && (decide (x.1.2.2.2.2.1 < (x.1.2.1.length:Int)))) then
  (bif ((decide ((0:Int) ≤ (Go.IntKind.wrap .i64 (x.1.2.2.1 + x.1.2.2.2.2.1)))) && (decide ((Go.IntKind.wrap .i64 (x.1.2.2.1 + x.1.2.2.2.2.1)) < (x.2.1.length:Int)))) then
  (bif ((decide ((0:Int) ≤ (Go.IntKind.wrap .i64 (x.1.2.2.1 + x.1.2.2.2.2.1)))) && (decide ((Go.IntKind.wrap .i64 (x.1.2.2.1 + x.1.2.2.2.2.1)) < (x.2.1.length:Int)))) then
  (bif (decide (x.1.2.2.2.1 > (0:Int))) then
  (bif ((decide ((0:Int) ≤ (Go.IntKind.wrap .i64 ((Go.IntKind.wrap .i64 (x.1.2.2.1 + x.1.2.2.2.2.1)) + (1:Int))))) && (decide ((Go.IntKind.wrap .i64 ((Go.IntKind.wrap .i64 (x.1.2.2.1 + x.1.2.2.2.2.1)) + (1:Int))) < ((x.2.1.set (Int.toNat (Go.IntKind.wrap .i64 (x.1.2.2.1 + x.1.2.2.2.2.1))) (Vx.orI Go.IntKind.u64 (x.2.1.getD (Int.toNat (Go.IntKind.wrap .i64 (x.1.2.2.1 + x.1.2.2.2.2.1))) (0:Int)) (Vx.shlI Go.IntKind.u64 (x.1.2.1.getD (Int.toNat x.1.2.2.2.2.1) (0:Int)) x.1.2.2.2.1))).length:Int)))) then
  ((L ((x.1.1,(x.1.2.1,(x.1.2.2.1,(x.1.2.2.2.1,((Go.IntKind.wrap .i64 (x.1.2.2.2.2.1 + (1:Int))),((),())))))),(((x.2.1.set (Int.toNat (Go.IntKind.wrap .i64 (x.1.2.2.1 + x.1.2.2.2.2.1))) (Vx.orI Go.IntKind.u64 (x.2.1.getD (Int.toNat (Go.IntKind.wrap .i64 (x.1.2.2.1 + x.1.2.2.2.2.1))) (0:Int)) (Vx.shlI Go.IntKind.u64 (x.1.2.1.getD (Int.toNat x.1.2.2.2.2.1) (0:Int)) x.1.2.2.2.1))).set (Int.toNat (Go.IntKind.wrap .i64 ((Go.IntKind.wrap .i64 (x.1.2.2.1 + x.1.2.2.2.2.1)) + (1:Int)))) (Vx.shrI Go.IntKind.u64 (x.1.2.1.getD (Int.toNat x.1.2.2.2.2.1) (0:Int)) (Go.IntKind.wrap .u64 ((64:Int) - x.1.2.2.2.1)))),()))))
  else none)
  else (L ((x.1.1,(x.1.2.1,(x.1.2.2.1,(x.1.2.2.2.1,((Go.IntKind.wrap .i64 (x.1.2.2.2.2.1 + (1:Int))),((),())))))),((x.2.1.set (Int.toNat (Go.IntKind.wrap .i64 (x.1.2.2.1 + x.1.2.2.2.2.1))) (Vx.orI Go.IntKind.u64 (x.2.1.getD (Int.toNat (Go.IntKind.wrap .i64 (x.1.2.2.1 + x.1.2.2.2.2.1))) (0:Int)) (Vx.shlI Go.IntKind.u64 (x.1.2.1.getD (Int.toNat x.1.2.2.2.2.1) (0:Int)) x.1.2.2.2.1))),()))))
  else none)
  else none)
  else none)
  else (e (.inl (((),()),x.2)))
theorem s172_6 (p102:DenS I102 → Bool) (f102:DenS I102 → DenS O102) (w172_6:Pat.D P172_6 → Option (OutT X172_6 Q172_6)) (d:Nat) (R:Type) (L:Pat.D P172_6 → Option R) (e:OutT X172_6 Q172_6 → Option R) (x:Pat.D P172_6) :
    lStep { P:=Go.Proofs.Tryd.prog,sums:=[(99,⟨I102,O102,p102,f102⟩)],loops:=[(126,6,LoopSpec.of P172_6 A172_6 X172_6 Q172_6 w172_6)],globs:=G1 } (d + 2) 126 (bodyOf Go.Proofs.Tryd.f126 6) P172_6 A172_6 X172_6 Q172_6 (R:=R) L e x = h172_6 p102 f102 L e x:=by kernel_rfl
theorem m172_6 (p102:DenS I102 → Bool) (f102:DenS I102 → DenS O102):Par fun L e x=>h172_6 p102 f102 L e x:=by
  intro A B rel L L' e e' h0 hL he x
  unfold h172_6
  repeat' (first | exact h0 | exact hL _ | exact he _ | apply rel_cond | (apply rel_obind h0; intro _) | (apply rel_obind2 <;> intro _))
noncomputable def t172 (p102:DenS I102 → Bool) (f102:DenS I102 → DenS O102) (w172_6:Pat.D P172_6 → Option (OutT X172_6 Q172_6)) (a0:Den (.slice (.int .u64))) (a1:Den (.int .i64)):Option (DenS O172) :=
  bif ((a0.length:Int) == (0:Int)) then
  (some ([],()))
  else bif ((decide ((0:Int) ≤ (Go.IntKind.wrap .i64 ((Go.IntKind.wrap .i64 ((Vx.quoI Go.IntKind.i64 a1 (64:Int)) + (a0.length:Int))) + (1:Int))))) && (decide (((Go.IntKind.wrap .i64 ((Go.IntKind.wrap .i64 ((Vx.quoI Go.IntKind.i64 a1 (64:Int)) + (a0.length:Int))) + (1:Int))) * (8:Int)) ≤ (140737488355328:Int)))) then
  (Vx.obind (w172_6 (((a0.length:Int),(a0,((Vx.quoI Go.IntKind.i64 a1 (64:Int)),((Go.IntKind.wrap .u64 (Int.tmod a1 (64:Int))),((0:Int),((),())))))),((List.replicate (Int.toNat (Go.IntKind.wrap .i64 ((Go.IntKind.wrap .i64 ((Vx.quoI Go.IntKind.i64 a1 (64:Int)) + (a0.length:Int))) + (1:Int)))) (0:Int)),()))) fun y2 =>
  Vx.obind2 y2 (fun y3 =>
  bif (p102 y3.2) then
  (some (f102 y3.2))
  else none) (fun z3 =>
  none))
  else none
theorem r172 (p102:DenS I102 → Bool) (f102:DenS I102 → DenS O102) (w172_6:Pat.D P172_6 → Option (OutT X172_6 Q172_6)) (a0:Den (.slice (.int .u64))) (a1:Den (.int .i64)) :
    run { P:=Go.Proofs.Tryd.prog,sums:=[(99,⟨I102,O102,p102,f102⟩)],loops:=[(126,6,LoopSpec.of P172_6 A172_6 X172_6 Q172_6 w172_6)],globs:=G1 } 9 126 Go.Proofs.Tryd.f126 I172 O172 (a0,a1,()) = t172 p102 f102 w172_6 a0 a1:=by kernel_rfl
noncomputable def W172_6:P172_6.D → Option (OutT X172_6 Q172_6):=lfix fun L=>h172_6 S102.pre S102.F L some
noncomputable def T172 (x:DenS I172):Option (DenS O172):=t172 S102.pre S102.F W172_6 x.1 x.2.1
noncomputable def C172:Cfg:={ P:=Go.Proofs.Tryd.prog,sums:=[(99,S102)],loops:=[(126,6,LoopSpec.of P172_6 A172_6 X172_6 Q172_6 W172_6)],globs:=G1 }
noncomputable def S172:Sum:=sumOf I172 O172 T172 (DenS.dflt O172)
theorem S172_sound:Sound Go.Proofs.Tryd.prog G1 126 S172 :=
  fn_sound C172 9 126 Go.Proofs.Tryd.f126 mixedOk (by kernel_rfl) (by kernel_rfl) (by kernel_rfl) ⟨S102_sound,trivial⟩ ⟨rfl,fun d=>loopOk_of (fun L e x=>h172_6 S102.pre S102.F L e x) (m172_6 S102.pre S102.F) (fun R L e x=>s172_6 S102.pre S102.F W172_6 d R L e x),trivial⟩ I172 O172 T172 _ (fun x=>r172 S102.pre S102.F W172_6 x.1 x.2.1)
abbrev I142:Sig:=[(true,.pair (.bool) (.pair (.slice (.int .u64)) (.pair (.int .i64) (.unit)))),(true,.pair (.bool) (.pair (.slice (.int .u64)) (.pair (.int .i64) (.unit))))]
abbrev O142:Sig:=[(false,.slice (.int .u64)),(false,.slice (.int .u64)),(false,.int .i64)]
noncomputable def t142 (p172:DenS I172 → Bool) (f172:DenS I172 → DenS O172) (a0:Den (.pair (.bool) (.pair (.slice (.int .u64)) (.pair (.int .i64) (.unit))))) (a1:Den (.pair (.bool) (.pair (.slice (.int .u64)) (.pair (.int .i64) (.unit))))):Option (DenS O142) :=
  bif (p172 (a0.2.1,((Go.IntKind.wrap .i64 (a0.2.2.1 - (if (a1.2.2.1 < a0.2.2.1) then a1.2.2.1 else a0.2.2.1))),()))) then
  (bif (p172 (a1.2.1,((Go.IntKind.wrap .i64 (a1.2.2.1 - (if (a1.2.2.1 < a0.2.2.1) then a1.2.2.1 else a0.2.2.1))),()))) then
  (some ((f172 (a0.2.1,((Go.IntKind.wrap .i64 (a0.2.2.1 - (if (a1.2.2.1 < a0.2.2.1) then a1.2.2.1 else a0.2.2.1))),()))).1,((f172 (a1.2.1,((Go.IntKind.wrap .i64 (a1.2.2.1 - (if (a1.2.2.1 < a0.2.2.1) then a1.2.2.1 else a0.2.2.1))),()))).1,((if (a1.2.2.1 < a0.2.2.1) then a1.2.2.1 else a0.2.2.1),()))))
  else none)
  else none
theorem r142 (p172:DenS I172 → Bool) (f172:DenS I172 → DenS O172) (a0:Den (.pair (.bool) (.pair (.slice (.int .u64)) (.pair (.int .i64) (.unit))))) (a1:Den (.pair (.bool) (.pair (.slice (.int .u64)) (.pair (.int .i64) (.unit))))) :
    run { P:=Go.Proofs.Tryd.prog,sums:=[(126,⟨I172,O172,p172,f172⟩)],loops:=[],globs:=G1 } 9 114 Go.Proofs.Tryd.f114 I142 O142 (a0,a1,()) = t142 p172 f172 a0 a1:=by kernel_rfl
noncomputable def T142 (x:DenS I142):Option (DenS O142):=t142 S172.pre S172.F x.1 x.2.1
noncomputable def C142:Cfg:={ P:=Go.Proofs.Tryd.prog,sums:=[(126,S172)],loops:=[],globs:=G1 }
noncomputable def S142:Sum:=sumOf I142 O142 T142 (DenS.dflt O142)
theorem S142_sound:Sound Go.Proofs.Tryd.prog G1 114 S142 :=
  fn_sound C142 9 114 Go.Proofs.Tryd.f114 mixedOk (by kernel_rfl) (by kernel_rfl) (by kernel_rfl) ⟨S172_sound,trivial⟩ trivial I142 O142 T142 _ (fun x=>r142 S172.pre S172.F x.1 x.2.1)
abbrev I1174:Sig:=[(true,.slice (.int .u64)),(false,.slice (.int .u64))]
abbrev O1174:Sig:=[(true,.slice (.int .u64))]
abbrev P1174_3:Pat:=⟨37,[(9,.one (.v .i64)),(1,.one (.sl (.int .u64))),(5,.one (.v .u64)),(10,.one (.v .i64)),(0,.one (.own 0))],[.arr (.int .u64)]⟩
abbrev A1174_3:List (Nat × Shape):=[]
abbrev X1174_3:List (Nat × Pat):=[(0,⟨37,[(0,.one (.own 0))],[.arr (.int .u64)]⟩)]
abbrev Q1174_3:Option Pat:=none
noncomputable def h1174_3 (p1173:DenS I1173 → Bool) (f1173:DenS I1173 → DenS O1173) (p157:DenS I157 → Bool) (f157:DenS I157 → DenS O157) (p173:DenS I173 → Bool) (f173:DenS I173 → DenS O173) {R:Type} (L:Pat.D P1174_3 → Option R) (e:OutT X1174_3 Q1174_3 → Option R) (x:Pat.D P1174_3):Option R :=
  bif (decide (x.1.2.2.2.1 < x.1.1)) then
  (bif (decide (x.1.2.2.2.1 < (x.1.2.1.length:Int))) then
  (bif ((decide ((0:Int) ≤ x.1.2.2.2.1)) && (decide (x.1.2.2.2.1 < (x.1.2.1.length:Int)))) then
  (bif ((decide ((0:Int) ≤ x.1.2.2.2.1)) && (decide (x.1.2.2.2.1 < (x.2.1.length:Int)))) then
  (bif (p157 ((x.2.1.getD (Int.toNat x.1.2.2.2.1) (0:Int)),((x.1.2.1.getD (Int.toNat x.1.2.2.2.1) (0:Int)),(x.1.2.2.1,())))) then
  (bif ((decide ((0:Int) ≤ x.1.2.2.2.1)) && (decide (x.1.2.2.2.1 < (x.2.1.length:Int)))) then
  ((L ((x.1.1,(x.1.2.1,((f157 ((x.2.1.getD (Int.toNat x.1.2.2.2.1) (0:Int)),((x.1.2.1.getD (Int.toNat x.1.2.2.2.1) (0:Int)),(x.1.2.2.1,())))).2.1,((Go.IntKind.wrap .i64 (x.1.2.2.2.1 + (1:Int))),((),()))))),((x.2.1.set (Int.toNat x.1.2.2.2.1) (f157 ((x.2.1.getD (Int.toNat x.1.2.2.2.1) (0:Int)),((x.1.2.1.getD (Int.toNat x.1.2.2.2.1) (0:Int)),(x.1.2.2.1,())))).1),()))))
  else none)
  else none)
  else none)
  else none)
  else bif ((decide ((0:Int) ≤ x.1.2.2.2.1)) && (decide (x.1.2.2.2.1 < (x.2.1.length:Int)))) then
  (bif (p157 ((x.2.1.getD (Int.toNat x.1.2.2.2.1) (0:Int)),((0:Int),(x.1.2.2.1,())))) then
  (bif ((decide ((0:Int) ≤ x.1.2.2.2.1)) && (decide (x.1.2.2.2.1 < (x.2.1.length:Int)))) then
  ((L ((x.1.1,(x.1.2.1,((f157 ((x.2.1.getD (Int.toNat x.1.2.2.2.1) (0:Int)),((0:Int),(x.1.2.2.1,())))).2.1,((Go.IntKind.wrap .i64 (x.1.2.2.2.1 + (1:Int))),((),()))))),((x.2.1.set (Int.toNat x.1.2.2.2.1) (f157 ((x.2.1.getD (Int.toNat x.1.2.2.2.1) (0:Int)),((0:Int),(x.1.2.2.1,())))).1),()))))
  else none)
  else none)
  else none)
  else (e (.inl (((),()),x.2)))
theorem s1174_3 (p1173:DenS I1173 → Bool) (f1173:DenS I1173 → DenS O1173) (p157:DenS I157 → Bool) (f157:DenS I157 → DenS O157) (p173:DenS I173 → Bool) (f173:DenS I173 → DenS O173) (w1174_3:Pat.D P1174_3 → Option (OutT X1174_3 Q1174_3)) (d:Nat) (R:Type) (L:Pat.D P1174_3 → Option R) (e:OutT X1174_3 Q1174_3 → Option R) (x:Pat.D P1174_3) :
    lStep { P:=Go.Proofs.Tryd.prog,sums:=[(106,⟨I1173,O1173,p1173,f1173⟩),(116,⟨I157,O157,p157,f157⟩),(106,⟨I173,O173,p173,f173⟩)],loops:=[(127,3,LoopSpec.of P1174_3 A1174_3 X1174_3 Q1174_3 w1174_3)],globs:=G1,keep:=true } (d + 2) 127 (bodyOf Go.Proofs.Tryd.f127 3) P1174_3 A1174_3 X1174_3 Q1174_3 (R:=R) L e x = h1174_3 p1173 f1173 p157 f157 p173 f173 L e x:=by kernel_rfl
theorem m1174_3 (p1173:DenS I1173 → Bool) (f1173:DenS I1173 → DenS O1173) (p157:DenS I157 → Bool) (f157:DenS I157 → DenS O157) (p173:DenS I173 → Bool) (f173:DenS I173 → DenS O173):Par fun L e x=>h1174_3 p1173 f1173 p157 f157 p173 f173 L e x:=by
  intro A B rel L L' e e' h0 hL he x
  unfold h1174_3
  repeat' (first | exact h0 | exact hL _ | exact he _ | apply rel_cond | (apply rel_obind h0; intro _) | (apply rel_obind2 <;> intro _))
noncomputable def t1174 (p1173:DenS I1173 → Bool) (f1173:DenS I1173 → DenS O1173) (p157:DenS I157 → Bool) (f157:DenS I157 → DenS O157) (p173:DenS I173 → Bool) (f173:DenS I173 → DenS O173) (w1174_3:Pat.D P1174_3 → Option (OutT X1174_3 Q1174_3)) (a0:Den (.slice (.int .u64))) (a1:Den (.slice (.int .u64))):Option (DenS O1174) :=
  Vx.obind (w1174_3 (((a0.length:Int),(a1,((0:Int),((0:Int),((),()))))),(a0,()))) fun y0 =>
  Vx.obind2 y0 (fun y1 =>
  bif (p1173 y1.2) then
  (some (f1173 y1.2))
  else none) (fun z1 =>
  none)
theorem r1174 (p1173:DenS I1173 → Bool) (f1173:DenS I1173 → DenS O1173) (p157:DenS I157 → Bool) (f157:DenS I157 → DenS O157) (p173:DenS I173 → Bool) (f173:DenS I173 → DenS O173) (w1174_3:Pat.D P1174_3 → Option (OutT X1174_3 Q1174_3)) (a0:Den (.slice (.int .u64))) (a1:Den (.slice (.int .u64))) :
    run { P:=Go.Proofs.Tryd.prog,sums:=[(106,⟨I1173,O1173,p1173,f1173⟩),(116,⟨I157,O157,p157,f157⟩),(106,⟨I173,O173,p173,f173⟩)],loops:=[(127,3,LoopSpec.of P1174_3 A1174_3 X1174_3 Q1174_3 w1174_3)],globs:=G1,keep:=true } 9 127 Go.Proofs.Tryd.f127 I1174 O1174 (a0,a1,()) = t1174 p1173 f1173 p157 f157 p173 f173 w1174_3 a0 a1:=by kernel_rfl
noncomputable def W1174_3:P1174_3.D → Option (OutT X1174_3 Q1174_3):=lfix fun L=>h1174_3 S1173.pre S1173.F S157.pre S157.F S173.pre S173.F L some
noncomputable def T1174 (x:DenS I1174):Option (DenS O1174):=t1174 S1173.pre S1173.F S157.pre S157.F S173.pre S173.F W1174_3 x.1 x.2.1
noncomputable def C1174:Cfg:={ P:=Go.Proofs.Tryd.prog,sums:=[(106,S1173),(116,S157),(106,S173)],loops:=[(127,3,LoopSpec.of P1174_3 A1174_3 X1174_3 Q1174_3 W1174_3)],globs:=G1,keep:=true }
noncomputable def S1174:Sum:=sumOf I1174 O1174 T1174 (DenS.dflt O1174)
theorem S1174_sound:Sound Go.Proofs.Tryd.prog G1 127 S1174 :=
  fn_sound C1174 9 127 Go.Proofs.Tryd.f127 mixedOk (by kernel_rfl) (by kernel_rfl) (by kernel_rfl) ⟨S1173_sound,⟨S157_sound,⟨S173_sound,trivial⟩⟩⟩ ⟨rfl,fun d=>loopOk_of (fun L e x=>h1174_3 S1173.pre S1173.F S157.pre S157.F S173.pre S173.F L e x) (m1174_3 S1173.pre S1173.F S157.pre S157.F S173.pre S173.F) (fun R L e x=>s1174_3 S1173.pre S1173.F S157.pre S157.F S173.pre S173.F W1174_3 d R L e x),trivial⟩ I1174 O1174 T1174 _ (fun x=>r1174 S1173.pre S1173.F S157.pre S157.F S173.pre S173.F W1174_3 x.1 x.2.1)
abbrev I174:Sig:=[(false,.slice (.int .u64)),(false,.slice (.int .u64))]
abbrev O174:Sig:=[(false,.slice (.int .u64))]
abbrev P174_3:Pat:=⟨37,[(9,.one (.v .i64)),(1,.one (.sl (.int .u64))),(5,.one (.v .u64)),(10,.one (.v .i64)),(0,.one (.sl (.int .u64)))],[]⟩
abbrev A174_3:List (Nat × Shape):=[]
abbrev X174_3:List (Nat × Pat):=[(0,⟨37,[(0,.one (.sl (.int .u64)))],[]⟩)]
abbrev Q174_3:Option Pat:=none
noncomputable def h174_3 (p157:DenS I157 → Bool) (f157:DenS I157 → DenS O157) (p173:DenS I173 → Bool) (f173:DenS I173 → DenS O173) {R:Type} (L:Pat.D P174_3 → Option R) (e:OutT X174_3 Q174_3 → Option R) (x:Pat.D P174_3):Option R :=
  bif (decide (x.1.2.2.2.1 < x.1.1)) then
  (bif (decide (x.1.2.2.2.1 < (x.1.2.1.length:Int))) then
  (bif ((decide ((0:Int) ≤ x.1.2.2.2.1)) && (decide (x.1.2.2.2.1 < (x.1.2.1.length:Int)))) then
  (bif ((decide ((0:Int) ≤ x.1.2.2.2.1)) && (decide (x.1.2.2.2.1 < (x.1.2.2.2.2.1.length:Int)))) then
  (bif (p157 ((x.1.2.2.2.2.1.getD (Int.toNat x.1.2.2.2.1) (0:Int)),((x.1.2.1.getD (Int.toNat x.1.2.2.2.1) (0:Int)),(x.1.2.2.1,())))) then
  (bif ((decide ((0:Int) ≤ x.1.2.2.2.1)) && (decide (x.1.2.2.2.1 < (x.1.2.2.2.2.1.length:Int)))) then
              (none)
  else none)
  else none)
  else none)
  else none)
  else bif ((decide ((0:Int) ≤ x.1.2.2.2.1)) && (decide (x.1.2.2.2.1 < (x.1.2.2.2.2.1.length:Int)))) then
  (bif (p157 ((x.1.2.2.2.2.1.getD (Int.toNat x.1.2.2.2.1) (0:Int)),((0:Int),(x.1.2.2.1,())))) then
  (bif ((decide ((0:Int) ≤ x.1.2.2.2.1)) && (decide (x.1.2.2.2.1 < (x.1.2.2.2.2.1.length:Int)))) then
          (none)
  else none)
  else none)
  else none)
  else (e (.inl (x.1.2.2.2.2,())))
theorem s174_3 (p157:DenS I157 → Bool) (f157:DenS I157 → DenS O157) (p173:DenS I173 → Bool) (f173:DenS I173 → DenS O173) (w174_3:Pat.D P174_3 → Option (OutT X174_3 Q174_3)) (d:Nat) (R:Type) (L:Pat.D P174_3 → Option R) (e:OutT X174_3 Q174_3 → Option R) (x:Pat.D P174_3) :
    lStep { P:=Go.Proofs.Tryd.prog,sums:=[(116,⟨I157,O157,p157,f157⟩),(106,⟨I173,O173,p173,f173⟩)],loops:=[(127,3,LoopSpec.of P174_3 A174_3 X174_3 Q174_3 w174_3)],globs:=G1 } (d + 2) 127 (bodyOf Go.Proofs.Tryd.f127 3) P174_3 A174_3 X174_3 Q174_3 (R:=R) L e x = h174_3 p157 f157 p173 f173 L e x:=by kernel_rfl
theorem m174_3 (p157:DenS I157 → Bool) (f157:DenS I157 → DenS O157) (p173:DenS I173 → Bool) (f173:DenS I173 → DenS O173):Par fun L e x=>h174_3 p157 f157 p173 f173 L e x:=by
  intro A B rel L L' e e' h0 hL he x
  unfold h174_3
  repeat' (first | exact h0 | exact hL _ | exact he _ | apply rel_cond | (apply rel_obind h0; intro _) | (apply rel_obind2 <;> intro _))
noncomputable def t174 (p157:DenS I157 → Bool) (f157:DenS I157 → DenS O157) (p173:DenS I173 → Bool) (f173:DenS I173 → DenS O173) (w174_3:Pat.D P174_3 → Option (OutT X174_3 Q174_3)) (a0:Den (.slice (.int .u64))) (a1:Den (.slice (.int .u64))):Option (DenS O174) :=
  Vx.obind (w174_3 (((a0.length:Int),(a1,((0:Int),((0:Int),(a0,()))))),())) fun y0 =>
  Vx.obind2 y0 (fun y1 =>
  bif (p173 y1.1) then
  (some (f173 y1.1))
  else none) (fun z1 =>
  none)
theorem r174 (p157:DenS I157 → Bool) (f157:DenS I157 → DenS O157) (p173:DenS I173 → Bool) (f173:DenS I173 → DenS O173) (w174_3:Pat.D P174_3 → Option (OutT X174_3 Q174_3)) (a0:Den (.slice (.int .u64))) (a1:Den (.slice (.int .u64))) :
    run { P:=Go.Proofs.Tryd.prog,sums:=[(116,⟨I157,O157,p157,f157⟩),(106,⟨I173,O173,p173,f173⟩)],loops:=[(127,3,LoopSpec.of P174_3 A174_3 X174_3 Q174_3 w174_3)],globs:=G1 } 9 127 Go.Proofs.Tryd.f127 I174 O174 (a0,a1,()) = t174 p157 f157 p173 f173 w174_3 a0 a1:=by kernel_rfl
noncomputable def W174_3:P174_3.D → Option (OutT X174_3 Q174_3):=lfix fun L=>h174_3 S157.pre S157.F S173.pre S173.F L some
noncomputable def T174 (x:DenS I174):Option (DenS O174):=t174 S157.pre S157.F S173.pre S173.F W174_3 x.1 x.2.1
noncomputable def C174:Cfg:={ P:=Go.Proofs.Tryd.prog,sums:=[(116,S157),(106,S173)],loops:=[(127,3,LoopSpec.of P174_3 A174_3 X174_3 Q174_3 W174_3)],globs:=G1 }
noncomputable def S174:Sum:=sumOf I174 O174 T174 (DenS.dflt O174)
theorem S174_sound:Sound Go.Proofs.Tryd.prog G1 127 S174 :=
  fn_sound C174 9 127 Go.Proofs.Tryd.f127 mixedOk (by kernel_rfl) (by kernel_rfl) (by kernel_rfl) ⟨S157_sound,⟨S173_sound,trivial⟩⟩ ⟨rfl,fun d=>loopOk_of (fun L e x=>h174_3 S157.pre S157.F S173.pre S173.F L e x) (m174_3 S157.pre S157.F S173.pre S173.F) (fun R L e x=>s174_3 S157.pre S157.F S173.pre S173.F W174_3 d R L e x),trivial⟩ I174 O174 T174 _ (fun x=>r174 S157.pre S157.F S173.pre S173.F W174_3 x.1 x.2.1)
abbrev I145:Sig:=[(false,.slice (.int .u64)),(false,.slice (.int .u64))]
abbrev O145:Sig:=[(false,.slice (.int .u64)),(false,.int .i64)]
noncomputable def t145 (p1174:DenS I1174 → Bool) (f1174:DenS I1174 → DenS O1174) (p1146:DenS I1146 → Bool) (f1146:DenS I1146 → DenS O1146) (p144:DenS I144 → Bool) (f144:DenS I144 → DenS O144) (p146:DenS I146 → Bool) (f146:DenS I146 → DenS O146) (p173:DenS I173 → Bool) (f173:DenS I173 → DenS O173) (p174:DenS I174 → Bool) (f174:DenS I174 → DenS O174) (a0:Den (.slice (.int .u64))) (a1:Den (.slice (.int .u64))):Option (DenS O145) :=
  bif (p144 (a0,(a1,()))) then
  (bif (decide ((f144 (a0,(a1,()))).1 < (0:Int))) then
  (some ([],((20:Int),())))
  else bif (p1146 (a0,())) then
  (bif (p173 (a1,())) then
  (bif (p1174 ((f1146 (a0,())).1,(f173 (a1,())))) then
  (some ((f1174 ((f1146 (a0,())).1,(f173 (a1,())))).1,((0:Int),())))
  else none)
  else none)
  else none)
  else none
theorem r145 (p1174:DenS I1174 → Bool) (f1174:DenS I1174 → DenS O1174) (p1146:DenS I1146 → Bool) (f1146:DenS I1146 → DenS O1146) (p144:DenS I144 → Bool) (f144:DenS I144 → DenS O144) (p146:DenS I146 → Bool) (f146:DenS I146 → DenS O146) (p173:DenS I173 → Bool) (f173:DenS I173 → DenS O173) (p174:DenS I174 → Bool) (f174:DenS I174 → DenS O174) (a0:Den (.slice (.int .u64))) (a1:Den (.slice (.int .u64))) :
    run { P:=Go.Proofs.Tryd.prog,sums:=[(127,⟨I1174,O1174,p1174,f1174⟩),(122,⟨I1146,O1146,p1146,f1146⟩),(109,⟨I144,O144,p144,f144⟩),(122,⟨I146,O146,p146,f146⟩),(106,⟨I173,O173,p173,f173⟩),(127,⟨I174,O174,p174,f174⟩)],loops:=[],globs:=G1 } 9 115 Go.Proofs.Tryd.f115 I145 O145 (a0,a1,()) = t145 p1174 f1174 p1146 f1146 p144 f144 p146 f146 p173 f173 p174 f174 a0 a1:=by kernel_rfl
noncomputable def T145 (x:DenS I145):Option (DenS O145):=t145 S1174.pre S1174.F S1146.pre S1146.F S144.pre S144.F S146.pre S146.F S173.pre S173.F S174.pre S174.F x.1 x.2.1
noncomputable def C145:Cfg:={ P:=Go.Proofs.Tryd.prog,sums:=[(127,S1174),(122,S1146),(109,S144),(122,S146),(106,S173),(127,S174)],loops:=[],globs:=G1 }
noncomputable def S145:Sum:=sumOf I145 O145 T145 (DenS.dflt O145)
theorem S145_sound:Sound Go.Proofs.Tryd.prog G1 115 S145 :=
  fn_sound C145 9 115 Go.Proofs.Tryd.f115 mixedOk (by kernel_rfl) (by kernel_rfl) (by kernel_rfl) ⟨S1174_sound,⟨S1146_sound,⟨S144_sound,⟨S146_sound,⟨S173_sound,⟨S174_sound,trivial⟩⟩⟩⟩⟩⟩ trivial I145 O145 T145 _ (fun x=>r145 S1174.pre S1174.F S1146.pre S1146.F S144.pre S144.F S146.pre S146.F S173.pre S173.F S174.pre S174.F x.1 x.2.1)
abbrev I101:Sig:=[(true,.pair (.bool) (.pair (.slice (.int .u64)) (.pair (.int .i64) (.unit)))),(true,.pair (.bool) (.pair (.slice (.int .u64)) (.pair (.int .i64) (.unit))))]
abbrev O101:Sig:=[(true,.pair (.bool) (.pair (.slice (.int .u64)) (.pair (.int .i64) (.unit))))]
noncomputable def t101 (p142:DenS I142 → Bool) (f142:DenS I142 → DenS O142) (p143:DenS I143 → Bool) (f143:DenS I143 → DenS O143) (p144:DenS I144 → Bool) (f144:DenS I144 → DenS O144) (p145:DenS I145 → Bool) (f145:DenS I145 → DenS O145) (p100:DenS I100 → Bool) (f100:DenS I100 → DenS O100) (a0:Den (.pair (.bool) (.pair (.slice (.int .u64)) (.pair (.int .i64) (.unit))))) (a1:Den (.pair (.bool) (.pair (.slice (.int .u64)) (.pair (.int .i64) (.unit))))):Option (DenS O101) :=
  bif ((a0.2.1.length:Int) == (0:Int)) then
  (some ((a1.1,a1.2),()))
  else bif ((a1.2.1.length:Int) == (0:Int)) then
  (some ((a0.1,a0.2),()))
  else bif (p142 ((a0.1,a0.2),((a1.1,a1.2),()))) then
  (bif (a0.1 == a1.1) then
  (bif (p143 ((f142 ((a0.1,a0.2),((a1.1,a1.2),()))).1,((f142 ((a0.1,a0.2),((a1.1,a1.2),()))).2.1,()))) then
  (bif (p100 ((a0.1,((f143 ((f142 ((a0.1,a0.2),((a1.1,a1.2),()))).1,((f142 ((a0.1,a0.2),((a1.1,a1.2),()))).2.1,()))).1,(f142 ((a0.1,a0.2),((a1.1,a1.2),()))).2.2)),())) then
  (some (f100 ((a0.1,((f143 ((f142 ((a0.1,a0.2),((a1.1,a1.2),()))).1,((f142 ((a0.1,a0.2),((a1.1,a1.2),()))).2.1,()))).1,(f142 ((a0.1,a0.2),((a1.1,a1.2),()))).2.2)),())))
  else none)
  else none)
  else bif (p144 ((f142 ((a0.1,a0.2),((a1.1,a1.2),()))).1,((f142 ((a0.1,a0.2),((a1.1,a1.2),()))).2.1,()))) then
  (bif (decide ((f144 ((f142 ((a0.1,a0.2),((a1.1,a1.2),()))).1,((f142 ((a0.1,a0.2),((a1.1,a1.2),()))).2.1,()))).1 < (0:Int))) then
  (bif (p145 ((f142 ((a0.1,a0.2),((a1.1,a1.2),()))).2.1,((f142 ((a0.1,a0.2),((a1.1,a1.2),()))).1,()))) then
  (bif (p100 ((a1.1,((f145 ((f142 ((a0.1,a0.2),((a1.1,a1.2),()))).2.1,((f142 ((a0.1,a0.2),((a1.1,a1.2),()))).1,()))).1,(f142 ((a0.1,a0.2),((a1.1,a1.2),()))).2.2)),())) then
  (some (f100 ((a1.1,((f145 ((f142 ((a0.1,a0.2),((a1.1,a1.2),()))).2.1,((f142 ((a0.1,a0.2),((a1.1,a1.2),()))).1,()))).1,(f142 ((a0.1,a0.2),((a1.1,a1.2),()))).2.2)),())))
  else none)
  else none)
  else bif (p145 ((f142 ((a0.1,a0.2),((a1.1,a1.2),()))).1,((f142 ((a0.1,a0.2),((a1.1,a1.2),()))).2.1,()))) then
  (bif (p100 ((a0.1,((f145 ((f142 ((a0.1,a0.2),((a1.1,a1.2),()))).1,((f142 ((a0.1,a0.2),((a1.1,a1.2),()))).2.1,()))).1,(f142 ((a0.1,a0.2),((a1.1,a1.2),()))).2.2)),())) then
  (some (f100 ((a0.1,((f145 ((f142 ((a0.1,a0.2),((a1.1,a1.2),()))).1,((f142 ((a0.1,a0.2),((a1.1,a1.2),()))).2.1,()))).1,(f142 ((a0.1,a0.2),((a1.1,a1.2),()))).2.2)),())))
  else none)
  else none)
  else none)
  else none
theorem r101 (p142:DenS I142 → Bool) (f142:DenS I142 → DenS O142) (p143:DenS I143 → Bool) (f143:DenS I143 → DenS O143) (p144:DenS I144 → Bool) (f144:DenS I144 → DenS O144) (p145:DenS I145 → Bool) (f145:DenS I145 → DenS O145) (p100:DenS I100 → Bool) (f100:DenS I100 → DenS O100) (a0:Den (.pair (.bool) (.pair (.slice (.int .u64)) (.pair (.int .i64) (.unit))))) (a1:Den (.pair (.bool) (.pair (.slice (.int .u64)) (.pair (.int .i64) (.unit))))) :
    run { P:=Go.Proofs.Tryd.prog,sums:=[(114,⟨I142,O142,p142,f142⟩),(80,⟨I143,O143,p143,f143⟩),(109,⟨I144,O144,p144,f144⟩),(115,⟨I145,O145,p145,f145⟩),(85,⟨I100,O100,p100,f100⟩)],loops:=[],globs:=G1 } 9 88 Go.Proofs.Tryd.f88 I101 O101 (a0,a1,()) = t101 p142 f142 p143 f143 p144 f144 p145 f145 p100 f100 a0 a1:=by kernel_rfl
noncomputable def T101 (x:DenS I101):Option (DenS O101):=t101 S142.pre S142.F S143.pre S143.F S144.pre S144.F S145.pre S145.F S100.pre S100.F x.1 x.2.1
noncomputable def C101:Cfg:={ P:=Go.Proofs.Tryd.prog,sums:=[(114,S142),(80,S143),(109,S144),(115,S145),(85,S100)],loops:=[],globs:=G1 }
noncomputable def S101:Sum:=sumOf I101 O101 T101 (DenS.dflt O101)
theorem S101_sound:Sound Go.Proofs.Tryd.prog G1 88 S101 :=
  fn_sound C101 9 88 Go.Proofs.Tryd.f88 mixedOk (by kernel_rfl) (by kernel_rfl) (by kernel_rfl) ⟨S142_sound,⟨S143_sound,⟨S144_sound,⟨S145_sound,⟨S100_sound,trivial⟩⟩⟩⟩⟩ trivial I101 O101 T101 _ (fun x=>r101 S142.pre S142.F S143.pre S143.F S144.pre S144.F S145.pre S145.F S100.pre S100.F x.1 x.2.1)
abbrev I46:Sig:=[(true,.pair (.bool) (.pair (.slice (.int .u64)) (.pair (.int .i64) (.unit)))),(true,.pair (.bool) (.pair (.slice (.int .u64)) (.pair (.int .i64) (.unit))))]
abbrev O46:Sig:=[(false,.int .i64),(false,.int .i64)]
noncomputable def t46 (p99:DenS I99 → Bool) (f99:DenS I99 → DenS O99) (p100:DenS I100 → Bool) (f100:DenS I100 → DenS O100) (p101:DenS I101 → Bool) (f101:DenS I101 → DenS O101) (p47:DenS I47 → Bool) (f47:DenS I47 → DenS O47) (a0:Den (.pair (.bool) (.pair (.slice (.int .u64)) (.pair (.int .i64) (.unit))))) (a1:Den (.pair (.bool) (.pair (.slice (.int .u64)) (.pair (.int .i64) (.unit))))):Option (DenS O46) :=
  bif (p99 ((a0.1,a0.2),((a1.1,a1.2),()))) then
  (bif ((f99 ((a0.1,a0.2),((a1.1,a1.2),()))).1 != (0:Int)) then
  (some ((0:Int),(f99 ((a0.1,a0.2),((a1.1,a1.2),())))))
  else bif (p100 ((a1.1,a1.2),())) then
  (bif (p100 ((a0.1,a0.2),())) then
  (bif (p101 ((f100 ((a0.1,a0.2),())).1,(((!(f100 ((a1.1,a1.2),())).1.1),(f100 ((a1.1,a1.2),())).1.2),()))) then
  (bif (p47 (f101 ((f100 ((a0.1,a0.2),())).1,(((!(f100 ((a1.1,a1.2),())).1.1),(f100 ((a1.1,a1.2),())).1.2),())))) then
  (some ((f47 (f101 ((f100 ((a0.1,a0.2),())).1,(((!(f100 ((a1.1,a1.2),())).1.1),(f100 ((a1.1,a1.2),())).1.2),())))).1,((0:Int),())))
  else none)
  else none)
  else none)
  else none)
  else none
theorem r46 (p99:DenS I99 → Bool) (f99:DenS I99 → DenS O99) (p100:DenS I100 → Bool) (f100:DenS I100 → DenS O100) (p101:DenS I101 → Bool) (f101:DenS I101 → DenS O101) (p47:DenS I47 → Bool) (f47:DenS I47 → DenS O47) (a0:Den (.pair (.bool) (.pair (.slice (.int .u64)) (.pair (.int .i64) (.unit))))) (a1:Den (.pair (.bool) (.pair (.slice (.int .u64)) (.pair (.int .i64) (.unit))))) :
    run { P:=Go.Proofs.Tryd.prog,sums:=[(84,⟨I99,O99,p99,f99⟩),(85,⟨I100,O100,p100,f100⟩),(88,⟨I101,O101,p101,f101⟩),(82,⟨I47,O47,p47,f47⟩)],loops:=[],globs:=G1 } 9 83 Go.Proofs.Tryd.f83 I46 O46 (a0,a1,()) = t46 p99 f99 p100 f100 p101 f101 p47 f47 a0 a1:=by kernel_rfl
noncomputable def T46 (x:DenS I46):Option (DenS O46):=t46 S99.pre S99.F S100.pre S100.F S101.pre S101.F S47.pre S47.F x.1 x.2.1
noncomputable def C46:Cfg:={ P:=Go.Proofs.Tryd.prog,sums:=[(84,S99),(85,S100),(88,S101),(82,S47)],loops:=[],globs:=G1 }
noncomputable def S46:Sum:=sumOf I46 O46 T46 (DenS.dflt O46)
theorem S46_sound:Sound Go.Proofs.Tryd.prog G1 83 S46 :=
  fn_sound C46 9 83 Go.Proofs.Tryd.f83 mixedOk (by kernel_rfl) (by kernel_rfl) (by kernel_rfl) ⟨S99_sound,⟨S100_sound,⟨S101_sound,⟨S47_sound,trivial⟩⟩⟩⟩ trivial I46 O46 T46 _ (fun x=>r46 S99.pre S99.F S100.pre S100.F S101.pre S101.F S47.pre S47.F x.1 x.2.1)
abbrev I362:Sig:=[(true,.pair (.bool) (.pair (.slice (.int .u64)) (.pair (.int .i64) (.unit)))),(true,.pair (.bool) (.pair (.slice (.int .u64)) (.pair (.int .i64) (.unit))))]
abbrev O362:Sig:=[(false,.int .i64)]
noncomputable def t362 (p46:DenS I46 → Bool) (f46:DenS I46 → DenS O46) (a0:Den (.pair (.bool) (.pair (.slice (.int .u64)) (.pair (.int .i64) (.unit))))) (a1:Den (.pair (.bool) (.pair (.slice (.int .u64)) (.pair (.int .i64) (.unit))))):Option (DenS O362) :=
  bif (p46 ((a0.1,a0.2),((a1.1,a1.2),()))) then
  (bif ((f46 ((a0.1,a0.2),((a1.1,a1.2),()))).2.1 != (0:Int)) then
  (some ((9:Int),()))
  else some ((f46 ((a0.1,a0.2),((a1.1,a1.2),()))).1,()))
  else none
theorem r362 (p46:DenS I46 → Bool) (f46:DenS I46 → DenS O46) (a0:Den (.pair (.bool) (.pair (.slice (.int .u64)) (.pair (.int .i64) (.unit))))) (a1:Den (.pair (.bool) (.pair (.slice (.int .u64)) (.pair (.int .i64) (.unit))))) :
    run { P:=Go.Proofs.Tryd.prog,sums:=[(83,⟨I46,O46,p46,f46⟩)],loops:=[],globs:=G1 } 9 36 Go.Proofs.Tryd.f36 I362 O362 (a0,a1,()) = t362 p46 f46 a0 a1:=by kernel_rfl
noncomputable def T362 (x:DenS I362):Option (DenS O362):=t362 S46.pre S46.F x.1 x.2.1
noncomputable def C362:Cfg:={ P:=Go.Proofs.Tryd.prog,sums:=[(83,S46)],loops:=[],globs:=G1 }
noncomputable def S362:Sum:=sumOf I362 O362 T362 (DenS.dflt O362)
theorem S362_sound:Sound Go.Proofs.Tryd.prog G1 36 S362 :=
  fn_sound C362 9 36 Go.Proofs.Tryd.f36 mixedOk (by kernel_rfl) (by kernel_rfl) (by kernel_rfl) ⟨S46_sound,trivial⟩ trivial I362 O362 T362 _ (fun x=>r362 S46.pre S46.F x.1 x.2.1)
abbrev I364:Sig:=[(false,.int .i64)]
abbrev O364:Sig:=[(true,.pair (.bool) (.pair (.slice (.int .u64)) (.pair (.int .i64) (.unit))))]
noncomputable def t364 (p100:DenS I100 → Bool) (f100:DenS I100 → DenS O100) (a0:Den (.int .i64)):Option (DenS O364) :=
  let e1_:=(((decide (a0 < (0:Int))),(((Go.IntKind.wrap .u64 ((0:Int) - (Go.IntKind.wrap .u64 a0))) :: []),((0:Int),()))),())
  let e2_:=(((decide (a0 < (0:Int))),(((Go.IntKind.wrap .u64 a0) :: []),((0:Int),()))),())
  bif (decide (a0 < (0:Int))) then
  (bif (p100 e1_) then
  (some (f100 e1_))
  else none)
  else bif (p100 e2_) then
  (some (f100 e2_))
  else none
theorem r364 (p100:DenS I100 → Bool) (f100:DenS I100 → DenS O100) (a0:Den (.int .i64)) :
    run { P:=Go.Proofs.Tryd.prog,sums:=[(85,⟨I100,O100,p100,f100⟩)],loops:=[],globs:=G1 } 9 39 Go.Proofs.Tryd.f39 I364 O364 (a0,()) = t364 p100 f100 a0:=by kernel_rfl
noncomputable def T364 (x:DenS I364):Option (DenS O364):=t364 S100.pre S100.F x.1
noncomputable def C364:Cfg:={ P:=Go.Proofs.Tryd.prog,sums:=[(85,S100)],loops:=[],globs:=G1 }
noncomputable def S364:Sum:=sumOf I364 O364 T364 (DenS.dflt O364)
theorem S364_sound:Sound Go.Proofs.Tryd.prog G1 39 S364 :=
  fn_sound C364 9 39 Go.Proofs.Tryd.f39 mixedOk (by kernel_rfl) (by kernel_rfl) (by kernel_rfl) ⟨S100_sound,trivial⟩ trivial I364 O364 T364 _ (fun x=>r364 S100.pre S100.F x.1)
abbrev I365:Sig:=[(false,.int .i64),(false,.int .i64),(false,.int .u64)]
abbrev O365:Sig:=[(false,.bool)]
noncomputable def t365 (p337:DenS I337 → Bool) (f337:DenS I337 → DenS O337) (p346:DenS I346 → Bool) (f346:DenS I346 → DenS O346) (p359:DenS I359 → Bool) (f359:DenS I359 → DenS O359) (p361:DenS I361 → Bool) (f361:DenS I361 → DenS O361) (p360:DenS I360 → Bool) (f360:DenS I360 → DenS O360) (p364:DenS I364 → Bool) (f364:DenS I364 → DenS O364) (p362:DenS I362 → Bool) (f362:DenS I362 → DenS O362) (a0:Den (.int .i64)) (a1:Den (.int .i64)) (a2:Den (.int .u64)):Option (DenS O365) :=
  let e16_:=(a0,((f346 (a0,((3:Int),(a2,())))).1,()))
  let e14_:=((f359 e16_).1,())
  let e11_:=(f360 ((f361 e14_).1,((f359 (a0,(a2,()))).1,())))
  let e1_:=(f362 ((f364 ((1:Int),())).1,(e11_.1,())))
  let e15_:=(a0,((f346 (a0,((4:Int),(a2,())))).1,()))
  let e13_:=((f359 e15_).1,())
  let e12_:=(f360 ((f361 e13_).1,((f359 (a0,(a2,()))).1,())))
  let e2_:=(f362 (e12_.1,(f364 ((1:Int),()))))
  let e3_:=e12_
  let e4_:=e11_
  let e5_:=((f346 (a0,((4:Int),(a2,())))).1 == (f346 (a0,((3:Int),(a2,())))).1)
  let e6_:=e13_
  let e7_:=e14_
  let e8_:=e15_
  let e9_:=e16_
  let e10_:=((f346 (a0,(a1,(a2,())))).2.1 == (0:Int))
  bif (p337 ()) then
  (bif (!(f337 ()).1) then
  (some (false,()))
  else bif (p359 (a0,(a2,()))) then
  (bif (p346 (a0,(a1,(a2,())))) then
  (bif ((!(f359 (a0,(a2,()))).2.1) || ((f346 (a0,(a1,(a2,())))).2.2.1 != (0:Int))) then
  (some ((((f346 (a0,(a1,(a2,())))).2.2.1 == (0:Int)) || (((f346 (a0,(a1,(a2,())))).1 == (0:Int)) && e10_)),()))
  else bif (p346 (a0,((4:Int),(a2,())))) then
  (bif (p346 (a0,((3:Int),(a2,())))) then
  (bif (p359 e8_) then
  (bif (p359 e9_) then
  (bif ((((((f346 (a0,((4:Int),(a2,())))).2.2.1 != (0:Int)) || ((f346 (a0,((3:Int),(a2,())))).2.2.1 != (0:Int))) || (!(f359 e8_).2.1)) || (!(f359 e9_).2.1)) || (((f346 (a0,(a1,(a2,())))).1 != (f346 (a0,((4:Int),(a2,())))).1) && ((f346 (a0,(a1,(a2,())))).1 != (f346 (a0,((3:Int),(a2,())))).1))) then
  (some (false,()))
  else bif (p361 e6_) then
  (bif (p360 ((f361 e6_).1,((f359 (a0,(a2,()))).1,()))) then
  (bif (p361 e7_) then
  (bif (p360 ((f361 e7_).1,((f359 (a0,(a2,()))).1,()))) then
  (bif ((e3_.2.1 != (0:Int)) || (e4_.2.1 != (0:Int))) then
  (some (false,()))
  else bif (p364 ((1:Int),())) then
  (bif (p362 (e3_.1,(f364 ((1:Int),())))) then
  (bif (p362 ((f364 ((1:Int),())).1,(e4_.1,()))) then
  (bif ((((decide (e2_.1 > (0:Int))) || (decide (e1_.1 > (0:Int)))) || (!((e2_.1 == (0:Int)) == e5_))) || (!((e1_.1 == (0:Int)) == e5_))) then
  (some (false,()))
  else bif e5_ then
  (some (e10_,()))
  else some ((((f346 (a0,(a1,(a2,())))).2.1 == (16:Int)) && ((f346 (a0,((3:Int),(a2,())))).1 == (Go.IntKind.wrap .u64 ((f346 (a0,((4:Int),(a2,())))).1 + (1:Int))))),()))
  else none)
  else none)
  else none)
  else none)
  else none)
  else none)
  else none)
  else none)
  else none)
  else none)
  else none)
  else none)
  else none)
  else none
theorem r365 (p337:DenS I337 → Bool) (f337:DenS I337 → DenS O337) (p346:DenS I346 → Bool) (f346:DenS I346 → DenS O346) (p359:DenS I359 → Bool) (f359:DenS I359 → DenS O359) (p361:DenS I361 → Bool) (f361:DenS I361 → DenS O361) (p360:DenS I360 → Bool) (f360:DenS I360 → DenS O360) (p364:DenS I364 → Bool) (f364:DenS I364 → DenS O364) (p362:DenS I362 → Bool) (f362:DenS I362 → DenS O362) (a0:Den (.int .i64)) (a1:Den (.int .i64)) (a2:Den (.int .u64)) :
    run { P:=Go.Proofs.Tryd.prog,sums:=[(27,⟨I337,O337,p337,f337⟩),(31,⟨I346,O346,p346,f346⟩),(35,⟨I359,O359,p359,f359⟩),(37,⟨I361,O361,p361,f361⟩),(38,⟨I360,O360,p360,f360⟩),(39,⟨I364,O364,p364,f364⟩),(36,⟨I362,O362,p362,f362⟩)],loops:=[],globs:=G1 } 9 9 Go.Proofs.Tryd.f9 I365 O365 (a0,a1,a2,()) = t365 p337 f337 p346 f346 p359 f359 p361 f361 p360 f360 p364 f364 p362 f362 a0 a1 a2:=by kernel_rfl
noncomputable def T365 (x:DenS I365):Option (DenS O365):=t365 S337.pre S337.F S346.pre S346.F S359.pre S359.F S361.pre S361.F S360.pre S360.F S364.pre S364.F S362.pre S362.F x.1 x.2.1 x.2.2.1
noncomputable def C365:Cfg:={ P:=Go.Proofs.Tryd.prog,sums:=[(27,S337),(31,S346),(35,S359),(37,S361),(38,S360),(39,S364),(36,S362)],loops:=[],globs:=G1 }
noncomputable def S365:Sum:=sumOf I365 O365 T365 (DenS.dflt O365)
theorem S365_sound:Sound Go.Proofs.Tryd.prog G1 9 S365 :=
  fn_sound C365 9 9 Go.Proofs.Tryd.f9 mixedOk (by kernel_rfl) (by kernel_rfl) (by kernel_rfl) ⟨S337_sound,⟨S346_sound,⟨S359_sound,⟨S361_sound,⟨S360_sound,⟨S364_sound,⟨S362_sound,trivial⟩⟩⟩⟩⟩⟩⟩ trivial I365 O365 T365 _ (fun x=>r365 S337.pre S337.F S346.pre S346.F S359.pre S359.F S361.pre S361.F S360.pre S360.F S364.pre S364.F S362.pre S362.F x.1 x.2.1 x.2.2.1)
end Vx
namespace Vx
open Go
theorem sum_pre {I O:Sig} {T:DenS I → Option (DenS O)} {d:DenS O} {x:DenS I} {y:DenS O} (h:T x = some y):(sumOf I O T d).pre x = true:=by
  show (T x).isSome = true
  rw [h]; rfl
theorem sum_F {I O:Sig} {T:DenS I → Option (DenS O)} {d:DenS O} {x:DenS I} {y:DenS O} (h:T x = some y):(sumOf I O T d).F x = y:=by
  show (T x).getD d = y
  rw [h]; rfl
theorem sumL_pre {k:LK} {I O:Sig} {T:k.D × DenS I → Option (k.B × DenS O)} {d:k.B × DenS O} {x:k.D × DenS I} {y:k.B × DenS O} (h:T x = some y):(sumOfL k I O T d).pre x = true:=by
  show (T x).isSome = true
  rw [h]; rfl
theorem sumL_F {k:LK} {I O:Sig} {T:k.D × DenS I → Option (k.B × DenS O)} {d:k.B × DenS O} {x:k.D × DenS I} {y:k.B × DenS O} (h:T x = some y):(sumOfL k I O T d).F x = y:=by
  show (T x).getD d = y
  rw [h]; rfl
theorem pre69 {x:DenS I69} {y:DenS O69} (h:T69 x = some y):S69.pre x = true:=sum_pre (T:=T69) h
theorem fun69 {x:DenS I69} {y:DenS O69} (h:T69 x = some y):S69.F x = y:=sum_F (T:=T69) h
theorem pre66 {x:DenS I66} {y:DenS O66} (h:T66 x = some y):S66.pre x = true:=sum_pre (T:=T66) h
theorem fun66 {x:DenS I66} {y:DenS O66} (h:T66 x = some y):S66.F x = y:=sum_F (T:=T66) h
theorem pre91 {x:DenS I91} {y:DenS O91} (h:T91 x = some y):S91.pre x = true:=sum_pre (T:=T91) h
theorem fun91 {x:DenS I91} {y:DenS O91} (h:T91 x = some y):S91.F x = y:=sum_F (T:=T91) h
theorem pre90 {x:DenS I90} {y:DenS O90} (h:T90 x = some y):S90.pre x = true:=sum_pre (T:=T90) h
theorem fun90 {x:DenS I90} {y:DenS O90} (h:T90 x = some y):S90.F x = y:=sum_F (T:=T90) h
theorem pre65 {x:DenS I65} {y:DenS O65} (h:T65 x = some y):S65.pre x = true:=sum_pre (T:=T65) h
theorem fun65 {x:DenS I65} {y:DenS O65} (h:T65 x = some y):S65.F x = y:=sum_F (T:=T65) h
theorem pre70 {x:DenS I70} {y:DenS O70} (h:T70 x = some y):S70.pre x = true:=sum_pre (T:=T70) h
theorem fun70 {x:DenS I70} {y:DenS O70} (h:T70 x = some y):S70.F x = y:=sum_F (T:=T70) h
theorem pre98 {x:DenS I98} {y:DenS O98} (h:T98 x = some y):S98.pre x = true:=sum_pre (T:=T98) h
theorem fun98 {x:DenS I98} {y:DenS O98} (h:T98 x = some y):S98.F x = y:=sum_F (T:=T98) h
theorem pre119 {x:DenS I119} {y:DenS O119} (h:T119 x = some y):S119.pre x = true:=sum_pre (T:=T119) h
theorem fun119 {x:DenS I119} {y:DenS O119} (h:T119 x = some y):S119.F x = y:=sum_F (T:=T119) h
theorem pre123 {x:DenS I123} {y:DenS O123} (h:T123 x = some y):S123.pre x = true:=sum_pre (T:=T123) h
theorem fun123 {x:DenS I123} {y:DenS O123} (h:T123 x = some y):S123.F x = y:=sum_F (T:=T123) h
theorem pre118 {x:DenS I118} {y:DenS O118} (h:T118 x = some y):S118.pre x = true:=sum_pre (T:=T118) h
theorem fun118 {x:DenS I118} {y:DenS O118} (h:T118 x = some y):S118.F x = y:=sum_F (T:=T118) h
theorem pre147 {x:DenS I147} {y:DenS O147} (h:T147 x = some y):S147.pre x = true:=sum_pre (T:=T147) h
theorem fun147 {x:DenS I147} {y:DenS O147} (h:T147 x = some y):S147.F x = y:=sum_F (T:=T147) h
theorem pre105 {x:DenS I105} {y:DenS O105} (h:T105 x = some y):S105.pre x = true:=sum_pre (T:=T105) h
theorem fun105 {x:DenS I105} {y:DenS O105} (h:T105 x = some y):S105.F x = y:=sum_F (T:=T105) h
theorem pre173 {x:DenS I173} {y:DenS O173} (h:T173 x = some y):S173.pre x = true:=sum_pre (T:=T173) h
theorem fun173 {x:DenS I173} {y:DenS O173} (h:T173 x = some y):S173.F x = y:=sum_F (T:=T173) h
theorem pre146 {x:DenS I146} {y:DenS O146} (h:T146 x = some y):S146.pre x = true:=sum_pre (T:=T146) h
theorem fun146 {x:DenS I146} {y:DenS O146} (h:T146 x = some y):S146.F x = y:=sum_F (T:=T146) h
theorem pre102 {x:DenS I102} {y:DenS O102} (h:T102 x = some y):S102.pre x = true:=sum_pre (T:=T102) h
theorem fun102 {x:DenS I102} {y:DenS O102} (h:T102 x = some y):S102.F x = y:=sum_F (T:=T102) h
theorem pre178 {x:DenS I178} {y:DenS O178} (h:T178 x = some y):S178.pre x = true:=sum_pre (T:=T178) h
theorem fun178 {x:DenS I178} {y:DenS O178} (h:T178 x = some y):S178.F x = y:=sum_F (T:=T178) h
theorem pre151 {x:DenS I151} {y:DenS O151} (h:T151 x = some y):S151.pre x = true:=sum_pre (T:=T151) h
theorem fun151 {x:DenS I151} {y:DenS O151} (h:T151 x = some y):S151.F x = y:=sum_F (T:=T151) h
theorem pre156 {x:DenS I156} {y:DenS O156} (h:T156 x = some y):S156.pre x = true:=sum_pre (T:=T156) h
theorem fun156 {x:DenS I156} {y:DenS O156} (h:T156 x = some y):S156.F x = y:=sum_F (T:=T156) h
theorem pre148 {x:DenS I148} {y:DenS O148} (h:T148 x = some y):S148.pre x = true:=sum_pre (T:=T148) h
theorem fun148 {x:DenS I148} {y:DenS O148} (h:T148 x = some y):S148.F x = y:=sum_F (T:=T148) h
theorem pre1173 {x:DenS I1173} {y:DenS O1173} (h:T1173 x = some y):S1173.pre x = true:=sum_pre (T:=T1173) h
theorem fun1173 {x:DenS I1173} {y:DenS O1173} (h:T1173 x = some y):S1173.F x = y:=sum_F (T:=T1173) h
theorem pre1171 {x:DenS I1171} {y:DenS O1171} (h:T1171 x = some y):S1171.pre x = true:=sum_pre (T:=T1171) h
theorem fun1171 {x:DenS I1171} {y:DenS O1171} (h:T1171 x = some y):S1171.F x = y:=sum_F (T:=T1171) h
theorem pre171 {x:DenS I171} {y:DenS O171} (h:T171 x = some y):S171.pre x = true:=sum_pre (T:=T171) h
theorem fun171 {x:DenS I171} {y:DenS O171} (h:T171 x = some y):S171.F x = y:=sum_F (T:=T171) h
theorem pre92 {x:DenS I92} {y:DenS O92} (h:T92 x = some y):S92.pre x = true:=sum_pre (T:=T92) h
theorem fun92 {x:DenS I92} {y:DenS O92} (h:T92 x = some y):S92.F x = y:=sum_F (T:=T92) h
theorem pre184 {x:DenS I184} {y:DenS O184} (h:T184 x = some y):S184.pre x = true:=sum_pre (T:=T184) h
theorem fun184 {x:DenS I184} {y:DenS O184} (h:T184 x = some y):S184.F x = y:=sum_F (T:=T184) h
theorem pre175 {x:DenS I175} {y:DenS O175} (h:T175 x = some y):S175.pre x = true:=sum_pre (T:=T175) h
theorem fun175 {x:DenS I175} {y:DenS O175} (h:T175 x = some y):S175.F x = y:=sum_F (T:=T175) h
theorem pre186 {x:DenS I186} {y:DenS O186} (h:T186 x = some y):S186.pre x = true:=sum_pre (T:=T186) h
theorem fun186 {x:DenS I186} {y:DenS O186} (h:T186 x = some y):S186.F x = y:=sum_F (T:=T186) h
theorem pre185 {x:DenS I185} {y:DenS O185} (h:T185 x = some y):S185.pre x = true:=sum_pre (T:=T185) h
theorem fun185 {x:DenS I185} {y:DenS O185} (h:T185 x = some y):S185.F x = y:=sum_F (T:=T185) h
theorem pre176 {x:DenS I176} {y:DenS O176} (h:T176 x = some y):S176.pre x = true:=sum_pre (T:=T176) h
theorem fun176 {x:DenS I176} {y:DenS O176} (h:T176 x = some y):S176.F x = y:=sum_F (T:=T176) h
theorem pre141 {x:DenS I141} {y:DenS O141} (h:T141 x = some y):S141.pre x = true:=sum_pre (T:=T141) h
theorem fun141 {x:DenS I141} {y:DenS O141} (h:T141 x = some y):S141.F x = y:=sum_F (T:=T141) h
theorem pre177 {x:DenS I177} {y:DenS O177} (h:T177 x = some y):S177.pre x = true:=sum_pre (T:=T177) h
theorem fun177 {x:DenS I177} {y:DenS O177} (h:T177 x = some y):S177.F x = y:=sum_F (T:=T177) h
theorem pre143 {x:DenS I143} {y:DenS O143} (h:T143 x = some y):S143.pre x = true:=sum_pre (T:=T143) h
theorem fun143 {x:DenS I143} {y:DenS O143} (h:T143 x = some y):S143.F x = y:=sum_F (T:=T143) h
theorem pre150 {x:DenS I150} {y:DenS O150} (h:T150 x = some y):S150.pre x = true:=sum_pre (T:=T150) h
theorem fun150 {x:DenS I150} {y:DenS O150} (h:T150 x = some y):S150.F x = y:=sum_F (T:=T150) h
theorem pre97 {x:DenS I97} {y:DenS O97} (h:T97 x = some y):S97.pre x = true:=sum_pre (T:=T97) h
theorem fun97 {x:DenS I97} {y:DenS O97} (h:T97 x = some y):S97.F x = y:=sum_F (T:=T97) h
theorem pre43 {x:DenS I43} {y:DenS O43} (h:T43 x = some y):S43.pre x = true:=sum_pre (T:=T43) h
theorem fun43 {x:DenS I43} {y:DenS O43} (h:T43 x = some y):S43.F x = y:=sum_F (T:=T43) h
theorem pre149 {x:DenS I149} {y:DenS O149} (h:T149 x = some y):S149.pre x = true:=sum_pre (T:=T149) h
theorem fun149 {x:DenS I149} {y:DenS O149} (h:T149 x = some y):S149.F x = y:=sum_F (T:=T149) h
theorem pre152 {x:DenS I152} {y:DenS O152} (h:T152 x = some y):S152.pre x = true:=sum_pre (T:=T152) h
theorem fun152 {x:DenS I152} {y:DenS O152} (h:T152 x = some y):S152.F x = y:=sum_F (T:=T152) h
theorem pre107 {x:DenS I107} {y:DenS O107} (h:T107 x = some y):S107.pre x = true:=sum_pre (T:=T107) h
theorem fun107 {x:DenS I107} {y:DenS O107} (h:T107 x = some y):S107.F x = y:=sum_F (T:=T107) h
theorem pre122 {x:DenS I122} {y:DenS O122} (h:T122 x = some y):S122.pre x = true:=sum_pre (T:=T122) h
theorem fun122 {x:DenS I122} {y:DenS O122} (h:T122 x = some y):S122.F x = y:=sum_F (T:=T122) h
theorem pre315 {x:DenS I315} {y:DenS O315} (h:T315 x = some y):S315.pre x = true:=sum_pre (T:=T315) h
theorem fun315 {x:DenS I315} {y:DenS O315} (h:T315 x = some y):S315.F x = y:=sum_F (T:=T315) h
theorem pre316 {x:DenS I316} {y:DenS O316} (h:T316 x = some y):S316.pre x = true:=sum_pre (T:=T316) h
theorem fun316 {x:DenS I316} {y:DenS O316} (h:T316 x = some y):S316.F x = y:=sum_F (T:=T316) h
theorem pre40 {x:DenS I40} {y:DenS O40} (h:T40 x = some y):S40.pre x = true:=sum_pre (T:=T40) h
theorem fun40 {x:DenS I40} {y:DenS O40} (h:T40 x = some y):S40.F x = y:=sum_F (T:=T40) h
theorem pre103 {x:DenS I103} {y:DenS O103} (h:T103 x = some y):S103.pre x = true:=sum_pre (T:=T103) h
theorem fun103 {x:DenS I103} {y:DenS O103} (h:T103 x = some y):S103.F x = y:=sum_F (T:=T103) h
theorem pre100 {x:DenS I100} {y:DenS O100} (h:T100 x = some y):S100.pre x = true:=sum_pre (T:=T100) h
theorem fun100 {x:DenS I100} {y:DenS O100} (h:T100 x = some y):S100.F x = y:=sum_F (T:=T100) h
theorem pre104 {x:DenS I104} {y:DenS O104} (h:T104 x = some y):S104.pre x = true:=sum_pre (T:=T104) h
theorem fun104 {x:DenS I104} {y:DenS O104} (h:T104 x = some y):S104.F x = y:=sum_F (T:=T104) h
theorem pre311 {x:DenS I311} {y:DenS O311} (h:T311 x = some y):S311.pre x = true:=sum_pre (T:=T311) h
theorem fun311 {x:DenS I311} {y:DenS O311} (h:T311 x = some y):S311.F x = y:=sum_F (T:=T311) h
theorem pre312 {x:DenS I312} {y:DenS O312} (h:T312 x = some y):S312.pre x = true:=sum_pre (T:=T312) h
theorem fun312 {x:DenS I312} {y:DenS O312} (h:T312 x = some y):S312.F x = y:=sum_F (T:=T312) h
theorem pre313 {x:DenS I313} {y:DenS O313} (h:T313 x = some y):S313.pre x = true:=sum_pre (T:=T313) h
theorem fun313 {x:DenS I313} {y:DenS O313} (h:T313 x = some y):S313.F x = y:=sum_F (T:=T313) h
theorem pre314 {x:DenS I314} {y:DenS O314} (h:T314 x = some y):S314.pre x = true:=sum_pre (T:=T314) h
theorem fun314 {x:DenS I314} {y:DenS O314} (h:T314 x = some y):S314.F x = y:=sum_F (T:=T314) h
theorem pre317 {x:DenS I317} {y:DenS O317} (h:T317 x = some y):S317.pre x = true:=sum_pre (T:=T317) h
theorem fun317 {x:DenS I317} {y:DenS O317} (h:T317 x = some y):S317.F x = y:=sum_F (T:=T317) h
theorem pre318 {x:DenS I318} {y:DenS O318} (h:T318 x = some y):S318.pre x = true:=sum_pre (T:=T318) h
theorem fun318 {x:DenS I318} {y:DenS O318} (h:T318 x = some y):S318.F x = y:=sum_F (T:=T318) h
theorem pre323 {x:DenS I323} {y:DenS O323} (h:T323 x = some y):S323.pre x = true:=sum_pre (T:=T323) h
theorem fun323 {x:DenS I323} {y:DenS O323} (h:T323 x = some y):S323.F x = y:=sum_F (T:=T323) h
theorem pre324 {x:DenS I324} {y:DenS O324} (h:T324 x = some y):S324.pre x = true:=sum_pre (T:=T324) h
theorem fun324 {x:DenS I324} {y:DenS O324} (h:T324 x = some y):S324.F x = y:=sum_F (T:=T324) h
theorem pre325 {x:DenS I325} {y:DenS O325} (h:T325 x = some y):S325.pre x = true:=sum_pre (T:=T325) h
theorem fun325 {x:DenS I325} {y:DenS O325} (h:T325 x = some y):S325.F x = y:=sum_F (T:=T325) h
theorem pre326 {x:DenS I326} {y:DenS O326} (h:T326 x = some y):S326.pre x = true:=sum_pre (T:=T326) h
theorem fun326 {x:DenS I326} {y:DenS O326} (h:T326 x = some y):S326.F x = y:=sum_F (T:=T326) h
theorem pre1146 {x:DenS I1146} {y:DenS O1146} (h:T1146 x = some y):S1146.pre x = true:=sum_pre (T:=T1146) h
theorem fun1146 {x:DenS I1146} {y:DenS O1146} (h:T1146 x = some y):S1146.F x = y:=sum_F (T:=T1146) h
theorem pre327 {x:DenS I327} {y:DenS O327} (h:T327 x = some y):S327.pre x = true:=sum_pre (T:=T327) h
theorem fun327 {x:DenS I327} {y:DenS O327} (h:T327 x = some y):S327.F x = y:=sum_F (T:=T327) h
theorem pre328 {x:DenS I328} {y:DenS O328} (h:T328 x = some y):S328.pre x = true:=sum_pre (T:=T328) h
theorem fun328 {x:DenS I328} {y:DenS O328} (h:T328 x = some y):S328.F x = y:=sum_F (T:=T328) h
theorem pre1329 {x:DenS I1329} {y:DenS O1329} (h:T1329 x = some y):S1329.pre x = true:=sum_pre (T:=T1329) h
theorem fun1329 {x:DenS I1329} {y:DenS O1329} (h:T1329 x = some y):S1329.F x = y:=sum_F (T:=T1329) h
theorem pre144 {x:DenS I144} {y:DenS O144} (h:T144 x = some y):S144.pre x = true:=sum_pre (T:=T144) h
theorem fun144 {x:DenS I144} {y:DenS O144} (h:T144 x = some y):S144.F x = y:=sum_F (T:=T144) h
theorem pre330 {x:LK.D K330 × DenS I330} {y:LK.B K330 × DenS O330} (h:T330 x = some y):S330.pre x = true:=sumL_pre (T:=T330) h
theorem fun330 {x:LK.D K330 × DenS I330} {y:LK.B K330 × DenS O330} (h:T330 x = some y):S330.F x = y:=sumL_F (T:=T330) h
theorem pre331 {x:LK.D K331 × DenS I331} {y:LK.B K331 × DenS O331} (h:T331 x = some y):S331.pre x = true:=sumL_pre (T:=T331) h
theorem fun331 {x:LK.D K331 × DenS I331} {y:LK.B K331 × DenS O331} (h:T331 x = some y):S331.F x = y:=sumL_F (T:=T331) h
theorem pre332 {x:LK.D K332 × DenS I332} {y:LK.B K332 × DenS O332} (h:T332 x = some y):S332.pre x = true:=sumL_pre (T:=T332) h
theorem fun332 {x:LK.D K332 × DenS I332} {y:LK.B K332 × DenS O332} (h:T332 x = some y):S332.F x = y:=sumL_F (T:=T332) h
theorem pre333 {x:DenS I333} {y:DenS O333} (h:T333 x = some y):S333.pre x = true:=sum_pre (T:=T333) h
theorem fun333 {x:DenS I333} {y:DenS O333} (h:T333 x = some y):S333.F x = y:=sum_F (T:=T333) h
theorem pre334 {x:DenS I334} {y:DenS O334} (h:T334 x = some y):S334.pre x = true:=sum_pre (T:=T334) h
theorem fun334 {x:DenS I334} {y:DenS O334} (h:T334 x = some y):S334.F x = y:=sum_F (T:=T334) h
theorem pre335 {x:DenS I335} {y:DenS O335} (h:T335 x = some y):S335.pre x = true:=sum_pre (T:=T335) h
theorem fun335 {x:DenS I335} {y:DenS O335} (h:T335 x = some y):S335.F x = y:=sum_F (T:=T335) h
theorem pre336 {x:DenS I336} {y:DenS O336} (h:T336 x = some y):S336.pre x = true:=sum_pre (T:=T336) h
theorem fun336 {x:DenS I336} {y:DenS O336} (h:T336 x = some y):S336.F x = y:=sum_F (T:=T336) h
theorem pre337 {x:DenS I337} {y:DenS O337} (h:T337 x = some y):S337.pre x = true:=sum_pre (T:=T337) h
theorem fun337 {x:DenS I337} {y:DenS O337} (h:T337 x = some y):S337.F x = y:=sum_F (T:=T337) h
theorem pre345 {x:DenS I345} {y:DenS O345} (h:T345 x = some y):S345.pre x = true:=sum_pre (T:=T345) h
theorem fun345 {x:DenS I345} {y:DenS O345} (h:T345 x = some y):S345.F x = y:=sum_F (T:=T345) h
theorem pre346 {x:DenS I346} {y:DenS O346} (h:T346 x = some y):S346.pre x = true:=sum_pre (T:=T346) h
theorem fun346 {x:DenS I346} {y:DenS O346} (h:T346 x = some y):S346.F x = y:=sum_F (T:=T346) h
theorem pre47 {x:DenS I47} {y:DenS O47} (h:T47 x = some y):S47.pre x = true:=sum_pre (T:=T47) h
theorem fun47 {x:DenS I47} {y:DenS O47} (h:T47 x = some y):S47.F x = y:=sum_F (T:=T47) h
theorem pre359 {x:DenS I359} {y:DenS O359} (h:T359 x = some y):S359.pre x = true:=sum_pre (T:=T359) h
theorem fun359 {x:DenS I359} {y:DenS O359} (h:T359 x = some y):S359.F x = y:=sum_F (T:=T359) h
theorem pre99 {x:DenS I99} {y:DenS O99} (h:T99 x = some y):S99.pre x = true:=sum_pre (T:=T99) h
theorem fun99 {x:DenS I99} {y:DenS O99} (h:T99 x = some y):S99.F x = y:=sum_F (T:=T99) h
theorem pre360 {x:DenS I360} {y:DenS O360} (h:T360 x = some y):S360.pre x = true:=sum_pre (T:=T360) h
theorem fun360 {x:DenS I360} {y:DenS O360} (h:T360 x = some y):S360.F x = y:=sum_F (T:=T360) h
theorem pre361 {x:DenS I361} {y:DenS O361} (h:T361 x = some y):S361.pre x = true:=sum_pre (T:=T361) h
theorem fun361 {x:DenS I361} {y:DenS O361} (h:T361 x = some y):S361.F x = y:=sum_F (T:=T361) h
theorem pre172 {x:DenS I172} {y:DenS O172} (h:T172 x = some y):S172.pre x = true:=sum_pre (T:=T172) h
theorem fun172 {x:DenS I172} {y:DenS O172} (h:T172 x = some y):S172.F x = y:=sum_F (T:=T172) h
theorem pre142 {x:DenS I142} {y:DenS O142} (h:T142 x = some y):S142.pre x = true:=sum_pre (T:=T142) h
theorem fun142 {x:DenS I142} {y:DenS O142} (h:T142 x = some y):S142.F x = y:=sum_F (T:=T142) h
theorem pre1174 {x:DenS I1174} {y:DenS O1174} (h:T1174 x = some y):S1174.pre x = true:=sum_pre (T:=T1174) h
theorem fun1174 {x:DenS I1174} {y:DenS O1174} (h:T1174 x = some y):S1174.F x = y:=sum_F (T:=T1174) h
theorem pre145 {x:DenS I145} {y:DenS O145} (h:T145 x = some y):S145.pre x = true:=sum_pre (T:=T145) h
theorem fun145 {x:DenS I145} {y:DenS O145} (h:T145 x = some y):S145.F x = y:=sum_F (T:=T145) h
theorem pre101 {x:DenS I101} {y:DenS O101} (h:T101 x = some y):S101.pre x = true:=sum_pre (T:=T101) h
theorem fun101 {x:DenS I101} {y:DenS O101} (h:T101 x = some y):S101.F x = y:=sum_F (T:=T101) h
theorem pre46 {x:DenS I46} {y:DenS O46} (h:T46 x = some y):S46.pre x = true:=sum_pre (T:=T46) h
theorem fun46 {x:DenS I46} {y:DenS O46} (h:T46 x = some y):S46.F x = y:=sum_F (T:=T46) h
theorem pre362 {x:DenS I362} {y:DenS O362} (h:T362 x = some y):S362.pre x = true:=sum_pre (T:=T362) h
theorem fun362 {x:DenS I362} {y:DenS O362} (h:T362 x = some y):S362.F x = y:=sum_F (T:=T362) h
theorem pre364 {x:DenS I364} {y:DenS O364} (h:T364 x = some y):S364.pre x = true:=sum_pre (T:=T364) h
theorem fun364 {x:DenS I364} {y:DenS O364} (h:T364 x = some y):S364.F x = y:=sum_F (T:=T364) h
end Vx
namespace Vx
open Go
theorem shrI_u64 {a:Int} (n:Nat) (hn:n ≤ 64):shrI .u64 a (n:Int) = a / 2 ^ n:=by
  unfold shrI
  rw [Int.fdiv_eq_ediv_of_nonneg]
  · congr 2
    simp [IntKind.bits]
    omega
  · exact Int.pow_nonneg (by omega)
theorem ofInt_u64 {m:Nat} (h:m < 2 ^ 64):(BitVec.ofInt 64 (m:Int)).toNat = m:=by
  rw [BitVec.toNat_ofInt]
  omega
theorem andI_mask {m n:Nat} (h:m < 2 ^ 64) (hn:n ≤ 64):andI .u64 (m:Int) ((2 ^ n - 1:Nat):Int) = ((m % 2 ^ n:Nat):Int):=by
  have h2:2 ^ n ≤ 2 ^ 64:=Nat.pow_le_pow_right (by omega) hn
  have h3:0 < 2 ^ n:=Nat.two_pow_pos n
  have hlt:m % 2 ^ n < 2 ^ n:=Nat.mod_lt _ h3
  have key:(BitVec.ofInt 64 (m:Int) &&& BitVec.ofInt 64 ((2 ^ n - 1:Nat):Int)).toNat = m % 2 ^ n:=by
    rw [BitVec.toNat_and,ofInt_u64 h,ofInt_u64 (by omega),Nat.and_two_pow_sub_one_eq_mod]
  show IntKind.u64.wrap (((BitVec.ofInt 64 (m:Int) &&& BitVec.ofInt 64 ((2 ^ n - 1:Nat):Int)).toNat:Nat):Int) = _
  rw [key]
  exact IntWalk.u64_in _ (by omega)
theorem shlI_one {n:Nat} (hn:n ≤ 63):shlI .u64 1 (n:Int) = ((2 ^ n:Nat):Int):=by
  have h2:2 ^ n ≤ 2 ^ 63:=Nat.pow_le_pow_right (by omega) hn
  have:(min (n:Int).toNat IntKind.u64.bits) = n:=by simp [IntKind.bits]; omega
  unfold shlI
  rw [this,Int.one_mul]
  have e:(2:Int) ^ n = ((2 ^ n:Nat):Int):=by simp
  rw [e]
  refine IntWalk.u64_in _ ⟨Int.natCast_nonneg _,?_⟩
  have:((2 ^ n:Nat):Int) ≤ ((2 ^ 63:Nat):Int):=Int.ofNat_le.2 h2
  exact Int.le_trans this (by decide)
end Vx
namespace VL
open Go Vx
def Fm (f:Int):Prop:=0 ≤ f ∧ f < 4
instance (f:Int):Decidable (Fm f):=by unfold Fm; infer_instance
def fW (f:Int):Nat:=if f = 0 then 16 else if f = 1 then 16 else if f = 2 then 32 else 64
def fP (f:Int):Nat:=if f = 0 then 11 else if f = 1 then 8 else if f = 2 then 24 else 53
def fX (f:Int):Nat:=if f = 0 then 15 else if f = 1 then 127 else if f = 2 then 127 else 1023
def rowOf (f:Int):Den rowsSh:=((fW f:Int),((fP f:Int),((1 - (fX f:Int)),((fX f:Int),()))))
theorem Fm_cases {f:Int} (h:Fm f):f = 0 ∨ f = 1 ∨ f = 2 ∨ f = 3:=by
  obtain ⟨h1,h2⟩:=h
  omega
theorem row_at {f:Int} (h:Fm f) (d:Den rowsSh):k_rows.getD (Int.toNat f) d = rowOf f:=by
  rcases Fm_cases h with rfl | rfl | rfl | rfl <;> rfl
theorem fP_ge {f:Int} (h:Fm f):8 ≤ fP f:=by
  rcases Fm_cases h with rfl | rfl | rfl | rfl <;> decide
theorem fP_lt {f:Int} (h:Fm f):fP f + 5 ≤ fW f:=by
  rcases Fm_cases h with rfl | rfl | rfl | rfl <;> decide
theorem fW_le {f:Int} (h:Fm f):fW f ≤ 64:=by
  rcases Fm_cases h with rfl | rfl | rfl | rfl <;> decide
theorem fX_le {f:Int} (h:Fm f):fX f ≤ 1023:=by
  rcases Fm_cases h with rfl | rfl | rfl | rfl <;> decide
theorem fX_eq {f:Int} (h:Fm f):2 * fX f + 1 = 2 ^ (fW f - fP f) - 1:=by
  rcases Fm_cases h with rfl | rfl | rfl | rfl <;> decide
theorem wrapI {n:Int} (h:-9223372036854775808 ≤ n ∧ n < 9223372036854775808):IntKind.wrap .i64 n = n:=IntWalk.i64_in n ⟨h.1,by omega⟩
theorem wrapU {n:Int} (h:0 ≤ n ∧ n < 18446744073709551616):IntKind.wrap .u64 n = n:=IntWalk.u64_in n ⟨h.1,by omega⟩
theorem shrN (a n:Nat) (hn:n ≤ 64):shrI .u64 (a:Int) (n:Int) = ((a / 2 ^ n:Nat):Int):=by
  rw [shrI_u64 n hn]
  simp
theorem wsub (m n:Nat) (h:n ≤ m) (hm:m ≤ 4611686018427387904):IntKind.wrap .i64 ((m:Int) - (n:Int)) = ((m - n:Nat):Int):=by
  rw [wrapI (by omega)]
  omega
theorem nbeq (m n:Nat):((m:Int) == (n:Int)) = (m == n):=by
  rw [Bool.eq_iff_iff]; simp only [beq_iff_eq]; omega
theorem nbeq0 (m:Nat):((m:Int) == 0) = (m == 0):=nbeq m 0
theorem nbne (m n:Nat):((m:Int) != (n:Int)) = (m != n):=by
  show (!((m:Int) == (n:Int))) = !(m == n)
  rw [nbeq]
theorem nbne0 (m:Nat):((m:Int) != 0) = (m != 0):=nbne m 0
theorem nlt (m n:Nat):(decide ((m:Int) < (n:Int))) = decide (m < n):=by
  rw [Bool.eq_iff_iff]; simp
theorem nnn (m:Nat):(decide (0 ≤ (m:Int))) = true:=by simp
def chk (f:Int) (a:Nat):Int:=if Fm f then (if a < 2 ^ fW f then 0 else 4) else 2
def eF (f:Int) (a:Nat):Nat:=a / 2 ^ (fP f - 1) % 2 ^ (fW f - fP f)
def mF (f:Int) (a:Nat):Nat:=a % 2 ^ (fP f - 1)
def sF (f:Int) (a:Nat):Bool:=a / 2 ^ (fW f - 1) != 0
def fullF (f:Int):Nat:=2 ^ (fW f - fP f) - 1
def absF (f:Int) (a:Nat):Nat:=a % 2 ^ (fW f - 1)
theorem T69_ok {f:Int} (h:Fm f):T69 (f,()) = some (rowOf f,0,()):=by
  rcases Fm_cases h with rfl | rfl | rfl | rfl <;> kernel_rfl
theorem T69_bad {f:Int} (h:¬ Fm f):T69 (f,()) = some ((0,0,0,0,()),2,()):=by
  show t69 f = _
  unfold t69
  have:(decide (f < (0:Int)) || decide (f ≥ (4:Int))) = true:=by
    simp only [Fm] at h
    simp only [Bool.or_eq_true,decide_eq_true_eq]
    omega
  rw [this]
  rfl
theorem chk_bad {f:Int} (h:¬ Fm f) (a:Nat):chk f a = 2:=by unfold chk; rw [if_neg h]
theorem chk_ok {f:Int} (h:Fm f) {a:Nat} (ha:a < 2 ^ fW f):chk f a = 0:=by unfold chk; rw [if_pos h,if_pos ha]
theorem chk_big {f:Int} (h:Fm f) {a:Nat} (ha:¬ a < 2 ^ fW f):chk f a = 4:=by unfold chk; rw [if_pos h,if_neg ha]
theorem chk_zero {f:Int} {a:Nat} (h:chk f a = 0):Fm f ∧ a < 2 ^ fW f:=by
  unfold chk at h
  split at h
  · split at h
    · exact ⟨by assumption,by assumption⟩
    · cases h
  · cases h
theorem div_ne_zero {a n:Nat}:(a / 2 ^ n != 0) = decide (2 ^ n ≤ a):=by
  rw [Bool.eq_iff_iff]
  simp [Nat.div_eq_zero_iff,Nat.two_pow_pos]
theorem T66_eq (f:Int) (a:Nat) (ha:a < 2 ^ 64):T66 (f,(a:Int),()) = some (chk f a,()):=by
  show t66 S69.pre S69.F f a = _
  unfold t66
  by_cases hf:Fm f
  · simp only [pre69 (T69_ok hf),fun69 (T69_ok hf),cond_true,rowOf,nnn,Bool.true_or]
    rw [shrN _ _ (fW_le hf),nbne0,div_ne_zero]
    show (bif decide ((fW f:Int) < ((64:Nat):Int)) && _ then _ else _) = _
    rw [nlt]
    have hw:=fW_le hf
    by_cases h:a < 2 ^ fW f
    · have:(decide (fW f < 64) && decide (2 ^ fW f ≤ a)) = false:=by simp; intro _; exact h
      rw [this,chk_ok hf h]; rfl
    · have:(decide (fW f < 64) && decide (2 ^ fW f ≤ a)) = true:=by
        simp only [Bool.and_eq_true,decide_eq_true_eq]
        refine ⟨?_,by omega⟩
        rcases Nat.lt_or_ge (fW f) 64 with h1 | h1
        · exact h1
        · have:fW f = 64:=by omega
          rw [this] at h; omega
      rw [this,chk_big hf h]; rfl
  · simp only [pre69 (T69_bad hf),fun69 (T69_bad hf),cond_true,chk_bad hf]
    rfl
theorem T91_eq (n:Nat) (hn:n ≤ 63):T91 ((n:Int),()) = some (((2 ^ n - 1:Nat):Int),()):=by
  show t91 n = _
  unfold t91
  have h2:2 ^ n ≤ 2 ^ 63:=Nat.pow_le_pow_right (by omega) hn
  have h1:0 < 2 ^ n:=Nat.two_pow_pos n
  rw [nnn,cond_true,shlI_one hn]
  generalize 2 ^ n = c at *
  rw [wrapU (by omega)]
  have:(c:Int) - 1 = ((c - 1:Nat):Int):=by omega
  rw [this]
theorem T90_eq {f:Int} (hf:Fm f) (a:Nat) (ha:a < 2 ^ 64):T90 (rowOf f,(a:Int),()) = some (sF f a,(eF f a:Int),(mF f a:Int),()):=by
  show t90 S91.pre S91.F (rowOf f) a = _
  unfold t90
  have h1:=fP_ge hf
  have h2:=fP_lt hf
  have h3:=fW_le hf
  have e1:IntKind.wrap .i64 ((rowOf f).1 - 1) = ((fW f - 1:Nat):Int):=wsub (fW f) 1 (by omega) (by omega)
  have e2:IntKind.wrap .i64 ((rowOf f).2.1 - 1) = ((fP f - 1:Nat):Int):=wsub (fP f) 1 (by omega) (by omega)
  have e3:IntKind.wrap .i64 ((rowOf f).1 - (rowOf f).2.1) = ((fW f - fP f:Nat):Int):=wsub (fW f) (fP f) (by omega) (by omega)
  have p1:=T91_eq (fW f - fP f) (by omega)
  have p2:=T91_eq (fP f - 1) (by omega)
  rw [e1,e2,e3]
  simp only [nnn,cond_true,pre91 p1,pre91 p2,fun91 p1,fun91 p2]
  rw [shrN _ _ (by omega),shrN _ _ (by omega),andI_mask (Nat.lt_of_le_of_lt (Nat.div_le_self _ _) ha) (by omega),andI_mask ha (by omega),nbne0]
  rfl
def cls (f:Int) (a:Nat):Int :=
  bif eF f a == fullF f && mF f a == 0 then (bif sF f a then 2 else 9)
  else bif eF f a == fullF f && mF f a / 2 ^ (fP f - 2) != 0 then 1
  else bif eF f a == fullF f then 0
  else bif eF f a == 0 && mF f a == 0 then (bif sF f a then 5 else 6)
  else bif eF f a == 0 then (bif sF f a then 4 else 7)
  else (bif sF f a then 3 else 8)
theorem T65_ok {f:Int} {a:Nat} (ha:a < 2 ^ 64) (h:chk f a = 0):T65 (f,(a:Int),()) = some (cls f a,0,()):=by
  obtain ⟨hf,h0⟩:=chk_zero h
  show t65 S66.pre S66.F S90.pre S90.F S91.pre S91.F f a = _
  unfold t65
  have h1:=fP_ge hf
  have h2:=fP_lt hf
  have h3:=fW_le hf
  have e3:IntKind.wrap .i64 ((rowOf f).1 - (rowOf f).2.1) = ((fW f - fP f:Nat):Int):=wsub (fW f) (fP f) (by omega) (by omega)
  have e4:IntKind.wrap .i64 ((rowOf f).2.1 - 2) = ((fP f - 2:Nat):Int):=wsub (fP f) 2 (by omega) (by omega)
  have p0:=T66_eq f a ha
  have p1:=T91_eq (fW f - fP f) (by omega)
  have p2:=T90_eq hf a ha
  have hr:(decide (0 ≤ f) && decide (f < ((4:Nat):Int))) = true:=by
    simp only [Bool.and_eq_true,decide_eq_true_eq]; exact hf
  simp only [row_at hf,e3,e4,hr,pre66 p0,fun66 p0,pre91 p1,fun91 p1,pre90 p2,fun90 p2,h,cond_true,nnn,Bool.true_or,bne_self_eq_false,cond_false]
  rw [shrN _ _ (by omega),nbeq,nbeq0,nbeq0,nbne0]
  unfold cls fullF
  generalize (eF f a == 2 ^ (fW f - fP f) - 1) = b1
  generalize (mF f a == 0) = b2
  generalize (mF f a / 2 ^ (fP f - 2) != 0) = b3
  generalize (eF f a == 0) = b4
  generalize sF f a = b5
  cases b1 <;> cases b2 <;> cases b3 <;> cases b4 <;> cases b5 <;> rfl
def place (f:Int) (a:Nat):Int:=bif sF f a then -(absF f a:Int) else absF f a
def nan (f:Int) (a:Nat):Bool:=eF f a == fullF f && mF f a != 0
def snan (f:Int) (a:Nat):Bool:=nan f a && mF f a / 2 ^ (fP f - 2) == 0
theorem cls_nan (f:Int) (a:Nat):(cls f a == 1 || cls f a == 0) = nan f a:=by
  unfold cls nan
  simp only [bne]
  cases eF f a == fullF f <;> cases mF f a == 0 <;> cases sF f a <;> cases eF f a == 0 <;> cases mF f a / 2 ^ (fP f - 2) == 0 <;> rfl
theorem cls_snan (f:Int) (a:Nat):(cls f a == 0) = snan f a:=by
  unfold cls snan nan
  simp only [bne]
  cases eF f a == fullF f <;> cases hm:mF f a == 0 <;> cases sF f a <;> cases eF f a == 0 <;> cases mF f a / 2 ^ (fP f - 2) == 0 <;> rfl
end VL
namespace VL
open Go Vx
theorem snan_nan {f:Int} {a:Nat} (h:nan f a = false):snan f a = false:=by
  unfold snan; rw [h]; rfl
end VL
namespace VL
open Go Vx
theorem pow_split {f:Int} (hf:Fm f):2 ^ (fW f - 1) = 2 ^ (fP f - 1) * 2 ^ (fW f - fP f):=by
  have h1:=fP_ge hf
  have h2:=fP_lt hf
  rw [← Nat.pow_add]
  congr 1
  omega
theorem abs_eq {f:Int} (hf:Fm f) (a:Nat):absF f a = mF f a + 2 ^ (fP f - 1) * eF f a:=by
  unfold absF mF eF
  rw [pow_split hf,Nat.mod_mul]
theorem pat_eq {f:Int} {a:Nat} (h:chk f a = 0):a = absF f a + (bif sF f a then 2 ^ (fW f - 1) else 0):=by
  obtain ⟨hf,h0⟩:=chk_zero h
  have h2:=fP_lt hf
  have e:2 ^ fW f = 2 * 2 ^ (fW f - 1):=by rw [← Nat.pow_succ']; congr 1; omega
  unfold absF sF
  rw [div_ne_zero]
  by_cases hc:2 ^ (fW f - 1) ≤ a
  · rw [decide_eq_true hc]
    simp only [cond_true]
    have:a % 2 ^ (fW f - 1) = a - 2 ^ (fW f - 1):=by
      rw [Nat.mod_eq_sub_mod hc,Nat.mod_eq_of_lt (by omega)]
    omega
  · rw [decide_eq_false hc]
    simp only [cond_false]
    rw [Nat.mod_eq_of_lt (by omega)]
    rfl
theorem abs_lt' {f:Int} (a:Nat):absF f a < 2 ^ (fW f - 1):=Nat.mod_lt _ (Nat.two_pow_pos _)
theorem full_pos {f:Int} (hf:Fm f):0 < fullF f:=by
  rcases Fm_cases hf with rfl | rfl | rfl | rfl <;> decide
def nanF (f:Int):Nat:=2 ^ (fW f - 1) - 2 ^ (fP f - 2)
theorem T70_ok {f:Int} (hf:Fm f):T70 (f,()) = some ((nanF f:Int),0,()):=by
  rcases Fm_cases hf with rfl | rfl | rfl | rfl <;> kernel_rfl
end VL
namespace VL
open Go Vx
def mkF (f:Int) (s:Bool) (n:Nat):Nat:=n + (bif s then 2 ^ (fW f - 1) else 0)
theorem two_half {f:Int} (hf:Fm f):2 ^ fW f = 2 * 2 ^ (fW f - 1):=by
  have h2:=fP_lt hf
  rw [← Nat.pow_succ']; congr 1; omega
theorem mk_abs {f:Int} (s:Bool) {n:Nat} (hn:n < 2 ^ (fW f - 1)):absF f (mkF f s n) = n:=by
  unfold absF mkF
  cases s
  · simp only [cond_false,Nat.add_zero]; exact Nat.mod_eq_of_lt hn
  · simp only [cond_true,Nat.add_mod_right]; exact Nat.mod_eq_of_lt hn
theorem mk_sgn {f:Int} (s:Bool) {n:Nat} (hn:n < 2 ^ (fW f - 1)):sF f (mkF f s n) = s:=by
  unfold sF mkF
  rw [div_ne_zero]
  cases s
  · simp only [cond_false,Nat.add_zero,decide_eq_false_iff_not]; omega
  · simp
theorem pat_mk {f:Int} {a:Nat} (h:chk f a = 0):a = mkF f (sF f a) (absF f a):=pat_eq h
theorem pat_lt {f:Int} {a:Nat} (h:chk f a = 0):a < 2 ^ 64:=by
  obtain ⟨hf,h0⟩:=chk_zero h
  exact Nat.lt_of_lt_of_le h0 (Nat.pow_le_pow_right (by omega) (fW_le hf))
theorem eF_abs {f:Int} (hf:Fm f) (a:Nat):eF f a = absF f a / 2 ^ (fP f - 1):=by
  rw [abs_eq hf,Nat.add_mul_div_left _ _ (Nat.two_pow_pos _)]
  have:mF f a / 2 ^ (fP f - 1) = 0:=Nat.div_eq_of_lt (Nat.mod_lt _ (Nat.two_pow_pos _))
  omega
theorem mF_abs {f:Int} (hf:Fm f) (a:Nat):mF f a = absF f a % 2 ^ (fP f - 1):=by
  rw [abs_eq hf,Nat.add_mul_mod_self_left]
  exact (Nat.mod_eq_of_lt (Nat.mod_lt _ (Nat.two_pow_pos _))).symm
def infF (f:Int):Nat:=2 ^ (fP f - 1) * fullF f
theorem inf_room {f:Int} (hf:Fm f):infF f + 128 ≤ 2 ^ (fW f - 1):=by
  rcases Fm_cases hf with rfl | rfl | rfl | rfl <;> decide
theorem e_le {f:Int} (a:Nat):eF f a ≤ fullF f:=by
  have:eF f a < 2 ^ (fW f - fP f):=Nat.mod_lt _ (Nat.two_pow_pos _)
  unfold fullF; omega
def negF (f:Int) (a:Nat):Nat:=mkF f (!sF f a) (absF f a)
theorem neg_neg {f:Int} {a:Nat} (h:chk f a = 0):negF f (negF f a) = a:=by
  unfold negF
  rw [mk_abs _ (abs_lt' a),mk_sgn _ (abs_lt' a),Bool.not_not]
  exact (pat_mk h).symm
end VL
namespace VL
open Go Vx
def nv (B:Nat):List Nat → Nat
  | []=>0
  | x :: r=>x + B * nv B r
def trimL:List Nat → List Nat
  | []=>[]
  | x :: r=>match trimL r with
    | []=>if x = 0 then [] else [x]
    | y :: t=>x :: y :: t
def dg (B:Nat) (n:Nat):List Nat :=
  if h:n = 0 ∨ B < 2 then [] else n % B :: dg B (n / B)
termination_by n
decreasing_by exact Nat.div_lt_self (by omega) (by omega)
theorem dg_zero (B:Nat):dg B 0 = []:=by rw [dg]; simp
theorem dg_pos {B n:Nat} (hB:2 ≤ B) (hn:0 < n):dg B n = n % B :: dg B (n / B):=by
  rw [dg]; rw [dif_neg (by omega)]
theorem dg_lt {B:Nat} (hB:2 ≤ B):∀ (n:Nat),∀ x ∈ dg B n,x < B:=by
  intro n
  induction n using Nat.strongRecOn with
  | ind n ih =>
    intro x hx
    rcases Nat.eq_zero_or_pos n with rfl | hn
    · rw [dg_zero] at hx; simp at hx
    · rw [dg_pos hB hn] at hx
      rcases List.mem_cons.1 hx with rfl | hx
      · exact Nat.mod_lt _ (by omega)
      · exact ih (n / B) (Nat.div_lt_self hn (by omega)) x hx
theorem nv_dg {B:Nat} (hB:2 ≤ B):∀ (n:Nat),nv B (dg B n) = n:=by
  intro n
  induction n using Nat.strongRecOn with
  | ind n ih =>
    rcases Nat.eq_zero_or_pos n with rfl | hn
    · rw [dg_zero]; rfl
    · rw [dg_pos hB hn]
      simp only [nv]
      rw [ih (n / B) (Nat.div_lt_self hn (by omega))]
      exact Nat.mod_add_div n B
theorem dg_cons {B x v:Nat} (hB:2 ≤ B) (hx:x < B) (h:0 < x + B * v):dg B (x + B * v) = x :: dg B v:=by
  rw [dg_pos hB h,Nat.add_mul_mod_self_left,Nat.mod_eq_of_lt hx,Nat.add_mul_div_left _ _ (by omega),Nat.div_eq_of_lt hx,Nat.zero_add]
theorem trim_dg {B:Nat} (hB:2 ≤ B):∀ (l:List Nat),(∀ x ∈ l,x < B) → trimL l = dg B (nv B l)
  | [],_=>by simp only [nv]; rw [dg_zero]; rfl
  | x :: r,h=>by
    have ih:=trim_dg hB r fun y hy=>h y (by simp [hy])
    simp only [trimL,nv]
    rcases Nat.eq_zero_or_pos (nv B r) with h0 | h0
    · rw [ih,h0,dg_zero,Nat.mul_zero,Nat.add_zero]
      simp only
      rcases Nat.eq_zero_or_pos x with rfl | hx
      · rw [dg_zero]; rfl
      · rw [if_neg (by omega)]
        have:=dg_cons (v:=0) hB (h x (by simp)) (by omega)
        rw [Nat.mul_zero,Nat.add_zero,dg_zero] at this
        exact this.symm
    · have hp:0 < B * nv B r:=Nat.mul_pos (by omega) h0
      rw [dg_cons hB (h x (by simp)) (by omega),ih]
      rw [dg_pos hB h0]
theorem trim_len:∀ (l:List Nat),(trimL l).length ≤ l.length ∧ trimL l = l.take (trimL l).length
  | []=>⟨Nat.le_refl _,rfl⟩
  | x :: r=>by
    obtain ⟨h1,h2⟩:=trim_len r
    simp only [trimL]
    cases e:trimL r with
    | nil =>
      simp only
      split
      · exact ⟨by simp,rfl⟩
      · exact ⟨by simp,rfl⟩
    | cons y t =>
      rw [e] at h1 h2
      simp only
      refine ⟨by simp at h1 ⊢; omega,?_⟩
      simp only [List.length_cons,List.take_succ_cons]
      congr 1
theorem trim_out:∀ (l:List Nat) (i:Nat),(trimL l).length ≤ i → l.getD i 0 = 0
  | [],i,_=>by simp
  | x :: r,i,h=>by
    have ih:=trim_out r
    simp only [trimL] at h
    cases e:trimL r with
    | nil =>
      rw [e] at h ih
      simp only at h
      cases i with
      | zero =>
        split at h
        · rename_i hx; simp [hx]
        · simp at h
      | succ i=>simpa using ih i (by simp)
    | cons y t =>
      rw [e] at h ih
      simp only at h
      cases i with
      | zero=>simp at h
      | succ i=>simpa using ih i (by simpa using h)
theorem trim_last:∀ (l:List Nat),0 < (trimL l).length → l.getD ((trimL l).length - 1) 0 ≠ 0
  | [],h=>by simp [trimL] at h
  | x :: r,h=>by
    have ih:=trim_last r
    simp only [trimL] at h ⊢
    cases e:trimL r with
    | nil =>
      rw [e] at h
      simp only at h ⊢
      split at h
      · simp at h
      · rename_i hx; rw [if_neg hx]; simpa using hx
    | cons y t =>
      rw [e] at ih
      simp only [List.length_cons] at ih ⊢
      have:=ih (by simp)
      simpa using this
def Wd (l:List Nat):List Int:=l.map fun n:Nat=>(n:Int)
theorem Wd_len (l:List Nat):(Wd l).length = l.length:=by simp [Wd]
theorem Wd_getD (l:List Nat) (i:Nat):(Wd l).getD i 0 = ((l.getD i 0:Nat):Int):=by
  unfold Wd
  rw [List.getD_eq_getElem?_getD,List.getD_eq_getElem?_getD,List.getElem?_map]
  cases l[i]? <;> simp
theorem Wd_take (l:List Nat) (n:Nat):(Wd l).take n = Wd (l.take n):=by simp [Wd,List.map_take]
theorem Wd_drop (l:List Nat) (n:Nat):(Wd l).drop n = Wd (l.drop n):=by simp [Wd,List.map_drop]
theorem Wd_set (l:List Nat) (i n:Nat):(Wd l).set i (n:Int) = Wd (l.set i n):=by simp [Wd,List.map_set]
theorem Wd_rep (n:Nat):List.replicate n (0:Int) = Wd (List.replicate n 0):=by simp [Wd]
end VL
