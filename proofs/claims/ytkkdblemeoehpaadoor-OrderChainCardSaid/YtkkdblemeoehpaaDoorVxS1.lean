/- What a function's summary says, from what it computes. -/
import Derived.Test.YtkkdblemeoehpaaDoorVxR1
namespace Vx
open Go

theorem sum_pre {I O : Sig} {T : DenS I → Option (DenS O)} {d : DenS O} {x : DenS I} {y : DenS O} (h : T x = some y) : (sumOf I O T d).pre x = true := by
  show (T x).isSome = true
  rw [h]; rfl

theorem sum_F {I O : Sig} {T : DenS I → Option (DenS O)} {d : DenS O} {x : DenS I} {y : DenS O} (h : T x = some y) : (sumOf I O T d).F x = y := by
  show (T x).getD d = y
  rw [h]; rfl

theorem pre69 {x : DenS I69} {y : DenS O69} (h : T69 x = some y) : S69.pre x = true := sum_pre (T := T69) h
theorem fun69 {x : DenS I69} {y : DenS O69} (h : T69 x = some y) : S69.F x = y := sum_F (T := T69) h
theorem pre66 {x : DenS I66} {y : DenS O66} (h : T66 x = some y) : S66.pre x = true := sum_pre (T := T66) h
theorem fun66 {x : DenS I66} {y : DenS O66} (h : T66 x = some y) : S66.F x = y := sum_F (T := T66) h
theorem pre91 {x : DenS I91} {y : DenS O91} (h : T91 x = some y) : S91.pre x = true := sum_pre (T := T91) h
theorem fun91 {x : DenS I91} {y : DenS O91} (h : T91 x = some y) : S91.F x = y := sum_F (T := T91) h
theorem pre90 {x : DenS I90} {y : DenS O90} (h : T90 x = some y) : S90.pre x = true := sum_pre (T := T90) h
theorem fun90 {x : DenS I90} {y : DenS O90} (h : T90 x = some y) : S90.F x = y := sum_F (T := T90) h
theorem pre65 {x : DenS I65} {y : DenS O65} (h : T65 x = some y) : S65.pre x = true := sum_pre (T := T65) h
theorem fun65 {x : DenS I65} {y : DenS O65} (h : T65 x = some y) : S65.F x = y := sum_F (T := T65) h
theorem pre115 {x : DenS I115} {y : DenS O115} (h : T115 x = some y) : S115.pre x = true := sum_pre (T := T115) h
theorem fun115 {x : DenS I115} {y : DenS O115} (h : T115 x = some y) : S115.F x = y := sum_F (T := T115) h
theorem pre112 {x : DenS I112} {y : DenS O112} (h : T112 x = some y) : S112.pre x = true := sum_pre (T := T112) h
theorem fun112 {x : DenS I112} {y : DenS O112} (h : T112 x = some y) : S112.F x = y := sum_F (T := T112) h
theorem pre82 {x : DenS I82} {y : DenS O82} (h : T82 x = some y) : S82.pre x = true := sum_pre (T := T82) h
theorem fun82 {x : DenS I82} {y : DenS O82} (h : T82 x = some y) : S82.F x = y := sum_F (T := T82) h
theorem pre52 {x : DenS I52} {y : DenS O52} (h : T52 x = some y) : S52.pre x = true := sum_pre (T := T52) h
theorem fun52 {x : DenS I52} {y : DenS O52} (h : T52 x = some y) : S52.F x = y := sum_F (T := T52) h
theorem pre53 {x : DenS I53} {y : DenS O53} (h : T53 x = some y) : S53.pre x = true := sum_pre (T := T53) h
theorem fun53 {x : DenS I53} {y : DenS O53} (h : T53 x = some y) : S53.F x = y := sum_F (T := T53) h
theorem pre54 {x : DenS I54} {y : DenS O54} (h : T54 x = some y) : S54.pre x = true := sum_pre (T := T54) h
theorem fun54 {x : DenS I54} {y : DenS O54} (h : T54 x = some y) : S54.F x = y := sum_F (T := T54) h
theorem pre14 {x : DenS I14} {y : DenS O14} (h : T14 x = some y) : S14.pre x = true := sum_pre (T := T14) h
theorem fun14 {x : DenS I14} {y : DenS O14} (h : T14 x = some y) : S14.F x = y := sum_F (T := T14) h
theorem pre131 {x : DenS I131} {y : DenS O131} (h : T131 x = some y) : S131.pre x = true := sum_pre (T := T131) h
theorem fun131 {x : DenS I131} {y : DenS O131} (h : T131 x = some y) : S131.F x = y := sum_F (T := T131) h
theorem pre108 {x : DenS I108} {y : DenS O108} (h : T108 x = some y) : S108.pre x = true := sum_pre (T := T108) h
theorem fun108 {x : DenS I108} {y : DenS O108} (h : T108 x = some y) : S108.F x = y := sum_F (T := T108) h
theorem pre55 {x : DenS I55} {y : DenS O55} (h : T55 x = some y) : S55.pre x = true := sum_pre (T := T55) h
theorem fun55 {x : DenS I55} {y : DenS O55} (h : T55 x = some y) : S55.F x = y := sum_F (T := T55) h
theorem pre113 {x : DenS I113} {y : DenS O113} (h : T113 x = some y) : S113.pre x = true := sum_pre (T := T113) h
theorem fun113 {x : DenS I113} {y : DenS O113} (h : T113 x = some y) : S113.F x = y := sum_F (T := T113) h
theorem pre109 {x : DenS I109} {y : DenS O109} (h : T109 x = some y) : S109.pre x = true := sum_pre (T := T109) h
theorem fun109 {x : DenS I109} {y : DenS O109} (h : T109 x = some y) : S109.F x = y := sum_F (T := T109) h
theorem pre110 {x : DenS I110} {y : DenS O110} (h : T110 x = some y) : S110.pre x = true := sum_pre (T := T110) h
theorem fun110 {x : DenS I110} {y : DenS O110} (h : T110 x = some y) : S110.F x = y := sum_F (T := T110) h
theorem pre56 {x : DenS I56} {y : DenS O56} (h : T56 x = some y) : S56.pre x = true := sum_pre (T := T56) h
theorem fun56 {x : DenS I56} {y : DenS O56} (h : T56 x = some y) : S56.F x = y := sum_F (T := T56) h
theorem pre153 {x : DenS I153} {y : DenS O153} (h : T153 x = some y) : S153.pre x = true := sum_pre (T := T153) h
theorem fun153 {x : DenS I153} {y : DenS O153} (h : T153 x = some y) : S153.F x = y := sum_F (T := T153) h
theorem pre59 {x : DenS I59} {y : DenS O59} (h : T59 x = some y) : S59.pre x = true := sum_pre (T := T59) h
theorem fun59 {x : DenS I59} {y : DenS O59} (h : T59 x = some y) : S59.F x = y := sum_F (T := T59) h
theorem pre111 {x : DenS I111} {y : DenS O111} (h : T111 x = some y) : S111.pre x = true := sum_pre (T := T111) h
theorem fun111 {x : DenS I111} {y : DenS O111} (h : T111 x = some y) : S111.F x = y := sum_F (T := T111) h
theorem pre57 {x : DenS I57} {y : DenS O57} (h : T57 x = some y) : S57.pre x = true := sum_pre (T := T57) h
theorem fun57 {x : DenS I57} {y : DenS O57} (h : T57 x = some y) : S57.F x = y := sum_F (T := T57) h
theorem pre15 {x : DenS I15} {y : DenS O15} (h : T15 x = some y) : S15.pre x = true := sum_pre (T := T15) h
theorem fun15 {x : DenS I15} {y : DenS O15} (h : T15 x = some y) : S15.F x = y := sum_F (T := T15) h
theorem pre116 {x : DenS I116} {y : DenS O116} (h : T116 x = some y) : S116.pre x = true := sum_pre (T := T116) h
theorem fun116 {x : DenS I116} {y : DenS O116} (h : T116 x = some y) : S116.F x = y := sum_F (T := T116) h
theorem pre117 {x : DenS I117} {y : DenS O117} (h : T117 x = some y) : S117.pre x = true := sum_pre (T := T117) h
theorem fun117 {x : DenS I117} {y : DenS O117} (h : T117 x = some y) : S117.F x = y := sum_F (T := T117) h
theorem pre140 {x : DenS I140} {y : DenS O140} (h : T140 x = some y) : S140.pre x = true := sum_pre (T := T140) h
theorem fun140 {x : DenS I140} {y : DenS O140} (h : T140 x = some y) : S140.F x = y := sum_F (T := T140) h
theorem pre70 {x : DenS I70} {y : DenS O70} (h : T70 x = some y) : S70.pre x = true := sum_pre (T := T70) h
theorem fun70 {x : DenS I70} {y : DenS O70} (h : T70 x = some y) : S70.F x = y := sum_F (T := T70) h
theorem pre64 {x : DenS I64} {y : DenS O64} (h : T64 x = some y) : S64.pre x = true := sum_pre (T := T64) h
theorem fun64 {x : DenS I64} {y : DenS O64} (h : T64 x = some y) : S64.F x = y := sum_F (T := T64) h
theorem pre93 {x : DenS I93} {y : DenS O93} (h : T93 x = some y) : S93.pre x = true := sum_pre (T := T93) h
theorem fun93 {x : DenS I93} {y : DenS O93} (h : T93 x = some y) : S93.F x = y := sum_F (T := T93) h
theorem pre41 {x : DenS I41} {y : DenS O41} (h : T41 x = some y) : S41.pre x = true := sum_pre (T := T41) h
theorem fun41 {x : DenS I41} {y : DenS O41} (h : T41 x = some y) : S41.F x = y := sum_F (T := T41) h
theorem pre16 {x : DenS I16} {y : DenS O16} (h : T16 x = some y) : S16.pre x = true := sum_pre (T := T16) h
theorem fun16 {x : DenS I16} {y : DenS O16} (h : T16 x = some y) : S16.F x = y := sum_F (T := T16) h
theorem pre3 {x : DenS I3} {y : DenS O3} (h : T3 x = some y) : S3.pre x = true := sum_pre (T := T3) h
theorem fun3 {x : DenS I3} {y : DenS O3} (h : T3 x = some y) : S3.F x = y := sum_F (T := T3) h
theorem pre58 {x : DenS I58} {y : DenS O58} (h : T58 x = some y) : S58.pre x = true := sum_pre (T := T58) h
theorem fun58 {x : DenS I58} {y : DenS O58} (h : T58 x = some y) : S58.F x = y := sum_F (T := T58) h
theorem pre17 {x : DenS I17} {y : DenS O17} (h : T17 x = some y) : S17.pre x = true := sum_pre (T := T17) h
theorem fun17 {x : DenS I17} {y : DenS O17} (h : T17 x = some y) : S17.F x = y := sum_F (T := T17) h
theorem pre18 {x : DenS I18} {y : DenS O18} (h : T18 x = some y) : S18.pre x = true := sum_pre (T := T18) h
theorem fun18 {x : DenS I18} {y : DenS O18} (h : T18 x = some y) : S18.F x = y := sum_F (T := T18) h
theorem pre61 {x : DenS I61} {y : DenS O61} (h : T61 x = some y) : S61.pre x = true := sum_pre (T := T61) h
theorem fun61 {x : DenS I61} {y : DenS O61} (h : T61 x = some y) : S61.F x = y := sum_F (T := T61) h
theorem pre19 {x : DenS I19} {y : DenS O19} (h : T19 x = some y) : S19.pre x = true := sum_pre (T := T19) h
theorem fun19 {x : DenS I19} {y : DenS O19} (h : T19 x = some y) : S19.F x = y := sum_F (T := T19) h
theorem pre132 {x : DenS I132} {y : DenS O132} (h : T132 x = some y) : S132.pre x = true := sum_pre (T := T132) h
theorem fun132 {x : DenS I132} {y : DenS O132} (h : T132 x = some y) : S132.F x = y := sum_F (T := T132) h
theorem pre84 {x : DenS I84} {y : DenS O84} (h : T84 x = some y) : S84.pre x = true := sum_pre (T := T84) h
theorem fun84 {x : DenS I84} {y : DenS O84} (h : T84 x = some y) : S84.F x = y := sum_F (T := T84) h
theorem pre114 {x : DenS I114} {y : DenS O114} (h : T114 x = some y) : S114.pre x = true := sum_pre (T := T114) h
theorem fun114 {x : DenS I114} {y : DenS O114} (h : T114 x = some y) : S114.F x = y := sum_F (T := T114) h
theorem pre62 {x : DenS I62} {y : DenS O62} (h : T62 x = some y) : S62.pre x = true := sum_pre (T := T62) h
theorem fun62 {x : DenS I62} {y : DenS O62} (h : T62 x = some y) : S62.F x = y := sum_F (T := T62) h
theorem pre20 {x : DenS I20} {y : DenS O20} (h : T20 x = some y) : S20.pre x = true := sum_pre (T := T20) h
theorem fun20 {x : DenS I20} {y : DenS O20} (h : T20 x = some y) : S20.F x = y := sum_F (T := T20) h
theorem pre63 {x : DenS I63} {y : DenS O63} (h : T63 x = some y) : S63.pre x = true := sum_pre (T := T63) h
theorem fun63 {x : DenS I63} {y : DenS O63} (h : T63 x = some y) : S63.F x = y := sum_F (T := T63) h
theorem pre21 {x : DenS I21} {y : DenS O21} (h : T21 x = some y) : S21.pre x = true := sum_pre (T := T21) h
theorem fun21 {x : DenS I21} {y : DenS O21} (h : T21 x = some y) : S21.F x = y := sum_F (T := T21) h
theorem pre22 {x : DenS I22} {y : DenS O22} (h : T22 x = some y) : S22.pre x = true := sum_pre (T := T22) h
theorem fun22 {x : DenS I22} {y : DenS O22} (h : T22 x = some y) : S22.F x = y := sum_F (T := T22) h
theorem pre4 {x : DenS I4} {y : DenS O4} (h : T4 x = some y) : S4.pre x = true := sum_pre (T := T4) h
theorem fun4 {x : DenS I4} {y : DenS O4} (h : T4 x = some y) : S4.F x = y := sum_F (T := T4) h
theorem pre42 {x : DenS I42} {y : DenS O42} (h : T42 x = some y) : S42.pre x = true := sum_pre (T := T42) h
theorem fun42 {x : DenS I42} {y : DenS O42} (h : T42 x = some y) : S42.F x = y := sum_F (T := T42) h
theorem pre23 {x : DenS I23} {y : DenS O23} (h : T23 x = some y) : S23.pre x = true := sum_pre (T := T23) h
theorem fun23 {x : DenS I23} {y : DenS O23} (h : T23 x = some y) : S23.F x = y := sum_F (T := T23) h
theorem pre5 {x : DenS I5} {y : DenS O5} (h : T5 x = some y) : S5.pre x = true := sum_pre (T := T5) h
theorem fun5 {x : DenS I5} {y : DenS O5} (h : T5 x = some y) : S5.F x = y := sum_F (T := T5) h

end Vx
