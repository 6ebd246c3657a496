/- Part 7 of the proof. What is proved: symbolic execution of the functions, proved sound; what each function of the program computes, and that every run ends with it; what these functions compute, in plain numbers. Conditions: each theorem bears its own. -/
import Derived.Test.YtblmecpfokfjpaaDoorVxG6
import Derived.ProofKit
import Derived.LaidMore
import Derived.OpenShut
import Derived.Stop.Joined
import GoSem.ClaimJoined
set_option linter.all false
set_option exponentiation.threshold 1000000
namespace VL
open Go Vx
noncomputable def tail71 (f m : Int) (nx : Bool) (X ex : Int) (ny : Bool) (Y ey : Int) : Option (DenS O71) :=
  bif (S119.pre (((0 : Int), (X, ())), ((if ((70 : Int) < (Go.IntKind.wrap Go.IntKind.i64 (ex - ey))) then (70 : Int) else (Go.IntKind.wrap Go.IntKind.i64 (ex - ey))), ()))) then
    (bif (S120.pre (((0 : Int), (Y, ())), ((Go.IntKind.wrap Go.IntKind.i64 ((Go.IntKind.wrap Go.IntKind.i64 (ex - (if ((70 : Int) < (Go.IntKind.wrap Go.IntKind.i64 (ex - ey))) then (70 : Int) else (Go.IntKind.wrap Go.IntKind.i64 (ex - ey))))) - ey)), ()))) then
      (bif (S119.pre ((S120.F (((0 : Int), (Y, ())), ((Go.IntKind.wrap Go.IntKind.i64 ((Go.IntKind.wrap Go.IntKind.i64 (ex - (if ((70 : Int) < (Go.IntKind.wrap Go.IntKind.i64 (ex - ey))) then (70 : Int) else (Go.IntKind.wrap Go.IntKind.i64 (ex - ey))))) - ey)), ()))).1, ((Go.IntKind.wrap Go.IntKind.i64 ((Go.IntKind.wrap Go.IntKind.i64 (ex - (if ((70 : Int) < (Go.IntKind.wrap Go.IntKind.i64 (ex - ey))) then (70 : Int) else (Go.IntKind.wrap Go.IntKind.i64 (ex - ey))))) - ey)), ()))) then
        (bif (S120.pre (((0 : Int), (Y, ())), ((Go.IntKind.wrap Go.IntKind.i64 ((Go.IntKind.wrap Go.IntKind.i64 (ex - (if ((70 : Int) < (Go.IntKind.wrap Go.IntKind.i64 (ex - ey))) then (70 : Int) else (Go.IntKind.wrap Go.IntKind.i64 (ex - ey))))) - ey)), ()))) then
          (bif (nx == ny) then
            (bif (S121.pre ((S119.F (((0 : Int), (X, ())), ((if ((70 : Int) < (Go.IntKind.wrap Go.IntKind.i64 (ex - ey))) then (70 : Int) else (Go.IntKind.wrap Go.IntKind.i64 (ex - ey))), ()))).1, (S120.F (((0 : Int), (Y, ())), ((Go.IntKind.wrap Go.IntKind.i64 ((Go.IntKind.wrap Go.IntKind.i64 (ex - (if ((70 : Int) < (Go.IntKind.wrap Go.IntKind.i64 (ex - ey))) then (70 : Int) else (Go.IntKind.wrap Go.IntKind.i64 (ex - ey))))) - ey)), ()))))) then
              (bif (S122.pre (f, (m, (nx, ((S121.F ((S119.F (((0 : Int), (X, ())), ((if ((70 : Int) < (Go.IntKind.wrap Go.IntKind.i64 (ex - ey))) then (70 : Int) else (Go.IntKind.wrap Go.IntKind.i64 (ex - ey))), ()))).1, (S120.F (((0 : Int), (Y, ())), ((Go.IntKind.wrap Go.IntKind.i64 ((Go.IntKind.wrap Go.IntKind.i64 (ex - (if ((70 : Int) < (Go.IntKind.wrap Go.IntKind.i64 (ex - ey))) then (70 : Int) else (Go.IntKind.wrap Go.IntKind.i64 (ex - ey))))) - ey)), ()))))).1, ((Go.IntKind.wrap Go.IntKind.i64 (ex - (if ((70 : Int) < (Go.IntKind.wrap Go.IntKind.i64 (ex - ey))) then (70 : Int) else (Go.IntKind.wrap Go.IntKind.i64 (ex - ey))))), (((!(((S119.F ((S120.F (((0 : Int), (Y, ())), ((Go.IntKind.wrap Go.IntKind.i64 ((Go.IntKind.wrap Go.IntKind.i64 (ex - (if ((70 : Int) < (Go.IntKind.wrap Go.IntKind.i64 (ex - ey))) then (70 : Int) else (Go.IntKind.wrap Go.IntKind.i64 (ex - ey))))) - ey)), ()))).1, ((Go.IntKind.wrap Go.IntKind.i64 ((Go.IntKind.wrap Go.IntKind.i64 (ex - (if ((70 : Int) < (Go.IntKind.wrap Go.IntKind.i64 (ex - ey))) then (70 : Int) else (Go.IntKind.wrap Go.IntKind.i64 (ex - ey))))) - ey)), ()))).1.1 == (0 : Int)) && ((S119.F ((S120.F (((0 : Int), (Y, ())), ((Go.IntKind.wrap Go.IntKind.i64 ((Go.IntKind.wrap Go.IntKind.i64 (ex - (if ((70 : Int) < (Go.IntKind.wrap Go.IntKind.i64 (ex - ey))) then (70 : Int) else (Go.IntKind.wrap Go.IntKind.i64 (ex - ey))))) - ey)), ()))).1, ((Go.IntKind.wrap Go.IntKind.i64 ((Go.IntKind.wrap Go.IntKind.i64 (ex - (if ((70 : Int) < (Go.IntKind.wrap Go.IntKind.i64 (ex - ey))) then (70 : Int) else (Go.IntKind.wrap Go.IntKind.i64 (ex - ey))))) - ey)), ()))).1.2.1 == Y))) || ((decide ((Go.IntKind.wrap Go.IntKind.i64 ((Go.IntKind.wrap Go.IntKind.i64 (ex - (if ((70 : Int) < (Go.IntKind.wrap Go.IntKind.i64 (ex - ey))) then (70 : Int) else (Go.IntKind.wrap Go.IntKind.i64 (ex - ey))))) - ey)) > (63 : Int))) && (Y != (0 : Int)))), ()))))))) then
                (some (S122.F (f, (m, (nx, ((S121.F ((S119.F (((0 : Int), (X, ())), ((if ((70 : Int) < (Go.IntKind.wrap Go.IntKind.i64 (ex - ey))) then (70 : Int) else (Go.IntKind.wrap Go.IntKind.i64 (ex - ey))), ()))).1, (S120.F (((0 : Int), (Y, ())), ((Go.IntKind.wrap Go.IntKind.i64 ((Go.IntKind.wrap Go.IntKind.i64 (ex - (if ((70 : Int) < (Go.IntKind.wrap Go.IntKind.i64 (ex - ey))) then (70 : Int) else (Go.IntKind.wrap Go.IntKind.i64 (ex - ey))))) - ey)), ()))))).1, ((Go.IntKind.wrap Go.IntKind.i64 (ex - (if ((70 : Int) < (Go.IntKind.wrap Go.IntKind.i64 (ex - ey))) then (70 : Int) else (Go.IntKind.wrap Go.IntKind.i64 (ex - ey))))), (((!(((S119.F ((S120.F (((0 : Int), (Y, ())), ((Go.IntKind.wrap Go.IntKind.i64 ((Go.IntKind.wrap Go.IntKind.i64 (ex - (if ((70 : Int) < (Go.IntKind.wrap Go.IntKind.i64 (ex - ey))) then (70 : Int) else (Go.IntKind.wrap Go.IntKind.i64 (ex - ey))))) - ey)), ()))).1, ((Go.IntKind.wrap Go.IntKind.i64 ((Go.IntKind.wrap Go.IntKind.i64 (ex - (if ((70 : Int) < (Go.IntKind.wrap Go.IntKind.i64 (ex - ey))) then (70 : Int) else (Go.IntKind.wrap Go.IntKind.i64 (ex - ey))))) - ey)), ()))).1.1 == (0 : Int)) && ((S119.F ((S120.F (((0 : Int), (Y, ())), ((Go.IntKind.wrap Go.IntKind.i64 ((Go.IntKind.wrap Go.IntKind.i64 (ex - (if ((70 : Int) < (Go.IntKind.wrap Go.IntKind.i64 (ex - ey))) then (70 : Int) else (Go.IntKind.wrap Go.IntKind.i64 (ex - ey))))) - ey)), ()))).1, ((Go.IntKind.wrap Go.IntKind.i64 ((Go.IntKind.wrap Go.IntKind.i64 (ex - (if ((70 : Int) < (Go.IntKind.wrap Go.IntKind.i64 (ex - ey))) then (70 : Int) else (Go.IntKind.wrap Go.IntKind.i64 (ex - ey))))) - ey)), ()))).1.2.1 == Y))) || ((decide ((Go.IntKind.wrap Go.IntKind.i64 ((Go.IntKind.wrap Go.IntKind.i64 (ex - (if ((70 : Int) < (Go.IntKind.wrap Go.IntKind.i64 (ex - ey))) then (70 : Int) else (Go.IntKind.wrap Go.IntKind.i64 (ex - ey))))) - ey)) > (63 : Int))) && (Y != (0 : Int)))), ()))))))))
              else none)
            else none)
          else bif (S123.pre ((S119.F (((0 : Int), (X, ())), ((if ((70 : Int) < (Go.IntKind.wrap Go.IntKind.i64 (ex - ey))) then (70 : Int) else (Go.IntKind.wrap Go.IntKind.i64 (ex - ey))), ()))).1, (S120.F (((0 : Int), (Y, ())), ((Go.IntKind.wrap Go.IntKind.i64 ((Go.IntKind.wrap Go.IntKind.i64 (ex - (if ((70 : Int) < (Go.IntKind.wrap Go.IntKind.i64 (ex - ey))) then (70 : Int) else (Go.IntKind.wrap Go.IntKind.i64 (ex - ey))))) - ey)), ()))))) then
            (bif (decide ((S123.F ((S119.F (((0 : Int), (X, ())), ((if ((70 : Int) < (Go.IntKind.wrap Go.IntKind.i64 (ex - ey))) then (70 : Int) else (Go.IntKind.wrap Go.IntKind.i64 (ex - ey))), ()))).1, (S120.F (((0 : Int), (Y, ())), ((Go.IntKind.wrap Go.IntKind.i64 ((Go.IntKind.wrap Go.IntKind.i64 (ex - (if ((70 : Int) < (Go.IntKind.wrap Go.IntKind.i64 (ex - ey))) then (70 : Int) else (Go.IntKind.wrap Go.IntKind.i64 (ex - ey))))) - ey)), ()))))).1 < (0 : Int))) then
              (bif (S124.pre ((S120.F (((0 : Int), (Y, ())), ((Go.IntKind.wrap Go.IntKind.i64 ((Go.IntKind.wrap Go.IntKind.i64 (ex - (if ((70 : Int) < (Go.IntKind.wrap Go.IntKind.i64 (ex - ey))) then (70 : Int) else (Go.IntKind.wrap Go.IntKind.i64 (ex - ey))))) - ey)), ()))).1, (S119.F (((0 : Int), (X, ())), ((if ((70 : Int) < (Go.IntKind.wrap Go.IntKind.i64 (ex - ey))) then (70 : Int) else (Go.IntKind.wrap Go.IntKind.i64 (ex - ey))), ()))))) then
                (bif ((!(((S119.F ((S120.F (((0 : Int), (Y, ())), ((Go.IntKind.wrap Go.IntKind.i64 ((Go.IntKind.wrap Go.IntKind.i64 (ex - (if ((70 : Int) < (Go.IntKind.wrap Go.IntKind.i64 (ex - ey))) then (70 : Int) else (Go.IntKind.wrap Go.IntKind.i64 (ex - ey))))) - ey)), ()))).1, ((Go.IntKind.wrap Go.IntKind.i64 ((Go.IntKind.wrap Go.IntKind.i64 (ex - (if ((70 : Int) < (Go.IntKind.wrap Go.IntKind.i64 (ex - ey))) then (70 : Int) else (Go.IntKind.wrap Go.IntKind.i64 (ex - ey))))) - ey)), ()))).1.1 == (0 : Int)) && ((S119.F ((S120.F (((0 : Int), (Y, ())), ((Go.IntKind.wrap Go.IntKind.i64 ((Go.IntKind.wrap Go.IntKind.i64 (ex - (if ((70 : Int) < (Go.IntKind.wrap Go.IntKind.i64 (ex - ey))) then (70 : Int) else (Go.IntKind.wrap Go.IntKind.i64 (ex - ey))))) - ey)), ()))).1, ((Go.IntKind.wrap Go.IntKind.i64 ((Go.IntKind.wrap Go.IntKind.i64 (ex - (if ((70 : Int) < (Go.IntKind.wrap Go.IntKind.i64 (ex - ey))) then (70 : Int) else (Go.IntKind.wrap Go.IntKind.i64 (ex - ey))))) - ey)), ()))).1.2.1 == Y))) || ((decide ((Go.IntKind.wrap Go.IntKind.i64 ((Go.IntKind.wrap Go.IntKind.i64 (ex - (if ((70 : Int) < (Go.IntKind.wrap Go.IntKind.i64 (ex - ey))) then (70 : Int) else (Go.IntKind.wrap Go.IntKind.i64 (ex - ey))))) - ey)) > (63 : Int))) && (Y != (0 : Int)))) then
                  (bif (S124.pre ((S124.F ((S120.F (((0 : Int), (Y, ())), ((Go.IntKind.wrap Go.IntKind.i64 ((Go.IntKind.wrap Go.IntKind.i64 (ex - (if ((70 : Int) < (Go.IntKind.wrap Go.IntKind.i64 (ex - ey))) then (70 : Int) else (Go.IntKind.wrap Go.IntKind.i64 (ex - ey))))) - ey)), ()))).1, (S119.F (((0 : Int), (X, ())), ((if ((70 : Int) < (Go.IntKind.wrap Go.IntKind.i64 (ex - ey))) then (70 : Int) else (Go.IntKind.wrap Go.IntKind.i64 (ex - ey))), ()))))).1, (((0 : Int), ((1 : Int), ())), ()))) then
                    (bif ((((S124.F ((S124.F ((S120.F (((0 : Int), (Y, ())), ((Go.IntKind.wrap Go.IntKind.i64 ((Go.IntKind.wrap Go.IntKind.i64 (ex - (if ((70 : Int) < (Go.IntKind.wrap Go.IntKind.i64 (ex - ey))) then (70 : Int) else (Go.IntKind.wrap Go.IntKind.i64 (ex - ey))))) - ey)), ()))).1, (S119.F (((0 : Int), (X, ())), ((if ((70 : Int) < (Go.IntKind.wrap Go.IntKind.i64 (ex - ey))) then (70 : Int) else (Go.IntKind.wrap Go.IntKind.i64 (ex - ey))), ()))))).1, (((0 : Int), ((1 : Int), ())), ()))).1.1 == (0 : Int)) && ((S124.F ((S124.F ((S120.F (((0 : Int), (Y, ())), ((Go.IntKind.wrap Go.IntKind.i64 ((Go.IntKind.wrap Go.IntKind.i64 (ex - (if ((70 : Int) < (Go.IntKind.wrap Go.IntKind.i64 (ex - ey))) then (70 : Int) else (Go.IntKind.wrap Go.IntKind.i64 (ex - ey))))) - ey)), ()))).1, (S119.F (((0 : Int), (X, ())), ((if ((70 : Int) < (Go.IntKind.wrap Go.IntKind.i64 (ex - ey))) then (70 : Int) else (Go.IntKind.wrap Go.IntKind.i64 (ex - ey))), ()))))).1, (((0 : Int), ((1 : Int), ())), ()))).1.2.1 == (0 : Int))) && (!((!(((S119.F ((S120.F (((0 : Int), (Y, ())), ((Go.IntKind.wrap Go.IntKind.i64 ((Go.IntKind.wrap Go.IntKind.i64 (ex - (if ((70 : Int) < (Go.IntKind.wrap Go.IntKind.i64 (ex - ey))) then (70 : Int) else (Go.IntKind.wrap Go.IntKind.i64 (ex - ey))))) - ey)), ()))).1, ((Go.IntKind.wrap Go.IntKind.i64 ((Go.IntKind.wrap Go.IntKind.i64 (ex - (if ((70 : Int) < (Go.IntKind.wrap Go.IntKind.i64 (ex - ey))) then (70 : Int) else (Go.IntKind.wrap Go.IntKind.i64 (ex - ey))))) - ey)), ()))).1.1 == (0 : Int)) && ((S119.F ((S120.F (((0 : Int), (Y, ())), ((Go.IntKind.wrap Go.IntKind.i64 ((Go.IntKind.wrap Go.IntKind.i64 (ex - (if ((70 : Int) < (Go.IntKind.wrap Go.IntKind.i64 (ex - ey))) then (70 : Int) else (Go.IntKind.wrap Go.IntKind.i64 (ex - ey))))) - ey)), ()))).1, ((Go.IntKind.wrap Go.IntKind.i64 ((Go.IntKind.wrap Go.IntKind.i64 (ex - (if ((70 : Int) < (Go.IntKind.wrap Go.IntKind.i64 (ex - ey))) then (70 : Int) else (Go.IntKind.wrap Go.IntKind.i64 (ex - ey))))) - ey)), ()))).1.2.1 == Y))) || ((decide ((Go.IntKind.wrap Go.IntKind.i64 ((Go.IntKind.wrap Go.IntKind.i64 (ex - (if ((70 : Int) < (Go.IntKind.wrap Go.IntKind.i64 (ex - ey))) then (70 : Int) else (Go.IntKind.wrap Go.IntKind.i64 (ex - ey))))) - ey)) > (63 : Int))) && (Y != (0 : Int)))))) then
                      (bif (S118.pre (f, ((m == (4 : Int)), ()))) then
                        (some ((S118.F (f, ((m == (4 : Int)), ()))).1, ((0 : Int), ((0 : Int), ()))))
                      else none)
                    else bif (S122.pre (f, (m, (ny, ((S124.F ((S124.F ((S120.F (((0 : Int), (Y, ())), ((Go.IntKind.wrap Go.IntKind.i64 ((Go.IntKind.wrap Go.IntKind.i64 (ex - (if ((70 : Int) < (Go.IntKind.wrap Go.IntKind.i64 (ex - ey))) then (70 : Int) else (Go.IntKind.wrap Go.IntKind.i64 (ex - ey))))) - ey)), ()))).1, (S119.F (((0 : Int), (X, ())), ((if ((70 : Int) < (Go.IntKind.wrap Go.IntKind.i64 (ex - ey))) then (70 : Int) else (Go.IntKind.wrap Go.IntKind.i64 (ex - ey))), ()))))).1, (((0 : Int), ((1 : Int), ())), ()))).1, ((Go.IntKind.wrap Go.IntKind.i64 (ex - (if ((70 : Int) < (Go.IntKind.wrap Go.IntKind.i64 (ex - ey))) then (70 : Int) else (Go.IntKind.wrap Go.IntKind.i64 (ex - ey))))), (((!(((S119.F ((S120.F (((0 : Int), (Y, ())), ((Go.IntKind.wrap Go.IntKind.i64 ((Go.IntKind.wrap Go.IntKind.i64 (ex - (if ((70 : Int) < (Go.IntKind.wrap Go.IntKind.i64 (ex - ey))) then (70 : Int) else (Go.IntKind.wrap Go.IntKind.i64 (ex - ey))))) - ey)), ()))).1, ((Go.IntKind.wrap Go.IntKind.i64 ((Go.IntKind.wrap Go.IntKind.i64 (ex - (if ((70 : Int) < (Go.IntKind.wrap Go.IntKind.i64 (ex - ey))) then (70 : Int) else (Go.IntKind.wrap Go.IntKind.i64 (ex - ey))))) - ey)), ()))).1.1 == (0 : Int)) && ((S119.F ((S120.F (((0 : Int), (Y, ())), ((Go.IntKind.wrap Go.IntKind.i64 ((Go.IntKind.wrap Go.IntKind.i64 (ex - (if ((70 : Int) < (Go.IntKind.wrap Go.IntKind.i64 (ex - ey))) then (70 : Int) else (Go.IntKind.wrap Go.IntKind.i64 (ex - ey))))) - ey)), ()))).1, ((Go.IntKind.wrap Go.IntKind.i64 ((Go.IntKind.wrap Go.IntKind.i64 (ex - (if ((70 : Int) < (Go.IntKind.wrap Go.IntKind.i64 (ex - ey))) then (70 : Int) else (Go.IntKind.wrap Go.IntKind.i64 (ex - ey))))) - ey)), ()))).1.2.1 == Y))) || ((decide ((Go.IntKind.wrap Go.IntKind.i64 ((Go.IntKind.wrap Go.IntKind.i64 (ex - (if ((70 : Int) < (Go.IntKind.wrap Go.IntKind.i64 (ex - ey))) then (70 : Int) else (Go.IntKind.wrap Go.IntKind.i64 (ex - ey))))) - ey)) > (63 : Int))) && (Y != (0 : Int)))), ()))))))) then
                      (some (S122.F (f, (m, (ny, ((S124.F ((S124.F ((S120.F (((0 : Int), (Y, ())), ((Go.IntKind.wrap Go.IntKind.i64 ((Go.IntKind.wrap Go.IntKind.i64 (ex - (if ((70 : Int) < (Go.IntKind.wrap Go.IntKind.i64 (ex - ey))) then (70 : Int) else (Go.IntKind.wrap Go.IntKind.i64 (ex - ey))))) - ey)), ()))).1, (S119.F (((0 : Int), (X, ())), ((if ((70 : Int) < (Go.IntKind.wrap Go.IntKind.i64 (ex - ey))) then (70 : Int) else (Go.IntKind.wrap Go.IntKind.i64 (ex - ey))), ()))))).1, (((0 : Int), ((1 : Int), ())), ()))).1, ((Go.IntKind.wrap Go.IntKind.i64 (ex - (if ((70 : Int) < (Go.IntKind.wrap Go.IntKind.i64 (ex - ey))) then (70 : Int) else (Go.IntKind.wrap Go.IntKind.i64 (ex - ey))))), (((!(((S119.F ((S120.F (((0 : Int), (Y, ())), ((Go.IntKind.wrap Go.IntKind.i64 ((Go.IntKind.wrap Go.IntKind.i64 (ex - (if ((70 : Int) < (Go.IntKind.wrap Go.IntKind.i64 (ex - ey))) then (70 : Int) else (Go.IntKind.wrap Go.IntKind.i64 (ex - ey))))) - ey)), ()))).1, ((Go.IntKind.wrap Go.IntKind.i64 ((Go.IntKind.wrap Go.IntKind.i64 (ex - (if ((70 : Int) < (Go.IntKind.wrap Go.IntKind.i64 (ex - ey))) then (70 : Int) else (Go.IntKind.wrap Go.IntKind.i64 (ex - ey))))) - ey)), ()))).1.1 == (0 : Int)) && ((S119.F ((S120.F (((0 : Int), (Y, ())), ((Go.IntKind.wrap Go.IntKind.i64 ((Go.IntKind.wrap Go.IntKind.i64 (ex - (if ((70 : Int) < (Go.IntKind.wrap Go.IntKind.i64 (ex - ey))) then (70 : Int) else (Go.IntKind.wrap Go.IntKind.i64 (ex - ey))))) - ey)), ()))).1, ((Go.IntKind.wrap Go.IntKind.i64 ((Go.IntKind.wrap Go.IntKind.i64 (ex - (if ((70 : Int) < (Go.IntKind.wrap Go.IntKind.i64 (ex - ey))) then (70 : Int) else (Go.IntKind.wrap Go.IntKind.i64 (ex - ey))))) - ey)), ()))).1.2.1 == Y))) || ((decide ((Go.IntKind.wrap Go.IntKind.i64 ((Go.IntKind.wrap Go.IntKind.i64 (ex - (if ((70 : Int) < (Go.IntKind.wrap Go.IntKind.i64 (ex - ey))) then (70 : Int) else (Go.IntKind.wrap Go.IntKind.i64 (ex - ey))))) - ey)) > (63 : Int))) && (Y != (0 : Int)))), ()))))))))
                    else none)
                  else none)
                else bif ((((S124.F ((S120.F (((0 : Int), (Y, ())), ((Go.IntKind.wrap Go.IntKind.i64 ((Go.IntKind.wrap Go.IntKind.i64 (ex - (if ((70 : Int) < (Go.IntKind.wrap Go.IntKind.i64 (ex - ey))) then (70 : Int) else (Go.IntKind.wrap Go.IntKind.i64 (ex - ey))))) - ey)), ()))).1, (S119.F (((0 : Int), (X, ())), ((if ((70 : Int) < (Go.IntKind.wrap Go.IntKind.i64 (ex - ey))) then (70 : Int) else (Go.IntKind.wrap Go.IntKind.i64 (ex - ey))), ()))))).1.1 == (0 : Int)) && ((S124.F ((S120.F (((0 : Int), (Y, ())), ((Go.IntKind.wrap Go.IntKind.i64 ((Go.IntKind.wrap Go.IntKind.i64 (ex - (if ((70 : Int) < (Go.IntKind.wrap Go.IntKind.i64 (ex - ey))) then (70 : Int) else (Go.IntKind.wrap Go.IntKind.i64 (ex - ey))))) - ey)), ()))).1, (S119.F (((0 : Int), (X, ())), ((if ((70 : Int) < (Go.IntKind.wrap Go.IntKind.i64 (ex - ey))) then (70 : Int) else (Go.IntKind.wrap Go.IntKind.i64 (ex - ey))), ()))))).1.2.1 == (0 : Int))) && (!((!(((S119.F ((S120.F (((0 : Int), (Y, ())), ((Go.IntKind.wrap Go.IntKind.i64 ((Go.IntKind.wrap Go.IntKind.i64 (ex - (if ((70 : Int) < (Go.IntKind.wrap Go.IntKind.i64 (ex - ey))) then (70 : Int) else (Go.IntKind.wrap Go.IntKind.i64 (ex - ey))))) - ey)), ()))).1, ((Go.IntKind.wrap Go.IntKind.i64 ((Go.IntKind.wrap Go.IntKind.i64 (ex - (if ((70 : Int) < (Go.IntKind.wrap Go.IntKind.i64 (ex - ey))) then (70 : Int) else (Go.IntKind.wrap Go.IntKind.i64 (ex - ey))))) - ey)), ()))).1.1 == (0 : Int)) && ((S119.F ((S120.F (((0 : Int), (Y, ())), ((Go.IntKind.wrap Go.IntKind.i64 ((Go.IntKind.wrap Go.IntKind.i64 (ex - (if ((70 : Int) < (Go.IntKind.wrap Go.IntKind.i64 (ex - ey))) then (70 : Int) else (Go.IntKind.wrap Go.IntKind.i64 (ex - ey))))) - ey)), ()))).1, ((Go.IntKind.wrap Go.IntKind.i64 ((Go.IntKind.wrap Go.IntKind.i64 (ex - (if ((70 : Int) < (Go.IntKind.wrap Go.IntKind.i64 (ex - ey))) then (70 : Int) else (Go.IntKind.wrap Go.IntKind.i64 (ex - ey))))) - ey)), ()))).1.2.1 == Y))) || ((decide ((Go.IntKind.wrap Go.IntKind.i64 ((Go.IntKind.wrap Go.IntKind.i64 (ex - (if ((70 : Int) < (Go.IntKind.wrap Go.IntKind.i64 (ex - ey))) then (70 : Int) else (Go.IntKind.wrap Go.IntKind.i64 (ex - ey))))) - ey)) > (63 : Int))) && (Y != (0 : Int)))))) then
                  (bif (S118.pre (f, ((m == (4 : Int)), ()))) then
                    (some ((S118.F (f, ((m == (4 : Int)), ()))).1, ((0 : Int), ((0 : Int), ()))))
                  else none)
                else bif (S122.pre (f, (m, (ny, ((S124.F ((S120.F (((0 : Int), (Y, ())), ((Go.IntKind.wrap Go.IntKind.i64 ((Go.IntKind.wrap Go.IntKind.i64 (ex - (if ((70 : Int) < (Go.IntKind.wrap Go.IntKind.i64 (ex - ey))) then (70 : Int) else (Go.IntKind.wrap Go.IntKind.i64 (ex - ey))))) - ey)), ()))).1, (S119.F (((0 : Int), (X, ())), ((if ((70 : Int) < (Go.IntKind.wrap Go.IntKind.i64 (ex - ey))) then (70 : Int) else (Go.IntKind.wrap Go.IntKind.i64 (ex - ey))), ()))))).1, ((Go.IntKind.wrap Go.IntKind.i64 (ex - (if ((70 : Int) < (Go.IntKind.wrap Go.IntKind.i64 (ex - ey))) then (70 : Int) else (Go.IntKind.wrap Go.IntKind.i64 (ex - ey))))), (((!(((S119.F ((S120.F (((0 : Int), (Y, ())), ((Go.IntKind.wrap Go.IntKind.i64 ((Go.IntKind.wrap Go.IntKind.i64 (ex - (if ((70 : Int) < (Go.IntKind.wrap Go.IntKind.i64 (ex - ey))) then (70 : Int) else (Go.IntKind.wrap Go.IntKind.i64 (ex - ey))))) - ey)), ()))).1, ((Go.IntKind.wrap Go.IntKind.i64 ((Go.IntKind.wrap Go.IntKind.i64 (ex - (if ((70 : Int) < (Go.IntKind.wrap Go.IntKind.i64 (ex - ey))) then (70 : Int) else (Go.IntKind.wrap Go.IntKind.i64 (ex - ey))))) - ey)), ()))).1.1 == (0 : Int)) && ((S119.F ((S120.F (((0 : Int), (Y, ())), ((Go.IntKind.wrap Go.IntKind.i64 ((Go.IntKind.wrap Go.IntKind.i64 (ex - (if ((70 : Int) < (Go.IntKind.wrap Go.IntKind.i64 (ex - ey))) then (70 : Int) else (Go.IntKind.wrap Go.IntKind.i64 (ex - ey))))) - ey)), ()))).1, ((Go.IntKind.wrap Go.IntKind.i64 ((Go.IntKind.wrap Go.IntKind.i64 (ex - (if ((70 : Int) < (Go.IntKind.wrap Go.IntKind.i64 (ex - ey))) then (70 : Int) else (Go.IntKind.wrap Go.IntKind.i64 (ex - ey))))) - ey)), ()))).1.2.1 == Y))) || ((decide ((Go.IntKind.wrap Go.IntKind.i64 ((Go.IntKind.wrap Go.IntKind.i64 (ex - (if ((70 : Int) < (Go.IntKind.wrap Go.IntKind.i64 (ex - ey))) then (70 : Int) else (Go.IntKind.wrap Go.IntKind.i64 (ex - ey))))) - ey)) > (63 : Int))) && (Y != (0 : Int)))), ()))))))) then
                  (some (S122.F (f, (m, (ny, ((S124.F ((S120.F (((0 : Int), (Y, ())), ((Go.IntKind.wrap Go.IntKind.i64 ((Go.IntKind.wrap Go.IntKind.i64 (ex - (if ((70 : Int) < (Go.IntKind.wrap Go.IntKind.i64 (ex - ey))) then (70 : Int) else (Go.IntKind.wrap Go.IntKind.i64 (ex - ey))))) - ey)), ()))).1, (S119.F (((0 : Int), (X, ())), ((if ((70 : Int) < (Go.IntKind.wrap Go.IntKind.i64 (ex - ey))) then (70 : Int) else (Go.IntKind.wrap Go.IntKind.i64 (ex - ey))), ()))))).1, ((Go.IntKind.wrap Go.IntKind.i64 (ex - (if ((70 : Int) < (Go.IntKind.wrap Go.IntKind.i64 (ex - ey))) then (70 : Int) else (Go.IntKind.wrap Go.IntKind.i64 (ex - ey))))), (((!(((S119.F ((S120.F (((0 : Int), (Y, ())), ((Go.IntKind.wrap Go.IntKind.i64 ((Go.IntKind.wrap Go.IntKind.i64 (ex - (if ((70 : Int) < (Go.IntKind.wrap Go.IntKind.i64 (ex - ey))) then (70 : Int) else (Go.IntKind.wrap Go.IntKind.i64 (ex - ey))))) - ey)), ()))).1, ((Go.IntKind.wrap Go.IntKind.i64 ((Go.IntKind.wrap Go.IntKind.i64 (ex - (if ((70 : Int) < (Go.IntKind.wrap Go.IntKind.i64 (ex - ey))) then (70 : Int) else (Go.IntKind.wrap Go.IntKind.i64 (ex - ey))))) - ey)), ()))).1.1 == (0 : Int)) && ((S119.F ((S120.F (((0 : Int), (Y, ())), ((Go.IntKind.wrap Go.IntKind.i64 ((Go.IntKind.wrap Go.IntKind.i64 (ex - (if ((70 : Int) < (Go.IntKind.wrap Go.IntKind.i64 (ex - ey))) then (70 : Int) else (Go.IntKind.wrap Go.IntKind.i64 (ex - ey))))) - ey)), ()))).1, ((Go.IntKind.wrap Go.IntKind.i64 ((Go.IntKind.wrap Go.IntKind.i64 (ex - (if ((70 : Int) < (Go.IntKind.wrap Go.IntKind.i64 (ex - ey))) then (70 : Int) else (Go.IntKind.wrap Go.IntKind.i64 (ex - ey))))) - ey)), ()))).1.2.1 == Y))) || ((decide ((Go.IntKind.wrap Go.IntKind.i64 ((Go.IntKind.wrap Go.IntKind.i64 (ex - (if ((70 : Int) < (Go.IntKind.wrap Go.IntKind.i64 (ex - ey))) then (70 : Int) else (Go.IntKind.wrap Go.IntKind.i64 (ex - ey))))) - ey)) > (63 : Int))) && (Y != (0 : Int)))), ()))))))))
                else none)
              else none)
            else bif (S124.pre ((S119.F (((0 : Int), (X, ())), ((if ((70 : Int) < (Go.IntKind.wrap Go.IntKind.i64 (ex - ey))) then (70 : Int) else (Go.IntKind.wrap Go.IntKind.i64 (ex - ey))), ()))).1, (S120.F (((0 : Int), (Y, ())), ((Go.IntKind.wrap Go.IntKind.i64 ((Go.IntKind.wrap Go.IntKind.i64 (ex - (if ((70 : Int) < (Go.IntKind.wrap Go.IntKind.i64 (ex - ey))) then (70 : Int) else (Go.IntKind.wrap Go.IntKind.i64 (ex - ey))))) - ey)), ()))))) then
              (bif ((!(((S119.F ((S120.F (((0 : Int), (Y, ())), ((Go.IntKind.wrap Go.IntKind.i64 ((Go.IntKind.wrap Go.IntKind.i64 (ex - (if ((70 : Int) < (Go.IntKind.wrap Go.IntKind.i64 (ex - ey))) then (70 : Int) else (Go.IntKind.wrap Go.IntKind.i64 (ex - ey))))) - ey)), ()))).1, ((Go.IntKind.wrap Go.IntKind.i64 ((Go.IntKind.wrap Go.IntKind.i64 (ex - (if ((70 : Int) < (Go.IntKind.wrap Go.IntKind.i64 (ex - ey))) then (70 : Int) else (Go.IntKind.wrap Go.IntKind.i64 (ex - ey))))) - ey)), ()))).1.1 == (0 : Int)) && ((S119.F ((S120.F (((0 : Int), (Y, ())), ((Go.IntKind.wrap Go.IntKind.i64 ((Go.IntKind.wrap Go.IntKind.i64 (ex - (if ((70 : Int) < (Go.IntKind.wrap Go.IntKind.i64 (ex - ey))) then (70 : Int) else (Go.IntKind.wrap Go.IntKind.i64 (ex - ey))))) - ey)), ()))).1, ((Go.IntKind.wrap Go.IntKind.i64 ((Go.IntKind.wrap Go.IntKind.i64 (ex - (if ((70 : Int) < (Go.IntKind.wrap Go.IntKind.i64 (ex - ey))) then (70 : Int) else (Go.IntKind.wrap Go.IntKind.i64 (ex - ey))))) - ey)), ()))).1.2.1 == Y))) || ((decide ((Go.IntKind.wrap Go.IntKind.i64 ((Go.IntKind.wrap Go.IntKind.i64 (ex - (if ((70 : Int) < (Go.IntKind.wrap Go.IntKind.i64 (ex - ey))) then (70 : Int) else (Go.IntKind.wrap Go.IntKind.i64 (ex - ey))))) - ey)) > (63 : Int))) && (Y != (0 : Int)))) then
                (bif (S124.pre ((S124.F ((S119.F (((0 : Int), (X, ())), ((if ((70 : Int) < (Go.IntKind.wrap Go.IntKind.i64 (ex - ey))) then (70 : Int) else (Go.IntKind.wrap Go.IntKind.i64 (ex - ey))), ()))).1, (S120.F (((0 : Int), (Y, ())), ((Go.IntKind.wrap Go.IntKind.i64 ((Go.IntKind.wrap Go.IntKind.i64 (ex - (if ((70 : Int) < (Go.IntKind.wrap Go.IntKind.i64 (ex - ey))) then (70 : Int) else (Go.IntKind.wrap Go.IntKind.i64 (ex - ey))))) - ey)), ()))))).1, (((0 : Int), ((1 : Int), ())), ()))) then
                  (bif ((((S124.F ((S124.F ((S119.F (((0 : Int), (X, ())), ((if ((70 : Int) < (Go.IntKind.wrap Go.IntKind.i64 (ex - ey))) then (70 : Int) else (Go.IntKind.wrap Go.IntKind.i64 (ex - ey))), ()))).1, (S120.F (((0 : Int), (Y, ())), ((Go.IntKind.wrap Go.IntKind.i64 ((Go.IntKind.wrap Go.IntKind.i64 (ex - (if ((70 : Int) < (Go.IntKind.wrap Go.IntKind.i64 (ex - ey))) then (70 : Int) else (Go.IntKind.wrap Go.IntKind.i64 (ex - ey))))) - ey)), ()))))).1, (((0 : Int), ((1 : Int), ())), ()))).1.1 == (0 : Int)) && ((S124.F ((S124.F ((S119.F (((0 : Int), (X, ())), ((if ((70 : Int) < (Go.IntKind.wrap Go.IntKind.i64 (ex - ey))) then (70 : Int) else (Go.IntKind.wrap Go.IntKind.i64 (ex - ey))), ()))).1, (S120.F (((0 : Int), (Y, ())), ((Go.IntKind.wrap Go.IntKind.i64 ((Go.IntKind.wrap Go.IntKind.i64 (ex - (if ((70 : Int) < (Go.IntKind.wrap Go.IntKind.i64 (ex - ey))) then (70 : Int) else (Go.IntKind.wrap Go.IntKind.i64 (ex - ey))))) - ey)), ()))))).1, (((0 : Int), ((1 : Int), ())), ()))).1.2.1 == (0 : Int))) && (!((!(((S119.F ((S120.F (((0 : Int), (Y, ())), ((Go.IntKind.wrap Go.IntKind.i64 ((Go.IntKind.wrap Go.IntKind.i64 (ex - (if ((70 : Int) < (Go.IntKind.wrap Go.IntKind.i64 (ex - ey))) then (70 : Int) else (Go.IntKind.wrap Go.IntKind.i64 (ex - ey))))) - ey)), ()))).1, ((Go.IntKind.wrap Go.IntKind.i64 ((Go.IntKind.wrap Go.IntKind.i64 (ex - (if ((70 : Int) < (Go.IntKind.wrap Go.IntKind.i64 (ex - ey))) then (70 : Int) else (Go.IntKind.wrap Go.IntKind.i64 (ex - ey))))) - ey)), ()))).1.1 == (0 : Int)) && ((S119.F ((S120.F (((0 : Int), (Y, ())), ((Go.IntKind.wrap Go.IntKind.i64 ((Go.IntKind.wrap Go.IntKind.i64 (ex - (if ((70 : Int) < (Go.IntKind.wrap Go.IntKind.i64 (ex - ey))) then (70 : Int) else (Go.IntKind.wrap Go.IntKind.i64 (ex - ey))))) - ey)), ()))).1, ((Go.IntKind.wrap Go.IntKind.i64 ((Go.IntKind.wrap Go.IntKind.i64 (ex - (if ((70 : Int) < (Go.IntKind.wrap Go.IntKind.i64 (ex - ey))) then (70 : Int) else (Go.IntKind.wrap Go.IntKind.i64 (ex - ey))))) - ey)), ()))).1.2.1 == Y))) || ((decide ((Go.IntKind.wrap Go.IntKind.i64 ((Go.IntKind.wrap Go.IntKind.i64 (ex - (if ((70 : Int) < (Go.IntKind.wrap Go.IntKind.i64 (ex - ey))) then (70 : Int) else (Go.IntKind.wrap Go.IntKind.i64 (ex - ey))))) - ey)) > (63 : Int))) && (Y != (0 : Int)))))) then
                    (bif (S118.pre (f, ((m == (4 : Int)), ()))) then
                      (some ((S118.F (f, ((m == (4 : Int)), ()))).1, ((0 : Int), ((0 : Int), ()))))
                    else none)
                  else bif (S122.pre (f, (m, (nx, ((S124.F ((S124.F ((S119.F (((0 : Int), (X, ())), ((if ((70 : Int) < (Go.IntKind.wrap Go.IntKind.i64 (ex - ey))) then (70 : Int) else (Go.IntKind.wrap Go.IntKind.i64 (ex - ey))), ()))).1, (S120.F (((0 : Int), (Y, ())), ((Go.IntKind.wrap Go.IntKind.i64 ((Go.IntKind.wrap Go.IntKind.i64 (ex - (if ((70 : Int) < (Go.IntKind.wrap Go.IntKind.i64 (ex - ey))) then (70 : Int) else (Go.IntKind.wrap Go.IntKind.i64 (ex - ey))))) - ey)), ()))))).1, (((0 : Int), ((1 : Int), ())), ()))).1, ((Go.IntKind.wrap Go.IntKind.i64 (ex - (if ((70 : Int) < (Go.IntKind.wrap Go.IntKind.i64 (ex - ey))) then (70 : Int) else (Go.IntKind.wrap Go.IntKind.i64 (ex - ey))))), (((!(((S119.F ((S120.F (((0 : Int), (Y, ())), ((Go.IntKind.wrap Go.IntKind.i64 ((Go.IntKind.wrap Go.IntKind.i64 (ex - (if ((70 : Int) < (Go.IntKind.wrap Go.IntKind.i64 (ex - ey))) then (70 : Int) else (Go.IntKind.wrap Go.IntKind.i64 (ex - ey))))) - ey)), ()))).1, ((Go.IntKind.wrap Go.IntKind.i64 ((Go.IntKind.wrap Go.IntKind.i64 (ex - (if ((70 : Int) < (Go.IntKind.wrap Go.IntKind.i64 (ex - ey))) then (70 : Int) else (Go.IntKind.wrap Go.IntKind.i64 (ex - ey))))) - ey)), ()))).1.1 == (0 : Int)) && ((S119.F ((S120.F (((0 : Int), (Y, ())), ((Go.IntKind.wrap Go.IntKind.i64 ((Go.IntKind.wrap Go.IntKind.i64 (ex - (if ((70 : Int) < (Go.IntKind.wrap Go.IntKind.i64 (ex - ey))) then (70 : Int) else (Go.IntKind.wrap Go.IntKind.i64 (ex - ey))))) - ey)), ()))).1, ((Go.IntKind.wrap Go.IntKind.i64 ((Go.IntKind.wrap Go.IntKind.i64 (ex - (if ((70 : Int) < (Go.IntKind.wrap Go.IntKind.i64 (ex - ey))) then (70 : Int) else (Go.IntKind.wrap Go.IntKind.i64 (ex - ey))))) - ey)), ()))).1.2.1 == Y))) || ((decide ((Go.IntKind.wrap Go.IntKind.i64 ((Go.IntKind.wrap Go.IntKind.i64 (ex - (if ((70 : Int) < (Go.IntKind.wrap Go.IntKind.i64 (ex - ey))) then (70 : Int) else (Go.IntKind.wrap Go.IntKind.i64 (ex - ey))))) - ey)) > (63 : Int))) && (Y != (0 : Int)))), ()))))))) then
                    (some (S122.F (f, (m, (nx, ((S124.F ((S124.F ((S119.F (((0 : Int), (X, ())), ((if ((70 : Int) < (Go.IntKind.wrap Go.IntKind.i64 (ex - ey))) then (70 : Int) else (Go.IntKind.wrap Go.IntKind.i64 (ex - ey))), ()))).1, (S120.F (((0 : Int), (Y, ())), ((Go.IntKind.wrap Go.IntKind.i64 ((Go.IntKind.wrap Go.IntKind.i64 (ex - (if ((70 : Int) < (Go.IntKind.wrap Go.IntKind.i64 (ex - ey))) then (70 : Int) else (Go.IntKind.wrap Go.IntKind.i64 (ex - ey))))) - ey)), ()))))).1, (((0 : Int), ((1 : Int), ())), ()))).1, ((Go.IntKind.wrap Go.IntKind.i64 (ex - (if ((70 : Int) < (Go.IntKind.wrap Go.IntKind.i64 (ex - ey))) then (70 : Int) else (Go.IntKind.wrap Go.IntKind.i64 (ex - ey))))), (((!(((S119.F ((S120.F (((0 : Int), (Y, ())), ((Go.IntKind.wrap Go.IntKind.i64 ((Go.IntKind.wrap Go.IntKind.i64 (ex - (if ((70 : Int) < (Go.IntKind.wrap Go.IntKind.i64 (ex - ey))) then (70 : Int) else (Go.IntKind.wrap Go.IntKind.i64 (ex - ey))))) - ey)), ()))).1, ((Go.IntKind.wrap Go.IntKind.i64 ((Go.IntKind.wrap Go.IntKind.i64 (ex - (if ((70 : Int) < (Go.IntKind.wrap Go.IntKind.i64 (ex - ey))) then (70 : Int) else (Go.IntKind.wrap Go.IntKind.i64 (ex - ey))))) - ey)), ()))).1.1 == (0 : Int)) && ((S119.F ((S120.F (((0 : Int), (Y, ())), ((Go.IntKind.wrap Go.IntKind.i64 ((Go.IntKind.wrap Go.IntKind.i64 (ex - (if ((70 : Int) < (Go.IntKind.wrap Go.IntKind.i64 (ex - ey))) then (70 : Int) else (Go.IntKind.wrap Go.IntKind.i64 (ex - ey))))) - ey)), ()))).1, ((Go.IntKind.wrap Go.IntKind.i64 ((Go.IntKind.wrap Go.IntKind.i64 (ex - (if ((70 : Int) < (Go.IntKind.wrap Go.IntKind.i64 (ex - ey))) then (70 : Int) else (Go.IntKind.wrap Go.IntKind.i64 (ex - ey))))) - ey)), ()))).1.2.1 == Y))) || ((decide ((Go.IntKind.wrap Go.IntKind.i64 ((Go.IntKind.wrap Go.IntKind.i64 (ex - (if ((70 : Int) < (Go.IntKind.wrap Go.IntKind.i64 (ex - ey))) then (70 : Int) else (Go.IntKind.wrap Go.IntKind.i64 (ex - ey))))) - ey)) > (63 : Int))) && (Y != (0 : Int)))), ()))))))))
                  else none)
                else none)
              else bif ((((S124.F ((S119.F (((0 : Int), (X, ())), ((if ((70 : Int) < (Go.IntKind.wrap Go.IntKind.i64 (ex - ey))) then (70 : Int) else (Go.IntKind.wrap Go.IntKind.i64 (ex - ey))), ()))).1, (S120.F (((0 : Int), (Y, ())), ((Go.IntKind.wrap Go.IntKind.i64 ((Go.IntKind.wrap Go.IntKind.i64 (ex - (if ((70 : Int) < (Go.IntKind.wrap Go.IntKind.i64 (ex - ey))) then (70 : Int) else (Go.IntKind.wrap Go.IntKind.i64 (ex - ey))))) - ey)), ()))))).1.1 == (0 : Int)) && ((S124.F ((S119.F (((0 : Int), (X, ())), ((if ((70 : Int) < (Go.IntKind.wrap Go.IntKind.i64 (ex - ey))) then (70 : Int) else (Go.IntKind.wrap Go.IntKind.i64 (ex - ey))), ()))).1, (S120.F (((0 : Int), (Y, ())), ((Go.IntKind.wrap Go.IntKind.i64 ((Go.IntKind.wrap Go.IntKind.i64 (ex - (if ((70 : Int) < (Go.IntKind.wrap Go.IntKind.i64 (ex - ey))) then (70 : Int) else (Go.IntKind.wrap Go.IntKind.i64 (ex - ey))))) - ey)), ()))))).1.2.1 == (0 : Int))) && (!((!(((S119.F ((S120.F (((0 : Int), (Y, ())), ((Go.IntKind.wrap Go.IntKind.i64 ((Go.IntKind.wrap Go.IntKind.i64 (ex - (if ((70 : Int) < (Go.IntKind.wrap Go.IntKind.i64 (ex - ey))) then (70 : Int) else (Go.IntKind.wrap Go.IntKind.i64 (ex - ey))))) - ey)), ()))).1, ((Go.IntKind.wrap Go.IntKind.i64 ((Go.IntKind.wrap Go.IntKind.i64 (ex - (if ((70 : Int) < (Go.IntKind.wrap Go.IntKind.i64 (ex - ey))) then (70 : Int) else (Go.IntKind.wrap Go.IntKind.i64 (ex - ey))))) - ey)), ()))).1.1 == (0 : Int)) && ((S119.F ((S120.F (((0 : Int), (Y, ())), ((Go.IntKind.wrap Go.IntKind.i64 ((Go.IntKind.wrap Go.IntKind.i64 (ex - (if ((70 : Int) < (Go.IntKind.wrap Go.IntKind.i64 (ex - ey))) then (70 : Int) else (Go.IntKind.wrap Go.IntKind.i64 (ex - ey))))) - ey)), ()))).1, ((Go.IntKind.wrap Go.IntKind.i64 ((Go.IntKind.wrap Go.IntKind.i64 (ex - (if ((70 : Int) < (Go.IntKind.wrap Go.IntKind.i64 (ex - ey))) then (70 : Int) else (Go.IntKind.wrap Go.IntKind.i64 (ex - ey))))) - ey)), ()))).1.2.1 == Y))) || ((decide ((Go.IntKind.wrap Go.IntKind.i64 ((Go.IntKind.wrap Go.IntKind.i64 (ex - (if ((70 : Int) < (Go.IntKind.wrap Go.IntKind.i64 (ex - ey))) then (70 : Int) else (Go.IntKind.wrap Go.IntKind.i64 (ex - ey))))) - ey)) > (63 : Int))) && (Y != (0 : Int)))))) then
                (bif (S118.pre (f, ((m == (4 : Int)), ()))) then
                  (some ((S118.F (f, ((m == (4 : Int)), ()))).1, ((0 : Int), ((0 : Int), ()))))
                else none)
              else bif (S122.pre (f, (m, (nx, ((S124.F ((S119.F (((0 : Int), (X, ())), ((if ((70 : Int) < (Go.IntKind.wrap Go.IntKind.i64 (ex - ey))) then (70 : Int) else (Go.IntKind.wrap Go.IntKind.i64 (ex - ey))), ()))).1, (S120.F (((0 : Int), (Y, ())), ((Go.IntKind.wrap Go.IntKind.i64 ((Go.IntKind.wrap Go.IntKind.i64 (ex - (if ((70 : Int) < (Go.IntKind.wrap Go.IntKind.i64 (ex - ey))) then (70 : Int) else (Go.IntKind.wrap Go.IntKind.i64 (ex - ey))))) - ey)), ()))))).1, ((Go.IntKind.wrap Go.IntKind.i64 (ex - (if ((70 : Int) < (Go.IntKind.wrap Go.IntKind.i64 (ex - ey))) then (70 : Int) else (Go.IntKind.wrap Go.IntKind.i64 (ex - ey))))), (((!(((S119.F ((S120.F (((0 : Int), (Y, ())), ((Go.IntKind.wrap Go.IntKind.i64 ((Go.IntKind.wrap Go.IntKind.i64 (ex - (if ((70 : Int) < (Go.IntKind.wrap Go.IntKind.i64 (ex - ey))) then (70 : Int) else (Go.IntKind.wrap Go.IntKind.i64 (ex - ey))))) - ey)), ()))).1, ((Go.IntKind.wrap Go.IntKind.i64 ((Go.IntKind.wrap Go.IntKind.i64 (ex - (if ((70 : Int) < (Go.IntKind.wrap Go.IntKind.i64 (ex - ey))) then (70 : Int) else (Go.IntKind.wrap Go.IntKind.i64 (ex - ey))))) - ey)), ()))).1.1 == (0 : Int)) && ((S119.F ((S120.F (((0 : Int), (Y, ())), ((Go.IntKind.wrap Go.IntKind.i64 ((Go.IntKind.wrap Go.IntKind.i64 (ex - (if ((70 : Int) < (Go.IntKind.wrap Go.IntKind.i64 (ex - ey))) then (70 : Int) else (Go.IntKind.wrap Go.IntKind.i64 (ex - ey))))) - ey)), ()))).1, ((Go.IntKind.wrap Go.IntKind.i64 ((Go.IntKind.wrap Go.IntKind.i64 (ex - (if ((70 : Int) < (Go.IntKind.wrap Go.IntKind.i64 (ex - ey))) then (70 : Int) else (Go.IntKind.wrap Go.IntKind.i64 (ex - ey))))) - ey)), ()))).1.2.1 == Y))) || ((decide ((Go.IntKind.wrap Go.IntKind.i64 ((Go.IntKind.wrap Go.IntKind.i64 (ex - (if ((70 : Int) < (Go.IntKind.wrap Go.IntKind.i64 (ex - ey))) then (70 : Int) else (Go.IntKind.wrap Go.IntKind.i64 (ex - ey))))) - ey)) > (63 : Int))) && (Y != (0 : Int)))), ()))))))) then
                (some (S122.F (f, (m, (nx, ((S124.F ((S119.F (((0 : Int), (X, ())), ((if ((70 : Int) < (Go.IntKind.wrap Go.IntKind.i64 (ex - ey))) then (70 : Int) else (Go.IntKind.wrap Go.IntKind.i64 (ex - ey))), ()))).1, (S120.F (((0 : Int), (Y, ())), ((Go.IntKind.wrap Go.IntKind.i64 ((Go.IntKind.wrap Go.IntKind.i64 (ex - (if ((70 : Int) < (Go.IntKind.wrap Go.IntKind.i64 (ex - ey))) then (70 : Int) else (Go.IntKind.wrap Go.IntKind.i64 (ex - ey))))) - ey)), ()))))).1, ((Go.IntKind.wrap Go.IntKind.i64 (ex - (if ((70 : Int) < (Go.IntKind.wrap Go.IntKind.i64 (ex - ey))) then (70 : Int) else (Go.IntKind.wrap Go.IntKind.i64 (ex - ey))))), (((!(((S119.F ((S120.F (((0 : Int), (Y, ())), ((Go.IntKind.wrap Go.IntKind.i64 ((Go.IntKind.wrap Go.IntKind.i64 (ex - (if ((70 : Int) < (Go.IntKind.wrap Go.IntKind.i64 (ex - ey))) then (70 : Int) else (Go.IntKind.wrap Go.IntKind.i64 (ex - ey))))) - ey)), ()))).1, ((Go.IntKind.wrap Go.IntKind.i64 ((Go.IntKind.wrap Go.IntKind.i64 (ex - (if ((70 : Int) < (Go.IntKind.wrap Go.IntKind.i64 (ex - ey))) then (70 : Int) else (Go.IntKind.wrap Go.IntKind.i64 (ex - ey))))) - ey)), ()))).1.1 == (0 : Int)) && ((S119.F ((S120.F (((0 : Int), (Y, ())), ((Go.IntKind.wrap Go.IntKind.i64 ((Go.IntKind.wrap Go.IntKind.i64 (ex - (if ((70 : Int) < (Go.IntKind.wrap Go.IntKind.i64 (ex - ey))) then (70 : Int) else (Go.IntKind.wrap Go.IntKind.i64 (ex - ey))))) - ey)), ()))).1, ((Go.IntKind.wrap Go.IntKind.i64 ((Go.IntKind.wrap Go.IntKind.i64 (ex - (if ((70 : Int) < (Go.IntKind.wrap Go.IntKind.i64 (ex - ey))) then (70 : Int) else (Go.IntKind.wrap Go.IntKind.i64 (ex - ey))))) - ey)), ()))).1.2.1 == Y))) || ((decide ((Go.IntKind.wrap Go.IntKind.i64 ((Go.IntKind.wrap Go.IntKind.i64 (ex - (if ((70 : Int) < (Go.IntKind.wrap Go.IntKind.i64 (ex - ey))) then (70 : Int) else (Go.IntKind.wrap Go.IntKind.i64 (ex - ey))))) - ey)) > (63 : Int))) && (Y != (0 : Int)))), ()))))))))
              else none)
            else none)
          else none)
        else none)
      else none)
    else none)
  else none
theorem t71_tail (f m : Int) (nx : Bool) (X ex : Int) (ny : Bool) (Y ey : Int) : T71 (f, m, (nx, X, ex, ()), (ny, Y, ey, ()), ()) =
  (bif ((X == 0) && (Y == 0)) && (nx == ny) then (bif S118.pre (f, nx, ()) then some ((S118.F (f, nx, ())).1, 0, 0, ()) else none)
  else bif (X == 0) || ((Y != 0) && decide (ex < ey)) then (bif X == 0 then tail71 f m ny Y ey nx X ey else tail71 f m ny Y ey nx X ex)
  else bif Y == 0 then tail71 f m nx X ex ny Y ex else tail71 f m nx X ex ny Y ey) := by kernel_rfl
theorem Wi_pair {n : Nat} (h : n < 2 ^ 64) : ((0 : Int), ((n : Int), ())) = Wi n := by
  unfold Wi
  rw [Nat.div_eq_of_lt h, Nat.mod_eq_of_lt h]; rfl
theorem Wi_one : ((0 : Int), ((1 : Int), ())) = Wi 1 := rfl
theorem Wi_zero {n : Nat} (h : n < 2 ^ 128) : (((Wi n).1 == 0) && ((Wi n).2.1 == 0)) = decide (n = 0) := by
  show (((n / 2 ^ 64 : Nat) : Int) == 0 && ((n % 2 ^ 64 : Nat) : Int) == 0) = _
  rw [nbeq0, nbeq0, Bool.eq_iff_iff, Bool.and_eq_true, beq_iff_eq, beq_iff_eq, decide_eq_true_eq]
  omega
theorem more_eq {Y dn : Nat} (hY : Y < 2 ^ 64) : ((!(((Wi (Y / 2 ^ dn * 2 ^ dn)).1 == 0) && ((Wi (Y / 2 ^ dn * 2 ^ dn)).2.1 == (Y : Int)))) || (decide ((dn : Int) > 63) && ((Y : Int) != 0))) = decide (Y % 2 ^ dn ≠ 0) := by
  have hdm := Nat.div_add_mod Y (2 ^ dn)
  rw [Nat.mul_comm] at hdm
  generalize hL : Y / 2 ^ dn * 2 ^ dn = L at *
  show ((!(((L / 2 ^ 64 : Nat) : Int) == 0 && ((L % 2 ^ 64 : Nat) : Int) == (Y : Int))) || (decide ((dn : Int) > 63) && ((Y : Int) != 0))) = _
  rw [nbeq0, nbeq, nbne0]
  by_cases h : Y % 2 ^ dn = 0
  · rw [decide_eq_false (p := Y % 2 ^ dn ≠ 0) (by omega)]
    rw [show (L / 2 ^ 64 == 0) = true by rw [beq_iff_eq]; omega, show (L % 2 ^ 64 == Y) = true by rw [beq_iff_eq]; omega]
    by_cases hy : Y = 0
    · rw [hy]; simp
    · have : ¬ (dn : Int) > 63 := fun hd => by
        have h1 : Y < 2 ^ dn := Nat.lt_of_lt_of_le hY (Nat.pow_le_pow_right (by decide) (by omega))
        rw [Nat.mod_eq_of_lt h1] at h
        exact hy h
      rw [decide_eq_false this]; rfl
  · rw [decide_eq_true (p := Y % 2 ^ dn ≠ 0) h]
    rw [show (L % 2 ^ 64 == Y) = false by rw [beq_eq_false_iff_ne]; omega]
    simp
theorem blen_ge {n k : Nat} (h : 2 ^ k ≤ n) : k + 1 ≤ blen n := by
  have h1 := blen_lt n
  have : k < blen n := (Nat.pow_lt_pow_iff_right (a := 2) (by decide)).1 (Nat.lt_of_le_of_lt h h1)
  omega
/-- the exact sum, rounded -/
def sumBits (f m : Int) (nx : Bool) (X : Nat) (ex : Int) (ny : Bool) (Y : Nat) (ey : Int) : Nat × Nat :=
  let e := if ex ≤ ey then ex else ey
  let a := X * 2 ^ (ex - e).toNat
  let b := Y * 2 ^ (ey - e).toNat
  if nx = ny then (if a + b = 0 then (sgnF f nx, 0) else rndN f m nx (a + b) e false)
  else if a = b then (sgnF f (m == 4), 0) else if b < a then rndN f m nx (a - b) e false else rndN f m ny (b - a) e false
theorem sum_at {f m : Int} {nx : Bool} {X : Nat} {ey : Int} {ny : Bool} {Y : Nat} (D : Nat) :
    sumBits f m nx X (ey + D) ny Y ey = if nx = ny then (if X * 2 ^ D + Y = 0 then (sgnF f nx, 0) else rndN f m nx (X * 2 ^ D + Y) ey false)
      else if X * 2 ^ D = Y then (sgnF f (m == 4), 0) else if Y < X * 2 ^ D then rndN f m nx (X * 2 ^ D - Y) ey false else rndN f m ny (Y - X * 2 ^ D) ey false := by
  unfold sumBits
  have he : (if ey + (D : Int) ≤ ey then ey + (D : Int) else ey) = ey := by split <;> omega
  simp only [he]
  rw [show (ey + (D : Int) - ey).toNat = D by omega, show (ey - ey).toNat = 0 by omega, Nat.pow_zero, Nat.mul_one]
theorem sum_comm (f m : Int) (nx : Bool) (X : Nat) (ex : Int) (ny : Bool) (Y : Nat) (ey : Int) : sumBits f m nx X ex ny Y ey = sumBits f m ny Y ey nx X ex := by
  unfold sumBits
  have he : (if ex ≤ ey then ex else ey) = (if ey ≤ ex then ey else ex) := by split <;> split <;> omega
  simp only [he]
  generalize (if ey ≤ ex then ey else ex) = e
  generalize X * 2 ^ (ex - e).toNat = a
  generalize Y * 2 ^ (ey - e).toNat = b
  by_cases hn : nx = ny
  · subst hn
    rw [if_pos rfl, if_pos rfl, Nat.add_comm]
  · rw [if_neg hn, if_neg (Ne.symm hn)]
    rcases Nat.lt_trichotomy a b with h | h | h
    · rw [if_neg (by omega), if_neg (by omega), if_neg (by omega), if_pos h]
    · rw [if_pos h, if_pos h.symm]
    · rw [if_neg (by omega), if_pos h, if_neg (by omega), if_neg (by omega)]
/-- a zero's exponent doesn't count -/
theorem sum_zero {f m : Int} (hf : Fm f) (nx : Bool) (X : Nat) (ex : Int) (ny : Bool) (ey : Int) : sumBits f m nx X ex ny 0 ey = if X = 0 then (if nx = ny then (sgnF f nx, 0) else (sgnF f (m == 4), 0)) else rndN f m nx X ex false := by
  rcases Int.le_total ex ey with h | h
  · obtain ⟨D, hD⟩ := Int.eq_ofNat_of_zero_le (show 0 ≤ ey - ex by omega)
    have : ey = ex + D := by omega
    subst this
    rw [sum_comm, sum_at, Nat.zero_mul, Nat.zero_add]
    by_cases hn : nx = ny
    · subst hn
      simp only [↓reduceIte]
    · rw [if_neg (Ne.symm hn), if_neg hn]
      by_cases hx : X = 0
      · subst hx
        simp only [↓reduceIte]
      · rw [if_neg (by omega), if_neg (by omega), if_neg hx, Nat.sub_zero]
  · obtain ⟨D, hD⟩ := Int.eq_ofNat_of_zero_le (show 0 ≤ ex - ey by omega)
    have : ex = ey + D := by omega
    subst this
    rw [sum_at, Nat.add_zero]
    by_cases hx : X = 0
    · subst hx
      rw [if_pos rfl, Nat.zero_mul, if_pos rfl, if_pos rfl]
    · have hp := Nat.two_pow_pos D
      have hpos : 0 < X * 2 ^ D := Nat.mul_pos (by omega) hp
      rw [if_neg hx]
      by_cases hn : nx = ny
      · rw [if_pos hn, if_neg (by omega), rnd_scale hf hx]
      · rw [if_neg hn, if_neg (by omega), if_pos hpos, Nat.sub_zero, rnd_scale hf hx]
theorem tail_eq {f m : Int} (hf : Fm f) (hm : 0 ≤ m ∧ m ≤ 5) (nx : Bool) (X D : Nat) (ny : Bool) (Y : Nat) (ey : Int) (hX : X < 2 ^ 53) (hY : Y < 2 ^ 53) (he : -2000 ≤ ey ∧ ey + D ≤ 2000) (h0 : X ≠ 0 ∨ (Y = 0 ∧ nx ≠ ny)) :
    tail71 f m nx X (ey + D) ny Y ey = some (((sumBits f m nx X (ey + D) ny Y ey).1 : Int), ((sumBits f m nx X (ey + D) ny Y ey).2 : Int), 0, ()) := by
  rw [sum_at]
  have hW := fW_le hf
  have hP := fP_lt hf
  have hU : ∃ U dn : Nat, (if (70 : Int) < (D : Int) then (70 : Int) else (D : Int)) = (U : Int) ∧ D = U + dn ∧ U ≤ 70 ∧ (dn ≠ 0 → U = 70) := by
    by_cases h : 70 < D
    · exact ⟨70, D - 70, by rw [if_pos (by omega)]; rfl, by omega, by omega, fun _ => rfl⟩
    · exact ⟨D, 0, by rw [if_neg (by omega)], by omega, by omega, fun h => absurd rfl h⟩
  obtain ⟨U, dn, hU1, hU2, hU3, hU4⟩ := hU
  have e1 : IntKind.wrap .i64 (ey + (D : Int) - ey) = (D : Int) := by rw [wrapI (by omega)]; omega
  have e2 : IntKind.wrap .i64 (ey + (D : Int) - (U : Int)) = ey + (dn : Int) := by rw [wrapI (by omega)]; omega
  have e3 : IntKind.wrap .i64 (ey + (dn : Int) - ey) = (dn : Int) := by rw [wrapI (by omega)]; omega
  have hpU := Nat.two_pow_pos U
  have hpd := Nat.two_pow_pos dn
  have hU70 : 2 ^ U ≤ 2 ^ 70 := Nat.pow_le_pow_right (by decide) hU3
  have hH : X * 2 ^ U < 2 ^ 123 := by
    have h1 : X * 2 ^ U ≤ X * 2 ^ 70 := Nat.mul_le_mul_left _ hU70
    have h2 : X * 2 ^ 70 < 2 ^ 53 * 2 ^ 70 := Nat.mul_lt_mul_of_pos_right hX (by decide)
    omega
  have hXD : X * 2 ^ D = X * 2 ^ U * 2 ^ dn := by rw [hU2, Nat.pow_add, Nat.mul_assoc]
  have hbig : Y % 2 ^ dn ≠ 0 → 2 ^ 70 ≤ X * 2 ^ U ∧ X ≠ 0 := fun h => by
    have hd : dn ≠ 0 := fun h1 => by rw [h1, Nat.pow_zero, Nat.mod_one] at h; exact h rfl
    have hy : Y ≠ 0 := fun h1 => by rw [h1, Nat.zero_mod] at h; exact h rfl
    have hx : X ≠ 0 := by
      rcases h0 with h | h
      · exact h
      · exact absurd h.1 hy
    refine ⟨?_, hx⟩
    rw [hU4 hd]
    exact Nat.le_mul_of_pos_left _ (by omega)
  have hYL : Y / 2 ^ dn ≤ Y := Nat.div_le_self _ _
  have hLd : Y / 2 ^ dn * 2 ^ dn ≤ Y := Nat.div_mul_le_self _ _
  have p1 : T119 (((0 : Int), ((X : Int), ())), ((U : Int), ())) = some (Wi (X * 2 ^ U), ()) := by
    rw [Wi_pair (by omega), T119_eq _ _ (by omega), Nat.mod_eq_of_lt (by omega)]
  have p2 : T120 (((0 : Int), ((Y : Int), ())), ((dn : Int), ())) = some (Wi (Y / 2 ^ dn), ()) := by
    rw [Wi_pair (by omega), T120_eq _ _ (by omega)]
  have p3 : T119 (Wi (Y / 2 ^ dn), ((dn : Int), ())) = some (Wi (Y / 2 ^ dn * 2 ^ dn), ()) := by
    rw [T119_eq _ _ (by omega), Nat.mod_eq_of_lt (by omega)]
  have p4 := T121_eq (X * 2 ^ U) (Y / 2 ^ dn) (by omega)
  have p5 := T123_eq (X * 2 ^ U) (Y / 2 ^ dn)
  have pz := T118_ok hf (m == 4)
  unfold tail71
  simp only [e1, hU1, e2, e3, pre119 p1, fun119 p1, pre120 p2, fun120 p2, pre119 p3, fun119 p3, cond_true, pre121 p4, fun121 p4, pre123 p5, fun123 p5, more_eq (show Y < 2 ^ 64 by omega)]
  have hdm := Nat.div_add_mod Y (2 ^ dn)
  have hml := Nat.mod_lt Y hpd
  have hX0H : X = 0 → X * 2 ^ U = 0 := fun h => by rw [h, Nat.zero_mul]
  have hXb : X ≠ 0 → dn ≠ 0 → 2 ^ 70 ≤ X * 2 ^ U := fun h1 h2 => by rw [hU4 h2]; exact Nat.le_mul_of_pos_left _ (by omega)
  have hHp : X ≠ 0 → 0 < X * 2 ^ U := fun h => Nat.mul_pos (by omega) hpU
  clear e1 e2 e3 p1 p2 p3
  rw [Nat.mul_comm] at hdm
  generalize hHe : X * 2 ^ U = H at *
  generalize hLe : Y / 2 ^ dn = L at *
  generalize hRe : Y % 2 ^ dn = R at *
  by_cases hn : nx = ny
  · subst hn
    rw [if_pos rfl, show (nx == nx) = true by cases nx <;> rfl, cond_true]
    have hX0 : X ≠ 0 := by
      rcases h0 with h | h
      · exact h
      · exact absurd rfl h.2
    have hHp := hHp hX0
    have hN : X * 2 ^ D + Y = Y + H * 2 ^ dn := by rw [hXD, Nat.add_comm]
    have hNd : (X * 2 ^ D + Y) / 2 ^ dn = H + L := by rw [hN, Nat.add_mul_div_right _ _ hpd, hLe, Nat.add_comm]
    have hNm : (X * 2 ^ D + Y) % 2 ^ dn = R := by rw [hN, Nat.add_mul_mod_self_right, hRe]
    have hbl : R ≠ 0 → fP f + 2 ≤ blen (H + L) := fun h => by
      have h1 := (hbig h).1
      have := blen_ge (n := H + L) (k := 70) (by omega)
      omega
    have p6 := T122_eq hf hm nx (H + L) (by omega) (ey + (dn : Int)) (by omega) (decide (R ≠ 0)) (fun h => hbl (by simpa using h))
    rw [if_neg (by omega)] at p6
    simp only [pre122 p6, fun122 p6, cond_true]
    have htr := rnd_trunc (f := f) (m := m) (neg := nx) (N := X * 2 ^ D + Y) (k := dn) (E := ey) hf (by rw [hNd]; omega) (by rw [hNd, hNm]; exact hbl)
    rw [hNd, hNm] at htr
    have hpp : 0 < H * 2 ^ dn := Nat.mul_pos hHp hpd
    rw [htr, if_neg (by rw [hXD]; omega)]
  · rw [if_neg hn, show (nx == ny) = false by cases nx <;> cases ny <;> first | rfl | exact absurd rfl hn, cond_false]
    by_cases hlt : H < L
    · -- low is the greater: nothing is lost
      have hm0 : R = 0 := by
        by_cases h : R = 0
        · exact h
        · have := (hbig h).1; omega
      have hdn : dn = 0 := by
        by_cases h : dn = 0
        · exact h
        · exfalso
          rcases h0 with h1 | h1
          · have h2 := hXb h1 h
            omega
          · have := h1.1; omega
      subst hdn
      have hY1 : Y = L := by rw [← hLe]; simp
      subst hY1
      have hXD1 : X * 2 ^ D = H := by rw [hXD]; simp
      rw [hm0, hXD1]
      have p7 := T124_eq Y H (by omega) (by omega)
      have p6 := T122_eq hf hm ny (Y - H) (by omega) (ey + ((0 : Nat) : Int)) (by omega) false (fun h => by cases h)
      rw [if_neg (by omega)] at p6
      have z1 : decide ((if H = Y then (0 : Int) else if H < Y then -1 else 1) < 0) = true := by
        rw [if_neg (by omega), if_pos hlt]; rfl
      have z2 : decide ((0 : Nat) ≠ 0) = false := by decide
      have z3 := Wi_zero (n := Y - H) (by omega)
      rw [decide_eq_false (p := Y - H = 0) (by omega)] at z3
      simp only [z1, z2, cond_true, cond_false, pre124 p7, fun124 p7, z3, Bool.false_and, pre122 p6, fun122 p6]
      rw [if_neg (by omega), if_neg (by omega), Int.natCast_zero, Int.add_zero]
    · have hge : L ≤ H := by omega
      have p7 := T124_eq H L (by omega) hge
      have z1 : decide ((if H = L then (0 : Int) else if H < L then -1 else 1) < 0) = false := by
        by_cases h : H = L
        · rw [if_pos h]; rfl
        · rw [if_neg h, if_neg hlt]; rfl
      simp only [z1, cond_false, pre124 p7, fun124 p7, cond_true]
      by_cases hm0 : R = 0
      · rw [hm0, show decide ((0 : Nat) ≠ 0) = false by decide, cond_false]
        have hYe : Y = L * 2 ^ dn := by omega
        have z3 := Wi_zero (n := H - L) (by omega)
        rw [z3]
        by_cases hz : H - L = 0
        · have heq : X * 2 ^ D = Y := by rw [hXD, hYe, show H = L by omega]
          rw [decide_eq_true hz, if_pos heq]
          simp only [Bool.not_false, Bool.and_self, cond_true, pre118 pz, fun118 pz]
          rfl
        · rw [decide_eq_false hz]
          have p6 := T122_eq hf hm nx (H - L) (by omega) (ey + (dn : Int)) (by omega) false (fun h => by cases h)
          rw [if_neg hz] at p6
          simp only [Bool.false_and, cond_false, pre122 p6, fun122 p6, cond_true]
          have hN : X * 2 ^ D - Y = (H - L) * 2 ^ dn := by rw [hXD, Nat.sub_mul, ← hYe]
          have hpp : 0 < (H - L) * 2 ^ dn := Nat.mul_pos (by omega) hpd
          have hlt2 : Y < X * 2 ^ D := by omega
          rw [if_neg (by omega), if_pos hlt2, hN, rnd_scale hf hz]
      · rw [decide_eq_true (p := R ≠ 0) hm0, cond_true]
        obtain ⟨hb1, hX0⟩ := hbig hm0
        have p8 := T124_eq (H - L) 1 (by omega) (by omega)
        rw [← Wi_one] at p8
        have hbl : fP f + 2 ≤ blen (H - L - 1) := by
          have := blen_ge (n := H - L - 1) (k := 69) (by omega)
          omega
        have p6 := T122_eq hf hm nx (H - L - 1) (by omega) (ey + (dn : Int)) (by omega) true (fun _ => hbl)
        rw [if_neg (by omega)] at p6
        simp only [pre124 p8, fun124 p8, cond_true, Bool.not_true, Bool.and_false, cond_false, pre122 p6, fun122 p6]
        have h2 : (L + 1 + (H - L - 1)) * 2 ^ dn = H * 2 ^ dn := by rw [show L + 1 + (H - L - 1) = H by omega]
        rw [Nat.add_mul, Nat.add_mul, Nat.one_mul] at h2
        have hN : X * 2 ^ D - Y = (2 ^ dn - R) + (H - L - 1) * 2 ^ dn := by rw [hXD]; omega
        have hlt2 : Y < X * 2 ^ D := by omega
        have hNd : (X * 2 ^ D - Y) / 2 ^ dn = H - L - 1 := by
          rw [hN, Nat.add_mul_div_right _ _ hpd, Nat.div_eq_of_lt (by omega), Nat.zero_add]
        have hNm : (X * 2 ^ D - Y) % 2 ^ dn = 2 ^ dn - R := by
          rw [hN, Nat.add_mul_mod_self_right, Nat.mod_eq_of_lt (by omega)]
        have htr := rnd_trunc (f := f) (m := m) (neg := nx) (N := X * 2 ^ D - Y) (k := dn) (E := ey) hf (by rw [hNd]; omega) (fun _ => by rw [hNd]; exact hbl)
        rw [hNd, hNm, decide_eq_true (p := 2 ^ dn - R ≠ 0) (by omega)] at htr
        rw [htr, if_neg (by omega), if_pos hlt2]
theorem T71_eq {f m : Int} (hf : Fm f) (hm : 0 ≤ m ∧ m ≤ 5) (nx : Bool) (X : Nat) (ex : Int) (ny : Bool) (Y : Nat) (ey : Int) (hX : X < 2 ^ 53) (hY : Y < 2 ^ 53) (hex : -2000 ≤ ex ∧ ex ≤ 2000) (hey : -2000 ≤ ey ∧ ey ≤ 2000) :
    T71 (f, m, (nx, (X : Int), ex, ()), (ny, (Y : Int), ey, ()), ()) = some (((sumBits f m nx X ex ny Y ey).1 : Int), ((sumBits f m nx X ex ny Y ey).2 : Int), 0, ()) := by
  rw [t71_tail]
  by_cases hX0 : X = 0
  · subst hX0
    by_cases hYn : Y = 0 ∧ nx = ny
    · obtain ⟨rfl, rfl⟩ := hYn
      have p0 := T118_ok hf nx
      rw [show ((((0 : Nat) : Int) == 0) && (((0 : Nat) : Int) == 0) && (nx == nx)) = true by cases nx <;> rfl, cond_true]
      simp only [pre118 p0, fun118 p0, cond_true]
      rw [sum_zero hf, if_pos rfl, if_pos rfl]
      rfl
    · have hg : ((((0 : Nat) : Int) == 0) && (((Y : Nat) : Int) == 0) && (nx == ny)) = false := by
        by_cases hy : Y = 0
        · have : nx ≠ ny := fun h => hYn ⟨hy, h⟩
          subst hy
          cases nx <;> cases ny <;> first | rfl | exact absurd rfl this
        · rw [beq0_f Y hy, Bool.and_false, Bool.false_and]
      have h1 : (((0 : Nat) : Int) == 0) = true := rfl
      rw [hg, cond_false, h1, Bool.true_or, cond_true, cond_true]
      have ht := tail_eq hf hm ny Y 0 nx 0 ey hY hX (by omega) (by
        by_cases hy : Y = 0
        · exact .inr ⟨rfl, fun h => hYn ⟨hy, h.symm⟩⟩
        · exact .inl hy)
      rw [Int.natCast_zero, Int.add_zero] at ht
      rw [Int.natCast_zero, ht, sum_comm f m nx 0 ex, sum_zero hf, sum_zero hf]
  · have hx0 : ((X : Int) == 0) = false := beq0_f _ hX0
    rw [hx0, Bool.false_and, Bool.false_and, cond_false, Bool.false_or, cond_false]
    by_cases hY0 : Y = 0
    · subst hY0
      have ht := tail_eq hf hm nx X 0 ny 0 ex hX hY (by omega) (.inl hX0)
      rw [Int.natCast_zero, Int.add_zero] at ht
      rw [show (((0 : Nat) : Int) != 0) = false by rfl, Bool.false_and, cond_false, show (((0 : Nat) : Int) == 0) = true by rfl, cond_true, Int.natCast_zero, ht, sum_zero hf, sum_zero hf]
    · rw [bne0_t _ hY0, Bool.true_and, beq0_f _ hY0, cond_false]
      by_cases hlt : ex < ey
      · rw [decide_eq_true hlt, cond_true]
        obtain ⟨D, hD⟩ := Int.eq_ofNat_of_zero_le (show 0 ≤ ey - ex by omega)
        have hee : ey = ex + D := by omega
        subst hee
        rw [tail_eq hf hm ny Y D nx X ex hY hX (by omega) (.inl hY0), sum_comm f m ny Y]
      · rw [decide_eq_false hlt, cond_false]
        obtain ⟨D, hD⟩ := Int.eq_ofNat_of_zero_le (show 0 ≤ ex - ey by omega)
        have hee : ex = ey + D := by omega
        subst hee
        rw [tail_eq hf hm nx X D ny Y ey hX hY (by omega) (.inl hX0)]
end VL
namespace VL
open Go Vx
def Hs (l : List Nat) : Prop := (∀ x ∈ l, x < 2 ^ 32) ∧ l.length ≤ 1000000
theorem Hs.dg {n : Nat} (h : n < 2 ^ 100000) : Hs (dg (2 ^ 32) n) := by
  refine ⟨dg_lt (by decide) n, ?_⟩
  have : n < (2 ^ 32) ^ 3125 := by rw [← Nat.pow_mul]; exact h
  have := dg_len_le (B := 2 ^ 32) (by decide) 3125 n this
  omega
end VL
namespace VL
open Go Vx
theorem nv_drop_next (B : Nat) (l : List Nat) (i : Nat) (h : i < l.length) : nv B (l.drop i) = l.getD i 0 + B * nv B (l.drop (i + 1)) := by
  rw [List.drop_eq_getElem_cons h, List.getD_eq_getElem?_getD, List.getElem?_eq_getElem h]; rfl
theorem take_lt {B : Nat} (hB : 2 ≤ B) {l : List Nat} (h : ∀ x ∈ l, x < B) (i : Nat) : nv B (l.take i) < B ^ i := by
  have := nv_lt hB (l.take i) fun x hx => h x (List.mem_of_mem_take hx)
  refine Nat.lt_of_lt_of_le this (Nat.pow_le_pow_right (by omega) ?_)
  rw [List.length_take]
  exact Nat.min_le_left _ _
theorem split_lt {P A A' X Y : Nat} (h : A < P) (hxy : X < Y) : A + P * X < A' + P * Y := by
  have : P * (X + 1) ≤ P * Y := Nat.mul_le_mul_left _ hxy
  rw [Nat.mul_add, Nat.mul_one] at this
  omega
theorem row_lt {B : Nat} (hB : 2 ≤ B) {a b : List Nat} (ha : ∀ x ∈ a, x < B) {i : Nat} (hia : i < a.length) (hib : i < b.length) (hd : nv B (a.drop (i + 1)) = nv B (b.drop (i + 1))) (h : a.getD i 0 < b.getD i 0) : nv B a < nv B b := by
  rw [nv_split B a i (by omega), nv_split B b i (by omega), nv_drop_next B a i hia, nv_drop_next B b i hib, hd]
  exact split_lt (take_lt hB ha i) (by omega)
theorem Hs.len {n : Nat} (h : n < 2 ^ 100000) : (VL.dg (2 ^ 32) n).length ≤ 3125 := by
  have : n < (2 ^ 32) ^ 3125 := by rw [← Nat.pow_mul]; exact h
  exact dg_len_le (B := 2 ^ 32) (by decide) 3125 n this
end VL
namespace VL
open Go Vx
theorem fP_le {f : Int} (hf : Fm f) : fP f ≤ 53 := by
  rcases Fm_cases hf with rfl | rfl | rfl | rfl <;> decide
theorem cut_lt_big {f m : Int} (hf : Fm f) {neg : Bool} {n : Nat} {e q : Int} (h : topE n e - fP f + 1 ≤ q) : cutN m neg n e q false ≤ 2 ^ fP f := cut_le h
end VL
namespace VL
open Go Vx
/-- a number's mantissa and its exponent -/
def mant (f : Int) (a : Nat) : Nat := if eF f a = 0 then mF f a else mF f a + 2 ^ (fP f - 1)
def xpn (f : Int) (a : Nat) : Int := 1 - (fX f : Int) - (fP f : Int) + 1 + (if eF f a = 0 then 0 else (eF f a : Int) - 1)
theorem mF_lt (f : Int) (a : Nat) : mF f a < 2 ^ (fP f - 1) := Nat.mod_lt _ (Nat.two_pow_pos _)
theorem mant_lt {f : Int} (hf : Fm f) (a : Nat) : mant f a < 2 ^ 53 := by
  have h1 := mF_lt f a
  have h2 := fP_ge hf
  have h3 := fP_lt hf
  have h4 := fW_le hf
  have h5 : 2 ^ (fP f - 1) ≤ 2 ^ 52 := Nat.pow_le_pow_right (by decide) (by rcases Fm_cases hf with rfl | rfl | rfl | rfl <;> decide)
  unfold mant
  split <;> omega
theorem eF_lt {f : Int} (hf : Fm f) (a : Nat) : eF f a < 2048 := by
  have : 2 ^ (fW f - fP f) ≤ 2 ^ 11 := Nat.pow_le_pow_right (by decide) (by rcases Fm_cases hf with rfl | rfl | rfl | rfl <;> decide)
  have h : eF f a < 2 ^ (fW f - fP f) := Nat.mod_lt _ (Nat.two_pow_pos _)
  omega
theorem xpn_bound {f : Int} (hf : Fm f) (a : Nat) : -2000 ≤ xpn f a ∧ xpn f a ≤ 2000 := by
  have h1 := eF_lt hf a
  have h2 := fX_le hf
  have h3 := fP_le hf
  have h4 := fX_ge hf
  have h5 := fP_ge hf
  have h6 : (eF f a : Int) ≤ 2 * fX f + 1 := by
    have : eF f a < 2 ^ (fW f - fP f) := Nat.mod_lt _ (Nat.two_pow_pos _)
    have := fX_eq hf
    omega
  unfold xpn
  split <;> omega
/-- is it without end -/
def isInf (f : Int) (a : Nat) : Bool := eF f a == fullF f && mF f a == 0
/-- what a sum answers -/
def addR (f m : Int) (a b : Nat) : Int × Int × Int × Unit :=
  bif snan f a || snan f b then ((nanF f : Int), 1, 0, ())
  else bif nan f a || nan f b then ((nanF f : Int), 0, 0, ())
  else bif (isInf f a && isInf f b) && !(sF f a == sF f b) then ((nanF f : Int), 1, 0, ())
  else bif isInf f a then ((a : Int), 0, 0, ())
  else bif isInf f b then ((b : Int), 0, 0, ())
  else (((sumBits f m (sF f a) (mant f a) (xpn f a) (sF f b) (mant f b) (xpn f b)).1 : Int), ((sumBits f m (sF f a) (mant f a) (xpn f a) (sF f b) (mant f b) (xpn f b)).2 : Int), 0, ())
def addA (f m : Int) (a b : Nat) : Int × Int × Int × Unit :=
  if Fm f then (if 0 ≤ m ∧ m ≤ 5 then (if chk f a = 0 ∧ chk f b = 0 then addR f m a b else (0, 0, 4, ())) else (0, 0, 3, ())) else (0, 0, 2, ())
theorem full_vals {f : Int} {a : Nat} (h : eF f a = fullF f) : nan f a = (!(mF f a == 0)) ∧ snan f a = (!(mF f a == 0) && (mF f a / 2 ^ (fP f - 2) == 0)) ∧ isInf f a = (mF f a == 0) := by
  unfold snan nan isInf
  rw [h]
  simp [bne]
theorem part_vals {f : Int} {a : Nat} (h : eF f a ≠ fullF f) : nan f a = false ∧ snan f a = false ∧ isInf f a = false := by
  unfold snan nan isInf
  simp [h]
end VL
namespace VL
open Go Vx
theorem T98_ok {f : Int} {a : Nat} (h : chk f a = 0) : T98 (f, (a : Int), ()) = some (sF f a, (eF f a : Int), (mF f a : Int), 0, ()) := by
  obtain ⟨hf, h0⟩ := chk_zero h
  have ha := pat_lt h
  show t98 S66.pre S66.F S90.pre S90.F f a = _
  unfold t98
  have p0 := T66_eq f a ha
  have p2 := T90_eq hf a ha
  have hr1 : decide (0 ≤ f) = true := decide_eq_true hf.1
  have hr2 : decide (f < ((4 : Nat) : Int)) = true := decide_eq_true hf.2
  simp only [row_at hf, hr1, hr2, pre66 p0, fun66 p0, pre90 p2, fun90 p2, h, cond_true, bne_self_eq_false, cond_false]
theorem T72_ok {f : Int} {a : Nat} (h : chk f a = 0) : T72 (f, rowOf f, (a : Int), ()) = some ((sF f a, (mant f a : Int), xpn f a, ()), ()) := by
  obtain ⟨hf, h0⟩ := chk_zero h
  show t72 S98.pre S98.F f (rowOf f) a = _
  unfold t72
  have h1 := fP_ge hf
  have h3 := fP_le hf
  have h4 := fX_le hf
  have hE := eF_lt hf a
  have hM := mF_lt f a
  have hPp : 2 ^ (fP f - 1) ≤ 2 ^ 52 := Nat.pow_le_pow_right (by decide) (by omega)
  have p0 := T98_ok h
  have r1 : (rowOf f).2.1 = (fP f : Int) := rfl
  have r2 : (rowOf f).2.2.1 = 1 - (fX f : Int) := rfl
  have e0 : IntKind.wrap .i64 ((fP f : Int) - 1) = ((fP f - 1 : Nat) : Int) := wsub1 _ (by omega)
  have e1 : IntKind.wrap .i64 (IntKind.wrap .i64 ((1 - (fX f : Int)) - (fP f : Int)) + 1) = 1 - (fX f : Int) - (fP f : Int) + 1 := by
    rw [wrapI (n := _ - (fP f : Int)) (by omega), wrapI (by omega)]
  have e2 : IntKind.wrap .i64 (eF f a : Int) = (eF f a : Int) := wrapI (by omega)
  have e3 : shlI .u64 1 ((fP f - 1 : Nat) : Int) = ((2 ^ (fP f - 1) : Nat) : Int) := shlI_one (by omega)
  have e4 : orI .u64 (mF f a : Int) ((2 ^ (fP f - 1) : Nat) : Int) = ((mF f a + 2 ^ (fP f - 1) : Nat) : Int) := by
    have := orN (a := mF f a) (b := 1) (k := fP f - 1) hM (by omega)
    rwa [Nat.one_mul] at this
  simp only [pre98 p0, fun98 p0, cond_true, r1, r2, e0, e1, e2, e3, e4, nnn]
  by_cases hz : eF f a = 0
  · have hg : decide ((eF f a : Int) > 0) = false := decide_eq_false (by omega)
    have hm : mant f a = mF f a := by unfold mant; rw [if_pos hz]
    have hx : xpn f a = 1 - (fX f : Int) - (fP f : Int) + 1 := by unfold xpn; rw [if_pos hz, Int.add_zero]
    rw [hg, cond_false, hm, hx]
  · have hg : decide ((eF f a : Int) > 0) = true := decide_eq_true (by omega)
    have hm : mant f a = mF f a + 2 ^ (fP f - 1) := by unfold mant; rw [if_neg hz]
    have hx : IntKind.wrap .i64 ((1 - (fX f : Int) - (fP f : Int) + 1) + IntKind.wrap .i64 ((eF f a : Int) - 1)) = xpn f a := by
      unfold xpn; rw [if_neg hz, wrapI (n := (eF f a : Int) - 1) (by omega), wrapI (by omega)]
    rw [hg, cond_true, hm, hx]
theorem cls_isInf (f : Int) (a : Nat) : (cls f a == 2 || cls f a == 9) = isInf f a := by
  unfold cls isInf
  cases eF f a == fullF f <;> cases eF f a == 0 <;> cases mF f a == 0 <;> cases sF f a <;> cases mF f a / 2 ^ (fP f - 2) != 0 <;> rfl
theorem cls_signs (f : Int) (a b : Nat) : ((isInf f a && isInf f b) && (cls f a != cls f b)) = ((isInf f a && isInf f b) && !(sF f a == sF f b)) := by
  unfold cls isInf
  cases eF f a == fullF f <;> cases mF f a == 0 <;> cases eF f b == fullF f <;> cases mF f b == 0 <;> first | rfl | (cases sF f a <;> cases sF f b <;> rfl)
theorem T27_eq (f m : Int) {a b : Nat} (ha : a < 2 ^ 64) (hb : b < 2 ^ 64) : T27 (f, m, (a : Int), (b : Int), ()) = some (addA f m a b) := by
  show t27 S69.pre S69.F S65.pre S65.F S70.pre S70.F S72.pre S72.F S71.pre S71.F f m a b = _
  unfold t27 addA
  by_cases hf : Fm f
  · rw [if_pos hf]
    have p0 := T69_ok hf
    simp only [pre69 p0, fun69 p0, cond_true, bne_self_eq_false, cond_false]
    by_cases hm : 0 ≤ m ∧ m ≤ 5
    · have hmm : (decide (m < 0) || decide (m > 5)) = false := by
        rw [decide_eq_false (p := m < 0) (by omega), decide_eq_false (p := m > 5) (by omega)]; rfl
      rw [if_pos hm, hmm, cond_false]
      have c4 : ∀ x : Nat, chk f x ≠ 0 → chk f x = 4 := fun x h => by
        unfold chk at h ⊢
        rw [if_pos hf] at h ⊢
        split at h
        · exact absurd rfl h
        · rename_i h1; rw [if_neg h1]
      by_cases hca : chk f a = 0
      · have p1 := T65_ok ha hca
        by_cases hcb : chk f b = 0
        · have p2 := T65_ok hb hcb
          rw [if_pos ⟨hca, hcb⟩]
          have p3 := T70_ok hf
          have p4 := T72_ok hca
          have p5 := T72_ok hcb
          have p6 := T71_eq hf hm (sF f a) (mant f a) (xpn f a) (sF f b) (mant f b) (xpn f b) (mant_lt hf a) (mant_lt hf b) (xpn_bound hf a) (xpn_bound hf b)
          simp only [pre65 p1, fun65 p1, pre65 p2, fun65 p2, cond_true, bne_self_eq_false, cond_false, pre70 p3, fun70 p3, pre72 p4, fun72 p4, pre72 p5, fun72 p5, pre71 p6, fun71 p6, cls_isInf, cls_signs]
          unfold addR
          rw [← cls_snan, ← cls_snan, ← cls_nan, ← cls_nan]
          generalize ((isInf f a && isInf f b) && !(sF f a == sF f b)) = w1
          generalize isInf f a = w2
          generalize isInf f b = w3
          generalize (cls f a == 0) = x1
          generalize (cls f b == 0) = x2
          generalize (cls f a == 1) = x3
          generalize (cls f b == 1) = x4
          cases x1 <;> cases x2 <;> cases x3 <;> cases x4 <;> cases w1 <;> cases w2 <;> cases w3 <;> rfl
        · have p2 := T65_bad hb hcb
          rw [if_neg (fun h => hcb h.2)]
          have hne : (chk f b != 0) = true := by simpa using hcb
          simp only [pre65 p1, fun65 p1, pre65 p2, fun65 p2, cond_true, bne_self_eq_false, cond_false, hne]
          rw [c4 b hcb]
      · have p1 := T65_bad ha hca
        rw [if_neg (fun h => hca h.1)]
        have hne : (chk f a != 0) = true := by simpa using hca
        simp only [pre65 p1, fun65 p1, cond_true, hne]
        rw [c4 a hca]
    · rw [if_neg hm]
      have : (decide (m < 0) || decide (m > 5)) = true := by
        by_cases h : m < 0
        · rw [decide_eq_true h]; rfl
        · rw [decide_eq_true (p := m > 5) (by omega), Bool.or_true]
      rw [this]; rfl
  · rw [if_neg hf]
    have p0 := T69_bad hf
    simp only [pre69 p0, fun69 p0]
    rfl
end VL
namespace VL
open Go Vx
theorem infB_eq (f : Int) (neg : Bool) : infB f neg = infF f + sgnF f neg := by
  unfold infB infF fullF; rw [Nat.mul_comm]
theorem add_sgn (f : Int) (s : Bool) (x : Nat) : x + sgnF f s = mkF f s x := by
  unfold mkF sgnF; cases s <;> rfl
theorem inf_ge {f : Int} (hf : Fm f) : infF f = (2 * fX f + 1) * 2 ^ (fP f - 1) := by
  unfold infF fullF; rw [← fX_eq hf, Nat.mul_comm]
/-- a rounded number's magnitude and its flags -/
def rndM (f m : Int) (neg : Bool) (n : Nat) (e : Int) : Nat × Nat :=
  if topE n e > fX f then ((if upw m neg then infF f else infF f - 1), 20)
  else
    let q := lowE f (topE n e)
    let u := cutN m neg n e q false
    if q + blen u - 1 > fX f then ((if upw m neg then infF f else infF f - 1), 20)
    else ((q - (1 - (fX f : Int) - fP f + 1)).toNat * 2 ^ (fP f - 1) + u,
      if cutR n e q false = 0 then 0 else if isTiny f m neg n e false then 24 else 16)
theorem infF_pos {f : Int} (hf : Fm f) : 1 ≤ infF f := by
  rw [inf_ge hf]
  exact Nat.mul_pos (by omega) (Nat.two_pow_pos _)
theorem bey_M {f m : Int} (hf : Fm f) (neg : Bool) : beyB f m neg = mkF f neg (if upw m neg then infF f else infF f - 1) := by
  have := infF_pos hf
  unfold beyB
  rw [infB_eq, ← add_sgn]
  split <;> omega
theorem rnd_M {f : Int} (hf : Fm f) (m : Int) (neg : Bool) (n : Nat) (e : Int) : rndN f m neg n e false = (mkF f neg (rndM f m neg n e).1, (rndM f m neg n e).2) := by
  unfold rndN rndM
  by_cases h : topE n e > fX f
  · rw [if_pos h, if_pos h, bey_M hf]
  · rw [if_neg h, if_neg h]
    dsimp only
    by_cases h2 : lowE f (topE n e) + (blen (cutN m neg n e (lowE f (topE n e)) false) : Int) - 1 > fX f
    · rw [if_pos h2, if_pos h2, bey_M hf]
    · rw [if_neg h2, if_neg h2]
      dsimp only
      rw [add_sgn]
theorem low_facts (f : Int) (hf : Fm f) (t : Int) (ht : ¬ t > fX f) : t - (fP f : Int) + 1 ≤ lowE f t ∧ 1 - (fX f : Int) - (fP f : Int) + 1 ≤ lowE f t ∧ lowE f t ≤ (fX f : Int) - (fP f : Int) + 1 := by
  have := fX_ge hf
  unfold lowE; split <;> refine ⟨?_, ?_, ?_⟩ <;> omega
/-- a zero's exact sum has no magnitude -/
theorem sgn_zero (f : Int) (s : Bool) : sgnF f s = mkF f s 0 := by
  rw [← add_sgn, Nat.zero_add]
/-- a number of the format is its own rounding -/
theorem rnd_self {f m : Int} (hf : Fm f) {a : Nat} (h : chk f a = 0) (hfin : eF f a ≠ fullF f) (h0 : mant f a ≠ 0) : rndN f m (sF f a) (mant f a) (xpn f a) false = (a, 0) := by
  have hP := fP_ge hf
  have hX := fX_ge hf
  have hpp := Nat.two_pow_pos (fP f - 1)
  have h2p : 2 ^ fP f = 2 * 2 ^ (fP f - 1) := by rw [← Nat.pow_succ', Nat.succ_eq_add_one, Nat.sub_add_cancel (by omega)]
  have hM := mF_lt f a
  have hEl : eF f a < fullF f := Nat.lt_of_le_of_ne (e_le a) hfin
  have hfull : fullF f = 2 * fX f + 1 := by unfold fullF; rw [← fX_eq hf]
  have habs := abs_eq hf a
  have hpat := pat_mk h
  rw [rnd_M hf]
  have key : rndM f m (sF f a) (mant f a) (xpn f a) = (absF f a, 0) := by
    have hbits : ∃ t, topE (mant f a) (xpn f a) = t ∧ t ≤ fX f ∧ lowE f t = xpn f a ∧ xpn f a + (blen (mant f a) : Int) - 1 = t := by
      refine ⟨_, rfl, ?_, ?_, rfl⟩
      · unfold topE xpn
        by_cases he : eF f a = 0
        · have hm : mant f a = mF f a := by unfold mant; rw [if_pos he]
          have := blen_bound (n := mant f a) (k := fP f - 1) (by rw [hm]; exact hM)
          rw [if_pos he]; omega
        · have hm : mant f a = mF f a + 2 ^ (fP f - 1) := by unfold mant; rw [if_neg he]
          have := blen_bound (n := mant f a) (k := fP f) (by rw [hm]; omega)
          rw [if_neg he]; omega
      · unfold lowE topE xpn
        by_cases he : eF f a = 0
        · have hm : mant f a = mF f a := by unfold mant; rw [if_pos he]
          have hb := blen_bound (n := mant f a) (k := fP f - 1) (by rw [hm]; exact hM)
          rw [if_pos he, if_pos (by omega)]; omega
        · have hm : mant f a = mF f a + 2 ^ (fP f - 1) := by unfold mant; rw [if_neg he]
          have hb := blen_bound (n := mant f a) (k := fP f) (by rw [hm]; omega)
          have hb2 := blen_ge (n := mant f a) (k := fP f - 1) (by rw [hm]; omega)
          rw [if_neg he]
          by_cases h1 : eF f a = 1
          · rw [h1]; split <;> omega
          · rw [if_neg (by omega)]; omega
    obtain ⟨t, ht, ht2, hlow, htb⟩ := hbits
    have hcut : cutR (mant f a) (xpn f a) (xpn f a) false = 0 := by rw [cutR_f, rstE_lo (Int.le_refl _)]
    have hcn : cutN m (sF f a) (mant f a) (xpn f a) (xpn f a) false = mant f a := by
      unfold cutN
      rw [if_neg (fun hh => hh.1 hcut), quoE_lo (Int.le_refl _), Int.sub_self]
      simp
    unfold rndM
    rw [ht, if_neg (by omega), hlow]
    dsimp only
    rw [hcn, if_neg (by omega), hcut, if_pos rfl]
    congr 1
    rw [habs]
    unfold xpn mant
    by_cases he : eF f a = 0
    · rw [if_pos he, if_pos he, he, Nat.mul_zero, Int.add_zero, Int.sub_self]
      simp
    · rw [if_neg he, if_neg he]
      rw [show (1 - (fX f : Int) - (fP f : Int) + 1 + ((eF f a : Int) - 1) - (1 - (fX f : Int) - (fP f : Int) + 1)).toNat = eF f a - 1 by omega]
      obtain ⟨k, hk⟩ : ∃ k, eF f a = k + 1 := ⟨eF f a - 1, by omega⟩
      rw [hk, Nat.add_sub_cancel, Nat.mul_add, Nat.mul_one, Nat.mul_comm k]
      omega
  rw [key]
  dsimp only
  rw [← hpat]
end VL
namespace VL
open Go Vx
def qm (f : Int) : Int := 1 - (fX f : Int) - (fP f : Int) + 1
theorem two_P {f : Int} (hf : Fm f) : 2 ^ fP f = 2 * 2 ^ (fP f - 1) := by
  have hP := fP_ge hf
  rw [← Nat.pow_succ', Nat.succ_eq_add_one, Nat.sub_add_cancel (by omega)]
end VL
namespace VL
open Go Vx
/-- six values, the first i of them filled -/
def sl (V : Nat → Int) (i : Nat) : List Int := [if 0 < i then V 0 else 0, if 1 < i then V 1 else 0, if 2 < i then V 2 else 0, if 3 < i then V 3 else 0, if 4 < i then V 4 else 0, if 5 < i then V 5 else 0]
end VL
namespace VL
open Go Vx
/-- the zeros at a number's end -/
def tz (n : Nat) : Nat := if n = 0 then 0 else if n % 2 = 1 then 0 else tz (n / 2) + 1
termination_by n
decreasing_by omega
theorem tz_of : ∀ (t k : Nat), tz (2 ^ t * (2 * k + 1)) = t
  | 0, k => by
    rw [tz, Nat.pow_zero, Nat.one_mul, if_neg (by omega), if_pos (by omega)]
  | t + 1, k => by
    have e : 2 ^ (t + 1) * (2 * k + 1) = 2 * (2 ^ t * (2 * k + 1)) := by rw [Nat.pow_succ, Nat.mul_comm (2 ^ t) 2, Nat.mul_assoc]
    have hp : 0 < 2 ^ t * (2 * k + 1) := Nat.mul_pos (Nat.two_pow_pos t) (by omega)
    have ih := tz_of t k
    rw [e]
    generalize 2 ^ t * (2 * k + 1) = n at *
    rw [tz, if_neg (by omega), if_neg (by omega), show 2 * n / 2 = n by omega, ih]
theorem tz_split {n : Nat} (h : n ≠ 0) : ∃ k, n = 2 ^ tz n * (2 * k + 1) := by
  obtain ⟨t, k, e⟩ := two_split (x := n) (by omega)
  refine ⟨k, ?_⟩
  have := tz_of t k
  rw [← e] at this
  rw [this]; exact e
theorem word_split {x i t k r : Nat} (hx : x = 2 ^ t * (2 * k + 1)) (ht : t < 64) : (2 ^ 64) ^ i * (x + 2 ^ 64 * r) = 2 ^ (64 * i + t) * (2 * (k + 2 ^ (64 - t - 1) * r) + 1) := by
  have h1 : 2 ^ 64 = 2 ^ t * (2 ^ (64 - t - 1) * 2) := by rw [← Nat.pow_succ, ← Nat.pow_add]; congr 1; omega
  rw [pow64, hx, Nat.pow_add, Nat.mul_assoc]
  congr 1
  rw [h1, Nat.mul_assoc, ← Nat.mul_add]
  congr 1
  rw [Nat.mul_assoc, Nat.mul_left_comm]
  omega
abbrev Dya := Den (.pair (.bool) (.pair (.slice (.int .u64)) (.pair (.int .i64) (.unit))))
def dy (s : Bool) (n : Nat) (e : Int) : Dya := (s, Dw n, e, ())
theorem dy_zero : dy false 0 0 = (false, [], 0, ()) := by unfold dy; rw [Dw_zero]
theorem quo64m (i : Nat) (h : i ≤ 1000000) : quoI .i64 ((64 * i : Nat) : Int) 64 = (i : Int) := by
  rw [quoN _ (by omega), show 64 * i / 64 = i by omega]
theorem W100_eq (n : Nat) (h0 : n ≠ 0) (hl : (dg (2 ^ 64) n).length ≤ 1000000) (M : PMem P100_5.mem) :
    W100_5 (((0 : Int), (Dw n, ((), ((), ())))), M) = some (.inl ((((64 * (tz n / 64) : Nat) : Int), (Dw n, ((), ((), ())))), M)) := by
  have key := lfix_ind (m100_5 S102.pre S102.F S92.pre S92.F S141.pre S141.F) (fun x => (dg (2 ^ 64) n).length - x.1.1.toNat / 64)
    (fun x => ∃ i : Nat, i ≤ (dg (2 ^ 64) n).length ∧ nv (2 ^ 64) ((dg (2 ^ 64) n).take i) = 0 ∧ x = ((((64 * i : Nat) : Int), (Dw n, ((), ((), ())))), M))
    (fun _ => .inl ((((64 * (tz n / 64) : Nat) : Int), (Dw n, ((), ((), ())))), M)) ?_ (((0 : Int), (Dw n, ((), ((), ())))), M) ⟨0, Nat.zero_le _, rfl, rfl⟩
  · exact key
  intro L x hx hL
  obtain ⟨i, hi, hz, rfl⟩ := hx
  have hnv := nv_Dw n
  have ha := dg_lt (B := 2 ^ 64) (by decide) n
  have hlt : i < (dg (2 ^ 64) n).length := by
    rcases Nat.lt_or_ge i (dg (2 ^ 64) n).length with h | h
    · exact h
    · rw [List.take_of_length_le h, hnv] at hz; exact absurd hz h0
  unfold h100_5
  have e64 : IntKind.wrap .i64 (((64 * i : Nat) : Int) + 64) = ((64 * (i + 1) : Nat) : Int) := by rw [wrapI (by omega)]; omega
  have hxl := getD_lt (by decide) ha i
  unfold Dw at hL ⊢
  rcases Nat.eq_zero_or_pos ((dg (2 ^ 64) n).getD i 0) with hw | hw
  · simp (disch := omega) only [quo64m, wadd, wadd1, wadd64, wsubn, wsub1, wmul64, ilt_t, ilt_f, ile_t, ile_f, igt_t, igt_f, ige_t, ige_f, ipos_t, ipos_f, igt0_t, igt0_f, nnn, beq0_t, beq0_f, bne0_t, bne0_f, Int.toNat_natCast, Int.toNat_zero, cond_true, cond_false, Bool.and_self, Bool.true_and, Bool.and_true, Bool.false_and, Bool.and_false, Bool.not_true, Bool.not_false, Bool.or_self, Bool.true_or, Bool.or_true, Bool.false_or, Bool.or_false, Wd_len, Wd_getD, e64]
    refine hL _ ⟨i + 1, by omega, ?_, rfl⟩ (by simp only [Int.toNat_natCast]; omega)
    rw [nv_take_succ _ _ _ hlt, hz, hw, Nat.mul_zero]
  · simp (disch := omega) only [quo64m, wadd, wadd1, wadd64, wsubn, wsub1, wmul64, ilt_t, ilt_f, ile_t, ile_f, igt_t, igt_f, ige_t, ige_f, ipos_t, ipos_f, igt0_t, igt0_f, nnn, beq0_t, beq0_f, bne0_t, bne0_f, Int.toNat_natCast, Int.toNat_zero, cond_true, cond_false, Bool.and_self, Bool.true_and, Bool.and_true, Bool.false_and, Bool.and_false, Bool.not_true, Bool.not_false, Bool.or_self, Bool.true_or, Bool.or_true, Bool.false_or, Bool.or_false, Wd_len, Wd_getD]
    obtain ⟨t, k, e⟩ := two_split hw
    have ht : t < 64 := by
      have h1 : 2 ^ t * 1 ≤ 2 ^ t * (2 * k + 1) := Nat.mul_le_mul_left _ (by omega)
      exact (Nat.pow_lt_pow_iff_right (a := 2) (by decide)).1 (by omega)
    have hv : n = (2 ^ 64) ^ i * ((dg (2 ^ 64) n).getD i 0 + 2 ^ 64 * nv (2 ^ 64) ((dg (2 ^ 64) n).drop (i + 1))) := by
      have h1 := nv_split (2 ^ 64) (dg (2 ^ 64) n) i hi
      rw [hnv, hz, Nat.zero_add, nv_drop_next _ _ _ hlt] at h1
      exact h1
    rw [word_split e ht] at hv
    have htz : tz n = 64 * i + t := by rw [hv]; exact tz_of _ _
    rw [htz, show (64 * i + t) / 64 = i by omega]
theorem T100_eq (s : Bool) (l : List Nat) (hl : Ws l) (e : Int) (he : -100000000 ≤ e ∧ e ≤ 100000000) :
    T100 ((s, Wd l, e, ()), ()) = some (if nv (2 ^ 64) l = 0 then dy false 0 0 else dy s (nv (2 ^ 64) l / 2 ^ tz (nv (2 ^ 64) l)) (e + tz (nv (2 ^ 64) l)), ()) := by
  show t100 S102.pre S102.F S92.pre S92.F S141.pre S141.F W100_5 (s, Wd l, e, ()) = _
  unfold t100
  dsimp only
  have p0 := T102_eq l hl
  simp only [pre102 p0, fun102 p0, cond_true]
  have hlt := nv_lt (B := 2 ^ 64) (by decide) l hl.1
  have hll := hl.2
  generalize hn : nv (2 ^ 64) l = n at *
  have hdl : (dg (2 ^ 64) n).length ≤ 1000000 := Nat.le_trans (dg_len_le (by decide) _ _ hlt) hll
  by_cases h0 : n = 0
  · subst h0
    rw [Dw_zero, if_pos rfl, dy_zero]; rfl
  · have hlen : (((Dw n).length : Int) == 0) = false := beq0_f _ (by have := Dw_len h0; omega)
    rw [hlen, cond_false, if_neg h0]
    have hw := W100_eq n h0 hdl ((s, Wd l, e, ()), (false, [], 0, ()), ())
    rw [show W100_5 (((0 : Int), (Dw n, ((), ((), ())))), ((s, Wd l, e, ()), ((false, ([], ((0 : Int), ()))), ()))) = _ from hw]
    dsimp only [obind, obind2]
    obtain ⟨k, hk⟩ := tz_split h0
    have htl : tz n / 64 < (dg (2 ^ 64) n).length := by
      rcases Nat.lt_or_ge (tz n / 64) (dg (2 ^ 64) n).length with h | h
      · exact h
      · exfalso
        have h1 := dg_len_gt (B := 2 ^ 64) (by decide) n
        rw [pow64] at h1
        have h2 : 2 ^ (64 * (dg (2 ^ 64) n).length) ≤ 2 ^ tz n := Nat.pow_le_pow_right (by decide) (by omega)
        have h3 : 2 ^ tz n * 1 ≤ 2 ^ tz n * (2 * k + 1) := Nat.mul_le_mul_left _ (by omega)
        omega
    have hword : ∃ k', (dg (2 ^ 64) n).getD (tz n / 64) 0 = 2 ^ (tz n % 64) * (2 * k' + 1) := by
      have h1 : (dg (2 ^ 64) n).getD (tz n / 64) 0 = n / (2 ^ 64) ^ (tz n / 64) % 2 ^ 64 := by
        have h2 : dg (2 ^ 64) n = pd (2 ^ 64) (dg (2 ^ 64) n).length n := pd_at (by decide) (dg_lt (by decide) n) rfl (nv_Dw n)
        rw [h2, pd_get _ _ _ _ htl]
      have h3 : n / (2 ^ 64) ^ (tz n / 64) = 2 ^ (tz n % 64) * (2 * k + 1) := by
        have h4 : 2 ^ tz n = (2 ^ 64) ^ (tz n / 64) * 2 ^ (tz n % 64) := by rw [pow64, ← Nat.pow_add]; congr 1; omega
        have h5 : n = (2 ^ 64) ^ (tz n / 64) * (2 ^ (tz n % 64) * (2 * k + 1)) := by rw [← Nat.mul_assoc, ← h4]; exact hk
        have h6 := Nat.mul_div_cancel_left (2 ^ (tz n % 64) * (2 * k + 1)) (show 0 < (2 ^ 64) ^ (tz n / 64) from Nat.pow_pos (by decide))
        rw [← h5] at h6
        exact h6
      rw [h1, h3]
      have hr : tz n % 64 < 64 := Nat.mod_lt _ (by decide)
      generalize tz n % 64 = r at *
      have h6 : 2 ^ 64 = 2 ^ r * (2 ^ (64 - r - 1) * 2) := by rw [← Nat.pow_succ, ← Nat.pow_add]; congr 1; omega
      rw [h6, Nat.mul_mod_mul_left]
      refine ⟨(2 * k + 1) % (2 ^ (64 - r - 1) * 2) / 2, ?_⟩
      congr 1
      have h7 : (2 * k + 1) % (2 ^ (64 - r - 1) * 2) % 2 = (2 * k + 1) % 2 := Nat.mod_mod_of_dvd _ ⟨_, Nat.mul_comm _ _⟩
      omega
    obtain ⟨k', hk'⟩ := hword
    have hwl := getD_lt (B := 2 ^ 64) (by decide) (dg_lt (by decide) n) (tz n / 64)
    have p1 := T92_eq (t := tz n % 64) (k := k') (by rw [← hk']; exact hwl)
    rw [← hk'] at p1
    have p2 := T141_eq (dg (2 ^ 64) n) (dg_ws n hdl) (tz n) (by omega)
    rw [nv_Dw] at p2
    have e1 : IntKind.wrap .i64 (((64 * (tz n / 64) : Nat) : Int) + ((tz n % 64 : Nat) : Int)) = (tz n : Int) := by rw [wrapI (by omega)]; omega
    have e2 : IntKind.wrap .i64 (e + (tz n : Int)) = e + (tz n : Int) := wrapI (by omega)
    have hg : decide (((tz n / 64 : Nat) : Int) < ((dg (2 ^ 64) n).length : Int)) = true := decide_eq_true (by omega)
    unfold Dw at *
    simp (disch := omega) only [quo64m, wadd, wadd1, wadd64, wsubn, wsub1, wmul64, ilt_t, ilt_f, ile_t, ile_f, igt_t, igt_f, ige_t, ige_f, ipos_t, ipos_f, igt0_t, igt0_f, nnn, beq0_t, beq0_f, bne0_t, bne0_f, Int.toNat_natCast, Int.toNat_zero, cond_true, cond_false, Bool.and_self, Bool.true_and, Bool.and_true, Bool.false_and, Bool.and_false, Bool.not_true, Bool.not_false, Bool.or_self, Bool.true_or, Bool.or_true, Bool.false_or, Bool.or_false, Wd_len, Wd_getD, pre92 p1, fun92 p1, e1, pre141 p2, fun141 p2, e2]
    rfl
/-- odd, over numbers -/
theorem T100_dy (s : Bool) {n : Nat} (hn : n < (2 ^ 64) ^ 5000) (e : Int) (he : -100000000 ≤ e ∧ e ≤ 100000000) :
    T100 (dy s n e, ()) = some (if n = 0 then dy false 0 0 else dy s (n / 2 ^ tz n) (e + tz n), ()) := by
  have := T100_eq s (dg (2 ^ 64) n) (Dw_ws hn) e he
  rw [nv_Dw] at this
  exact this
theorem tz_odd (k : Nat) : tz (2 * k + 1) = 0 := by have := tz_of 0 k; rwa [Nat.pow_zero, Nat.one_mul] at this
end VL
namespace VL
open Go Vx
/-- a dyad brought to an odd number -/
def od (s : Bool) (n : Nat) (e : Int) : Bool × Nat × Int := if n = 0 then (false, 0, 0) else (s, n / 2 ^ tz n, e + tz n)
def dyO (t : Bool × Nat × Int) : Dya := dy t.1 t.2.1 t.2.2
theorem od_dy (s : Bool) (n : Nat) (e : Int) : (if n = 0 then dy false 0 0 else dy s (n / 2 ^ tz n) (e + tz n)) = dyO (od s n e) := by
  unfold od dyO
  split <;> rfl
theorem od_cases (s : Bool) (n : Nat) (e : Int) : (od s n e = (false, 0, 0) ∧ n = 0) ∨ ((od s n e).1 = s ∧ (od s n e).2.1 % 2 = 1 ∧ n ≠ 0 ∧ n = 2 ^ tz n * (od s n e).2.1 ∧ (od s n e).2.2 = e + tz n) := by
  unfold od
  by_cases h : n = 0
  · rw [if_pos h]; exact .inl ⟨rfl, h⟩
  · right
    rw [if_neg h]
    obtain ⟨k, hk⟩ := tz_split h
    have hd : n / 2 ^ tz n = 2 * k + 1 := by
      have := Nat.mul_div_cancel_left (2 * k + 1) (Nat.two_pow_pos (tz n))
      rw [← hk] at this
      exact this
    dsimp only
    rw [hd]
    exact ⟨rfl, by omega, h, hk, rfl⟩
theorem tz_le {n k : Nat} (h : n < 2 ^ k) (h0 : n ≠ 0) : tz n < k := by
  obtain ⟨j, hj⟩ := tz_split h0
  have h1 : 2 ^ tz n * 1 ≤ 2 ^ tz n * (2 * j + 1) := Nat.mul_le_mul_left _ (by omega)
  exact (Nat.pow_lt_pow_iff_right (a := 2) (by decide)).1 (by omega)
theorem od_bound (s : Bool) {n k : Nat} (e : Int) (hn : n < 2 ^ k) (he : -20000 ≤ e ∧ e ≤ 20000) : (od s n e).2.1 < 2 ^ k ∧ -20000 ≤ (od s n e).2.2 ∧ (od s n e).2.2 ≤ 20000 + k := by
  rcases od_cases s n e with ⟨h, _⟩ | ⟨_, h2, h3, h4, h5⟩
  · rw [h]; exact ⟨Nat.two_pow_pos _, by dsimp only; omega, by dsimp only; omega⟩
  · have hle : (od s n e).2.1 ≤ n := by
      have := Nat.le_mul_of_pos_left (od s n e).2.1 (Nat.two_pow_pos (tz n))
      omega
    have := tz_le hn h3
    refine ⟨by omega, by omega, by omega⟩
theorem big_lt {n k : Nat} (h : n < 2 ^ k) (hk : k ≤ 64 * 2000) : n < (2 ^ 64) ^ 2000 := by
  rw [pow64]
  exact Nat.lt_of_lt_of_le h (Nat.pow_le_pow_right (by decide) hk)
theorem dy_len {n k : Nat} (h : n < 2 ^ k) (hk : k ≤ 64 * 1000) : (Dw n).length ≤ 1000 := by
  unfold Dw; rw [Wd_len]
  refine dg_len_le (by decide) _ _ ?_
  rw [pow64]
  exact Nat.lt_of_lt_of_le h (Nat.pow_le_pow_right (by decide) hk)
theorem T103_ok (s : Bool) {n k : Nat} (h : n < 2 ^ k) (hk : k ≤ 64 * 1000) (e : Int) (he : -40000 ≤ e ∧ e ≤ 40000) : T103 (dy s n e, ()) = some (0, ()) := by
  show t103 (s, Dw n, e, ()) = _
  unfold t103
  have := dy_len h hk
  dsimp only
  rw [decide_eq_false (p := ((Dw n).length : Int) > 1024) (by omega), decide_eq_false (p := e < -40000) (by omega), decide_eq_false (p := e > 40000) (by omega)]
  rfl
theorem T104_ok (s : Bool) {n : Nat} (h : n < 2 ^ 6000) (e : Int) (he : -20000 ≤ e ∧ e ≤ 20000) : T104 (dy s n e, ()) = some (dyO (od s n e), 0, ()) := by
  show t104 S100.pre S100.F (s, Dw n, e, ()) = _
  unfold t104
  have p0 := T100_dy s (lt5000 (big_lt h (by decide))) e (by omega)
  rw [od_dy] at p0
  have p0 : T100 ((s, Dw n, e, ()), ()) = some (dyO (od s n e), ()) := p0
  have hb := od_bound s e h he
  have hl := dy_len hb.1 (by decide)
  have e1 : decide ((((dyO (od s n e)).2.1.length : Nat) : Int) > 1024) = false := decide_eq_false (by
    show ¬ ((((Dw (od s n e).2.1).length : Nat) : Int) > 1024)
    omega)
  have e2 : decide ((dyO (od s n e)).2.2.1 < -40000) = false := decide_eq_false (by
    show ¬ ((od s n e).2.2 < -40000)
    omega)
  have e3 : decide ((dyO (od s n e)).2.2.1 > 40000) = false := decide_eq_false (by
    show ¬ ((od s n e).2.2 > 40000)
    omega)
  simp only [pre100 p0, fun100 p0, cond_true, e1, e2, e3, cond_false, Bool.or_self]
end VL
namespace VL
open Go Vx
theorem Dw_small {x : Nat} (h0 : x ≠ 0) (h : x < 2 ^ 64) : Dw x = (x : Int) :: [] := by
  unfold Dw
  rw [dg_pos (by decide) (by omega), Nat.mod_eq_of_lt h, Nat.div_eq_of_lt h, dg_zero]; rfl
theorem T40_fin {f : Int} {a : Nat} (h : chk f a = 0) (hfin : eF f a ≠ fullF f) : T40 (f, (a : Int), ()) = some (dyO (od (sF f a) (mant f a) (xpn f a)), 0, ()) := by
  obtain ⟨hf, h0⟩ := chk_zero h
  have ha := pat_lt h
  show t40 S66.pre S66.F S90.pre S90.F S91.pre S91.F S92.pre S92.F f a = _
  unfold t40
  have h1 := fP_ge hf
  have h2 := fP_lt hf
  have h3 := fW_le hf
  have h4 := fX_le hf
  have h5 := fP_le hf
  have h6 := fX_ge hf
  have hE := eF_lt hf a
  have hM := mF_lt f a
  have hPp : 2 ^ (fP f - 1) ≤ 2 ^ 52 := Nat.pow_le_pow_right (by decide) (by omega)
  have hpp := Nat.two_pow_pos (fP f - 1)
  have p0 := T66_eq f a ha
  have p1 := T91_eq (fW f - fP f) (by omega)
  have p2 := T90_eq hf a ha
  have hr1 : decide (0 ≤ f) = true := decide_eq_true hf.1
  have hr2 : decide (f < ((4 : Nat) : Int)) = true := decide_eq_true hf.2
  have r1 : (rowOf f).1 = (fW f : Int) := rfl
  have r2 : (rowOf f).2.1 = (fP f : Int) := rfl
  have r3 : (rowOf f).2.2.1 = 1 - (fX f : Int) := rfl
  have e1 : IntKind.wrap .i64 ((fW f : Int) - (fP f : Int)) = ((fW f - fP f : Nat) : Int) := wsubn _ _ (by omega)
  have e2 : IntKind.wrap .i64 ((fP f : Int) - 1) = ((fP f - 1 : Nat) : Int) := wsub1 _ (by omega)
  have e3 : shlI .u64 1 ((fP f - 1 : Nat) : Int) = ((2 ^ (fP f - 1) : Nat) : Int) := shlI_one (by omega)
  have e4 : orI .u64 (mF f a : Int) ((2 ^ (fP f - 1) : Nat) : Int) = ((mF f a + 2 ^ (fP f - 1) : Nat) : Int) := by
    have := orN (a := mF f a) (b := 1) (k := fP f - 1) hM (by omega)
    rwa [Nat.one_mul] at this
  have hfl : (((eF f a : Nat) : Int) == ((2 ^ (fW f - fP f) - 1 : Nat) : Int)) = false := by
    rw [nbeq]; exact beq_eq_false_iff_ne.2 hfin
  have ew : ∀ z : Int, -1000000 ≤ z ∧ z ≤ 1000000 → IntKind.wrap .i64 z = z := fun z hz => wrapI (by omega)
  simp only [row_at hf, r1, r2, r3, hr1, hr2, pre66 p0, fun66 p0, pre90 p2, fun90 p2, h, cond_true, bne_self_eq_false, cond_false, e1, e2, e3, e4, pre91 p1, fun91 p1, hfl, nnn]
  by_cases hz : eF f a = 0
  · have hg : (((eF f a : Nat) : Int) == 0) = true := beq0_t _ hz
    have hm : mant f a = mF f a := by unfold mant; rw [if_pos hz]
    have hx : xpn f a = 1 - (fX f : Int) - (fP f : Int) + 1 := by unfold xpn; rw [if_pos hz, Int.add_zero]
    rw [hg, cond_true, hm, hx]
    by_cases hm0 : mF f a = 0
    · rw [beq0_t _ hm0, cond_true]
      unfold od dyO
      rw [if_pos hm0, dy_zero]
    · obtain ⟨k, hk⟩ := tz_split hm0
      have htl := tz_le (n := mF f a) (k := 53) (by omega) hm0
      have p3 := T92_eq (t := tz (mF f a)) (k := k) (by omega)
      rw [← hk] at p3
      have hq : mF f a / 2 ^ tz (mF f a) ≠ 0 := by
        have := Nat.mul_div_cancel_left (2 * k + 1) (Nat.two_pow_pos (tz (mF f a)))
        rw [← hk] at this
        omega
      have hql := Nat.div_le_self (mF f a) (2 ^ tz (mF f a))
      rw [beq0_f _ hm0, cond_false]
      simp only [pre92 p3, fun92 p3, cond_true, nnn, shrN (mF f a) (tz (mF f a)) (by omega)]
      rw [← Dw_small hq (by omega)]
      unfold od dyO dy
      rw [if_neg hm0]
      rw [ew 1 (by omega), ew (1 - 1) (by omega), ew (1 - 1 + _) (by omega), ew (1 - 1 + _ - _) (by omega), ew (1 - 1 + _ - _ + 1) (by omega), ew _ (by omega)]
      rw [show (1 : Int) - 1 + (1 - (fX f : Int)) - (fP f : Int) + 1 + (tz (mF f a) : Int) = 1 - (fX f : Int) - (fP f : Int) + 1 + (tz (mF f a) : Int) by omega]
  · have hg : (((eF f a : Nat) : Int) == 0) = false := beq0_f _ hz
    have hm : mant f a = mF f a + 2 ^ (fP f - 1) := by unfold mant; rw [if_neg hz]
    have hx : xpn f a = 1 - (fX f : Int) - (fP f : Int) + 1 + ((eF f a : Int) - 1) := by unfold xpn; rw [if_neg hz]
    rw [hg, cond_false, hm, hx]
    have hm0 : mF f a + 2 ^ (fP f - 1) ≠ 0 := by omega
    have hml : mF f a + 2 ^ (fP f - 1) < 2 ^ 54 := by omega
    generalize mF f a + 2 ^ (fP f - 1) = n at *
    obtain ⟨k, hk⟩ := tz_split hm0
    have htl := tz_le hml hm0
    have p3 := T92_eq (t := tz n) (k := k) (by rw [← hk]; omega)
    rw [← hk] at p3
    have hq : n / 2 ^ tz n ≠ 0 := by
      have := Nat.mul_div_cancel_left (2 * k + 1) (Nat.two_pow_pos (tz n))
      rw [← hk] at this
      omega
    have hql := Nat.div_le_self n (2 ^ tz n)
    rw [beq0_f _ hm0, cond_false]
    simp only [pre92 p3, fun92 p3, cond_true, nnn, shrN n (tz n) (by omega)]
    rw [← Dw_small hq (by omega)]
    unfold od dyO dy
    rw [if_neg hm0]
    rw [ew (eF f a : Int) (by omega), ew ((eF f a : Int) - 1) (by omega), ew ((eF f a : Int) - 1 + _) (by omega), ew ((eF f a : Int) - 1 + _ - _) (by omega), ew ((eF f a : Int) - 1 + _ - _ + 1) (by omega), ew _ (by omega)]
    rw [show (eF f a : Int) - 1 + (1 - (fX f : Int)) - (fP f : Int) + 1 + (tz n : Int) = 1 - (fX f : Int) - (fP f : Int) + 1 + ((eF f a : Int) - 1) + (tz n : Int) by omega]
end VL
namespace VL
open Go Vx
theorem qm_neg {f : Int} (hf : Fm f) : qm f ≤ 0 := by
  have := fX_ge hf
  have := fP_ge hf
  unfold qm; omega
theorem T51_eq {f m : Int} (hf : Fm f) (hm : 0 ≤ m ∧ m ≤ 5) (s : Bool) {n : Nat} (hn : n < 2 ^ 6000) (h0 : n ≠ 0) (hodd : n % 2 = 1) (e : Int) (he : -20000 ≤ e ∧ e ≤ 20000) :
    T51 (f, m, dy s n e, ()) = some (((rndN f m s n e false).1 : Int), ((rndN f m s n e false).2 : Int), 0, ()) := by
  show t51 S105.pre S105.F S106.pre S106.F S107.pre S107.F f m (s, Dw n, e, ()) = _
  unfold t51
  have p0 := T105_ok hf hm
  have q1 := T103_ok s hn (by decide) e (by omega)
  have q2 := T104_ok s hn e he
  have hod : od s n e = (s, n, e) := by
    obtain ⟨k, rfl⟩ : ∃ k, n = 2 * k + 1 := ⟨n / 2, by omega⟩
    unfold od
    rw [if_neg (by omega), tz_odd, Nat.pow_zero, Nat.div_one, Int.natCast_zero, Int.add_zero]
  rw [hod] at q2
  have p1 : T106 ((s, Dw n, e, ()), ()) = some ((s, Dw n, e, ()), 0, ()) := by
    show t106 S103.pre S103.F S104.pre S104.F (s, Dw n, e, ()) = _
    unfold t106
    have q1 : T103 ((s, Dw n, e, ()), ()) = some (0, ()) := q1
    have q2 : T104 ((s, Dw n, e, ()), ()) = some ((s, Dw n, e, ()), 0, ()) := q2
    simp only [pre103 q1, fun103 q1, pre104 q2, fun104 q2, cond_true, bne_self_eq_false, cond_false]
  have p2 := T107_eq s n e false f m hf (big_lt hn (by decide)) (by omega)
  have hlen : (((Dw n).length : Int) == 0) = false := beq0_f _ (by have := Dw_len h0; omega)
  simp only [pre105 p0, fun105 p0, cond_true, bne_self_eq_false, cond_false, pre106 p1, fun106 p1, hlen, pre107 p2, fun107 p2]
end VL
namespace VL
open Go Vx
/-- bounds that the additions keep -/
def Bd (f : Int) (n : Nat) (e : Int) : Prop := qm f ≤ e ∧ e ≤ 6000 ∧ n * 2 ^ (e - qm f).toNat < 2 ^ 5000
theorem Bd.lt {f : Int} {n : Nat} {e : Int} (h : Bd f n e) : n < 2 ^ 5000 := by
  have := Nat.le_mul_of_pos_right n (Nat.two_pow_pos (e - qm f).toNat)
  exact Nat.lt_of_le_of_lt this h.2.2
theorem Bd.od {f : Int} (hf : Fm f) {n : Nat} {e : Int} (s : Bool) (h : Bd f n e) : Bd f (VL.od s n e).2.1 (VL.od s n e).2.2 := by
  rcases od_cases s n e with ⟨hz, _⟩ | ⟨_, h2, h3, h4, h5⟩
  · rw [hz]
    exact ⟨qm_neg hf, by dsimp only; omega, by dsimp only; rw [Nat.zero_mul]; exact Nat.two_pow_pos _⟩
  · have hle : 2 ^ (tz n + (e - qm f).toNat) ≤ n * 2 ^ (e - qm f).toNat := by
      rw [Nat.pow_add]
      refine Nat.mul_le_mul_right _ ?_
      have := Nat.le_mul_of_pos_right (2 ^ tz n) (show 0 < (VL.od s n e).2.1 by omega)
      omega
    have hlt := (Nat.pow_lt_pow_iff_right (a := 2) (by decide)).1 (Nat.lt_of_le_of_lt hle h.2.2)
    have hq := qm_neg hf
    have h1 := h.1
    refine ⟨by omega, by omega, ?_⟩
    have e1 : (VL.od s n e).2.1 * 2 ^ ((VL.od s n e).2.2 - qm f).toNat = n * 2 ^ (e - qm f).toNat := by
      rw [h5, show (e + (tz n : Int) - qm f).toNat = tz n + (e - qm f).toNat by omega, Nat.pow_add, ← Nat.mul_assoc, Nat.mul_comm _ (2 ^ tz n), ← h4]
    rw [e1]; exact h.2.2
end VL
namespace VL
open Go Vx
/-- a fact that omega doesn't look into -/
structure Hid (p : Prop) : Prop where
  out : p
end VL
namespace VL
open Go Vx
theorem T40_full {f : Int} {a : Nat} (h : chk f a = 0) (hfull : eF f a = fullF f) : T40 (f, (a : Int), ()) = some ((false, [], 0, ()), 40, ()) := by
  obtain ⟨hf, h0⟩ := chk_zero h
  have ha := pat_lt h
  show t40 S66.pre S66.F S90.pre S90.F S91.pre S91.F S92.pre S92.F f a = _
  unfold t40
  have h2 := fP_lt hf
  have h3 := fW_le hf
  have h4 := fP_ge hf
  have h5 := fP_le hf
  have p0 := T66_eq f a ha
  have p1 := T91_eq (fW f - fP f) (by omega)
  have p2 := T90_eq hf a ha
  have hr1 : decide (0 ≤ f) = true := decide_eq_true hf.1
  have hr2 : decide (f < ((4 : Nat) : Int)) = true := decide_eq_true hf.2
  have r1 : (rowOf f).1 = (fW f : Int) := rfl
  have r2 : (rowOf f).2.1 = (fP f : Int) := rfl
  have e1 : IntKind.wrap .i64 ((fW f : Int) - (fP f : Int)) = ((fW f - fP f : Nat) : Int) := wsubn _ _ (by omega)
  have hfl : (((eF f a : Nat) : Int) == ((2 ^ (fW f - fP f) - 1 : Nat) : Int)) = true := by
    rw [nbeq]; exact beq_iff_eq.2 hfull
  simp only [row_at hf, r1, r2, hr1, hr2, pre66 p0, fun66 p0, pre90 p2, fun90 p2, h, cond_true, bne_self_eq_false, cond_false, e1, pre91 p1, fun91 p1, hfl]
end VL
namespace VL
open Go Vx
theorem set_same {l : List Nat} {j v : Nat} (hj : j < l.length) (h : l.getD j 0 = v) : l.set j v = l := by
  rw [List.getD_eq_getElem?_getD, List.getElem?_eq_getElem hj, Option.getD_some] at h
  subst h
  exact List.set_getElem_self hj
end VL
namespace VL
open Go Vx
/-- a number between two bounds -/
def clampI (far n : Int) : Int := if (if far < n then far else n) > -far then (if far < n then far else n) else -far
theorem clamp_bd {far : Int} (h : 0 ≤ far) (n : Int) : -far ≤ clampI far n ∧ clampI far n ≤ far := by
  unfold clampI; split <;> split <;> omega
/-- far below -/
theorem rnd_below {f : Int} (hf : Fm f) (m : Int) (neg : Bool) {N : Nat} (h0 : N ≠ 0) (hN : N < 2 ^ 100) {e : Int} (he : e ≤ -2500) :
    rndN f m neg N e false = ((if furM m neg false 1 = true then 1 else 0) + sgnF f neg, 24) := by
  have hP := fP_ge hf
  have hPl := fP_le hf
  have hX := fX_le hf
  have hX15 := fX_ge hf
  have hbl := blen_bound hN
  have hbl1 := blen_pos h0
  have htop : topE N e = e + (blen N : Int) - 1 := rfl
  have hq : lowE f (topE N e) = 1 - (fX f : Int) - (fP f : Int) + 1 := by unfold lowE; rw [if_pos (by omega)]
  obtain ⟨d, hd⟩ := Int.eq_ofNat_of_zero_le (show 0 ≤ 1 - (fX f : Int) - (fP f : Int) + 1 - e by omega)
  have hN2 : N < 2 ^ (d - 1) := Nat.lt_of_lt_of_le hN (Nat.pow_le_pow_right (by decide) (by omega))
  have hN3 : N < 2 ^ d := Nat.lt_of_lt_of_le hN (Nat.pow_le_pow_right (by decide) (by omega))
  have hquo : quoE N e (1 - (fX f : Int) - (fP f : Int) + 1) = 0 := by
    rw [quoE_hi (by omega), hd, Int.toNat_natCast, Nat.div_eq_of_lt hN3]
  have hrst : cutR N e (1 - (fX f : Int) - (fP f : Int) + 1) false = 1 := by
    rw [cutR_f, rstE_hi (by omega), hd, Int.toNat_natCast, Nat.mod_eq_of_lt hN3]
    unfold clsR
    rw [if_neg h0, if_pos hN2]
  have hcut : cutN m neg N e (1 - (fX f : Int) - (fP f : Int) + 1) false = (if furM m neg false 1 = true then 1 else 0) := by
    unfold cutN
    rw [hquo, hrst]
    by_cases h : furM m neg false 1 = true
    · rw [if_pos h, if_pos ⟨by decide, h⟩]
    · rw [if_neg h, if_neg (fun h2 => h h2.2)]
  have hb1 : blen (if furM m neg false 1 = true then 1 else 0) ≤ 1 := by split <;> decide
  have hc2 := cut_lt_big (m := m) (neg := neg) (n := N) (e := e) hf (Int.le_refl (topE N e - (fP f : Int) + 1))
  have hb2 := blen_bound (Nat.lt_of_le_of_lt hc2 (Nat.pow_lt_pow_right (by decide) (Nat.lt_succ_self (fP f))))
  have htiny : isTiny f m neg N e false := ⟨by omega, by omega⟩
  unfold rndN
  dsimp only
  rw [hq, hcut, hrst, if_neg (by omega), if_neg (by omega), if_neg (show ¬ (1 : Nat) = 0 by decide), if_pos htiny, Int.sub_self, Int.toNat_zero, Nat.zero_mul, Nat.zero_add]
theorem rnd_above {f : Int} (hf : Fm f) (m : Int) (neg : Bool) {N : Nat} (h0 : N ≠ 0) {e : Int} (he : 2500 ≤ e) :
    rndN f m neg N e false = (beyB f m neg, 20) := by
  have hX := fX_le hf
  have hbl1 := blen_pos h0
  have htop : topE N e = e + (blen N : Int) - 1 := rfl
  unfold rndN
  rw [if_pos (by omega)]
theorem rnd_sat {f : Int} (hf : Fm f) (m : Int) (neg : Bool) {N : Nat} (h0 : N ≠ 0) (hN : N < 2 ^ 100) {e : Int} (he : -2000 ≤ e ∧ e ≤ 2000) (n : Int) :
    rndN f m neg N (e + clampI 10000 n) false = rndN f m neg N (e + clampI 5000 n) false := by
  by_cases h1 : n > 5000
  · have a1 : 5000 ≤ clampI 10000 n := by unfold clampI; split <;> split <;> omega
    have a2 : 5000 ≤ clampI 5000 n := by unfold clampI; split <;> split <;> omega
    rw [rnd_above hf m neg h0 (by omega), rnd_above hf m neg h0 (by omega)]
  · by_cases h2 : n < -5000
    · have a1 : clampI 10000 n ≤ -5000 := by unfold clampI; split <;> split <;> omega
      have a2 : clampI 5000 n ≤ -5000 := by unfold clampI; split <;> split <;> omega
      rw [rnd_below hf m neg h0 hN (by omega), rnd_below hf m neg h0 hN (by omega)]
    · have a1 : clampI 10000 n = clampI 5000 n := by
        have b1 : clampI 10000 n = n := by unfold clampI; rw [if_neg (show ¬ (10000 : Int) < n by omega), if_pos (by omega)]
        have b2 : clampI 5000 n = n := by
          unfold clampI
          rw [if_neg (show ¬ (5000 : Int) < n by omega)]
          split <;> omega
        rw [b1, b2]
      rw [a1]
/-- what both answer -/
noncomputable def scaleF (f m : Int) (a : Nat) (n : Int) : DenS O38 :=
  if ¬ Fm f then (0, 0, 2, ())
  else if m < 0 ∨ m > 5 then (0, 0, 3, ())
  else if chk f a ≠ 0 then (0, 0, chk f a, ())
  else bif nan f a then ((nanF f : Int), (bif snan f a then 1 else 0), 0, ())
  else if eF f a = fullF f ∨ absF f a = 0 then ((a : Int), 0, 0, ())
  else (((rndN f m (sF f a) (mant f a) (xpn f a + clampI 5000 n) false).1 : Int), ((rndN f m (sF f a) (mant f a) (xpn f a + clampI 5000 n) false).2 : Int), 0, ())
theorem place_zeroB (f : Int) (a : Nat) : (place f a == 0) = decide (absF f a = 0) := by
  rw [Bool.eq_iff_iff, beq_iff_eq, decide_eq_true_eq]
  unfold place
  cases sF f a <;> simp only [cond_true, cond_false] <;> omega
theorem T38_eq (f m : Int) {a : Nat} (ha : a < 2 ^ 64) (n : Int) : T38 (f, m, (a : Int), n, ()) = some (scaleF f m a n) := by
  show t38 S69.pre S69.F S82.pre S82.F S53.pre S53.F S70.pre S70.F S54.pre S54.F S40.pre S40.F S51.pre S51.F f m a n = _
  unfold t38 scaleF
  rw [show (if ((if ((10000 : Int) < n) then (10000 : Int) else n) > (-(10000 : Int))) then (if ((10000 : Int) < n) then (10000 : Int) else n) else (-(10000 : Int))) = clampI 10000 n from rfl]
  by_cases hf : ¬ Fm f
  · have p0 := T69_bad hf
    rw [if_pos hf]
    simp only [pre69 p0, fun69 p0, cond_true]
    rfl
  have hf := Classical.not_not.1 hf
  have p0 := T69_ok hf
  rw [if_neg (show ¬ ¬ Fm f from fun h => h hf)]
  simp only [pre69 p0, fun69 p0, cond_true, bne_self_eq_false, cond_false]
  by_cases hm : m < 0 ∨ m > 5
  · rw [if_pos hm]
    have : (decide (m < 0) || decide (m > 5)) = true := by rcases hm with h | h <;> simp [h]
    rw [this, cond_true]
  rw [if_neg hm]
  have hmm : (decide (m < 0) || decide (m > 5)) = false := by
    rw [decide_eq_false (by omega), decide_eq_false (by omega)]; rfl
  rw [hmm, cond_false]
  by_cases hc : chk f a ≠ 0
  · have p1 := T82_bad ha hc
    rw [if_pos hc]
    simp only [pre82 p1, fun82 p1, cond_true, bne_iff_ne.2 hc]
  have hc : chk f a = 0 := Classical.not_not.1 hc
  have p1 := T82_ok ha hc
  rw [if_neg (show ¬ chk f a ≠ 0 from fun h => h hc)]
  have p2 := T53_eq (cls f a, place f a, ())
  have p3 := T54_eq (cls f a, place f a, ()) (cls f a, place f a, ())
  have p4 := T70_ok hf
  rw [show ((cls f a, place f a, ()) : Int × Int × Unit).1 = cls f a from rfl, cls_nan] at p2
  rw [show ((cls f a, place f a, ()) : Int × Int × Unit).1 = cls f a from rfl, cls_snan, Bool.or_self] at p3
  simp only [pre82 p1, fun82 p1, cond_true, bne_self_eq_false, cond_false, pre53 p2, fun53 p2, pre54 p3, fun54 p3, pre70 p4, fun70 p4]
  cases hn : nan f a with
  | true => rfl
  | false =>
    simp only [cond_false]
    by_cases hi : eF f a = fullF f
    · have p5 := T40_full hc hi
      rw [if_pos (.inl hi)]
      simp only [pre40 p5, fun40 p5, cond_true]
      rfl
    have p5 := T40_fin hc hi
    simp only [pre40 p5, fun40 p5, cond_true, bne_self_eq_false, Bool.false_or, place_zeroB]
    by_cases hz : absF f a = 0
    · rw [if_pos (.inr hz), decide_eq_true hz, cond_true]
    rw [if_neg (by rintro (h | h) <;> contradiction), decide_eq_false hz, cond_false]
    have hml := mant_lt hf a
    have hxb := xpn_bound hf a
    have hmn : mant f a ≠ 0 := by
      intro h
      have hz0 := (zero_iff hf a).2
      unfold mant at h
      have hpp := Nat.two_pow_pos (fP f - 1)
      split at h
      · rename_i h2; exact hz (hz0 ⟨h2, h⟩)
      · omega
    have hcb := clamp_bd (far := 10000) (by decide) n
    rcases od_cases (sF f a) (mant f a) (xpn f a) with ⟨_, h⟩ | ⟨o1, o2, o3, o4, o5⟩
    · exact absurd h hmn
    have htz := tz_le hml hmn
    have e1 : (dyO (od (sF f a) (mant f a) (xpn f a))).2.2.1 = xpn f a + tz (mant f a) := by
      show (od (sF f a) (mant f a) (xpn f a)).2.2 = _
      exact o5
    have e2 : (dyO (od (sF f a) (mant f a) (xpn f a))).1 = sF f a := by
      show (od (sF f a) (mant f a) (xpn f a)).1 = _
      exact o1
    have e3 : (dyO (od (sF f a) (mant f a) (xpn f a))).2.1 = Dw (od (sF f a) (mant f a) (xpn f a)).2.1 := rfl
    rw [e1, e2, e3, wrapI (n := xpn f a + _ + _) (by omega)]
    generalize (od (sF f a) (mant f a) (xpn f a)).2.1 = k at *
    have hk0 : k ≠ 0 := by omega
    have hkl : k ≤ mant f a := by
      have := Nat.le_mul_of_pos_left k (Nat.two_pow_pos (tz (mant f a)))
      omega
    have p6 := T51_eq hf (m := m) (by omega) (sF f a) (n := k) (Nat.lt_trans (Nat.lt_of_le_of_lt hkl hml) (Nat.pow_lt_pow_right (by decide) (by decide))) hk0 o2 (xpn f a + tz (mant f a) + clampI 10000 n) (by omega)
    have hsc := rnd_scale (f := f) (m := m) (neg := sF f a) hf hk0 (tz (mant f a)) (xpn f a + clampI 10000 n)
    rw [Nat.mul_comm, ← o4, show xpn f a + clampI 10000 n + (tz (mant f a) : Int) = xpn f a + tz (mant f a) + clampI 10000 n by omega] at hsc
    rw [← hsc, rnd_sat hf m (sF f a) hmn (Nat.lt_trans hml (Nat.pow_lt_pow_right (by decide) (by decide))) ⟨hxb.1, hxb.2⟩ n] at p6
    have p6 : T51 (f, m, (sF f a, Dw k, xpn f a + tz (mant f a) + clampI 10000 n, ()), ()) = _ := p6
    simp only [pre51 p6, fun51 p6, cond_true]
end VL
namespace VL
open Go Vx
theorem a32 {x : Nat} (h : x < 2 ^ 64) : andI .u64 (x : Int) 4294967295 = ((x % 2 ^ 32 : Nat) : Int) := andI_mask (n := 32) h (by decide)
theorem s32 (x : Nat) : shrI .u64 (x : Int) 32 = ((x / 2 ^ 32 : Nat) : Int) := by
  have h := shrI_u64 (a := (x : Int)) 32 (by decide)
  rw [show ((32 : Nat) : Int) = 32 from rfl] at h
  rw [h]; norm_cast
theorem mul_hi {x0 x1 y0 y1 : Nat} (h0 : x0 < 2 ^ 32) (h1 : x1 < 2 ^ 32) (k0 : y0 < 2 ^ 32) (k1 : y1 < 2 ^ 32) :
    ((x1 * y1 % 2 ^ 64 + (x1 * y0 % 2 ^ 64 + x0 * y0 % 2 ^ 64 / 2 ^ 32) % 2 ^ 64 / 2 ^ 32) % 2 ^ 64 + ((x1 * y0 % 2 ^ 64 + x0 * y0 % 2 ^ 64 / 2 ^ 32) % 2 ^ 64 % 2 ^ 32 + x0 * y1 % 2 ^ 64) % 2 ^ 64 / 2 ^ 32) % 2 ^ 64 = (x0 + 2 ^ 32 * x1) * (y0 + 2 ^ 32 * y1) / 2 ^ 64 := by
  have b00 : x0 * y0 ≤ (2 ^ 32 - 1) * (2 ^ 32 - 1) := Nat.mul_le_mul (by omega) (by omega)
  have b01 : x0 * y1 ≤ (2 ^ 32 - 1) * (2 ^ 32 - 1) := Nat.mul_le_mul (by omega) (by omega)
  have b10 : x1 * y0 ≤ (2 ^ 32 - 1) * (2 ^ 32 - 1) := Nat.mul_le_mul (by omega) (by omega)
  have b11 : x1 * y1 ≤ (2 ^ 32 - 1) * (2 ^ 32 - 1) := Nat.mul_le_mul (by omega) (by omega)
  have e1 : x0 * (2 ^ 32 * y1) = 2 ^ 32 * (x0 * y1) := Nat.mul_left_comm _ _ _
  have e2 : 2 ^ 32 * x1 * y0 = 2 ^ 32 * (x1 * y0) := Nat.mul_assoc _ _ _
  have e3 : 2 ^ 32 * x1 * (2 ^ 32 * y1) = 2 ^ 64 * (x1 * y1) := by
    rw [Nat.mul_assoc, Nat.mul_left_comm x1, ← Nat.mul_assoc]
  rw [Nat.add_mul, Nat.mul_add, Nat.mul_add, e1, e2, e3]
  generalize x0 * y0 = a at *
  generalize x0 * y1 = b at *
  generalize x1 * y0 = c at *
  generalize x1 * y1 = d at *
  have ha : a % 2 ^ 64 = a := Nat.mod_eq_of_lt (by omega)
  have hb : b % 2 ^ 64 = b := Nat.mod_eq_of_lt (by omega)
  have hc : c % 2 ^ 64 = c := Nat.mod_eq_of_lt (by omega)
  have hd : d % 2 ^ 64 = d := Nat.mod_eq_of_lt (by omega)
  rw [ha, hb, hc, hd]
  have ht : (c + a / 2 ^ 32) % 2 ^ 64 = c + a / 2 ^ 32 := Nat.mod_eq_of_lt (by omega)
  rw [ht]
  generalize hT : c + a / 2 ^ 32 = t
  have hw : (t % 2 ^ 32 + b) % 2 ^ 64 = t % 2 ^ 32 + b := Nat.mod_eq_of_lt (by omega)
  rw [hw]
  have hq : (d + t / 2 ^ 32) % 2 ^ 64 = d + t / 2 ^ 32 := Nat.mod_eq_of_lt (by omega)
  rw [hq]
  omega
theorem T315_eq {x y : Nat} (hx : x < 2 ^ 64) (hy : y < 2 ^ 64) : T315 ((x : Int), (y : Int), ()) = some (((x * y / 2 ^ 64 : Nat) : Int), ((x * y % 2 ^ 64 : Nat) : Int), ()) := by
  show t315 (x : Int) (y : Int) = _
  unfold t315
  dsimp only
  rw [a32 hx, a32 hy, s32 x, s32 y]
  have hm : ∀ z : Nat, z % 2 ^ 64 < 2 ^ 64 := fun z => Nat.mod_lt _ (by decide)
  have am : ∀ z : Nat, andI .u64 ((z % 2 ^ 64 : Nat) : Int) 4294967295 = ((z % 2 ^ 64 % 2 ^ 32 : Nat) : Int) := fun z => a32 (hm z)
  have wm : ∀ a b : Nat, IntKind.wrap .u64 ((a : Int) * (b : Int)) = ((a * b % 2 ^ 64 : Nat) : Int) := fun a b => by rw [← Int.natCast_mul]; exact wrapN _
  have wa : ∀ a b : Nat, IntKind.wrap .u64 ((a : Int) + (b : Int)) = (((a + b) % 2 ^ 64 : Nat) : Int) := fun a b => by rw [← Int.natCast_add]; exact wrapN _
  simp only [wm, wa, s32, am]
  have e := mul_hi (x0 := x % 2 ^ 32) (x1 := x / 2 ^ 32) (y0 := y % 2 ^ 32) (y1 := y / 2 ^ 32) (by omega) (by omega) (by omega) (by omega)
  rw [Nat.mod_add_div, Nat.mod_add_div] at e
  rw [e]
theorem T316_eq {x y : Nat} (hx : x < 2 ^ 64) (hy : y < 2 ^ 64) : T316 ((x : Int), (y : Int), ()) = some (Wi (x * y), ()) := by
  show t316 S315.pre S315.F (x : Int) (y : Int) = _
  unfold t316
  have p := T315_eq hx hy
  simp only [pre315 p, fun315 p, cond_true]
  rfl
/-- is it a zero -/
def zro (f : Int) (a : Nat) : Bool := eF f a == 0 && mF f a == 0
theorem cls_zro {f : Int} (hf : Fm f) (a : Nat) : (cls f a == 5 || cls f a == 6) = zro f a := by
  have hp := full_pos hf
  have hne : (eF f a == fullF f && eF f a == 0) = false := by
    cases h : eF f a == fullF f
    · rfl
    · have := beq_iff_eq.1 h
      rw [Bool.true_and, this]
      exact beq_eq_false_iff_ne.2 (by omega)
  unfold cls zro
  cases h1 : eF f a == fullF f <;> cases h2 : eF f a == 0 <;> rw [h1, h2] at hne <;> cases mF f a == 0 <;> cases sF f a <;> cases mF f a / 2 ^ (fP f - 2) != 0 <;> first | rfl | cases hne
theorem xpn_one {f : Int} (hf : Fm f) {a : Nat} (h : eF f a = 0) :
    IntKind.wrap .i64 (IntKind.wrap .i64 (IntKind.wrap .i64 (IntKind.wrap .i64 (IntKind.wrap .i64 (1 : Int) - 1) + (1 - (fX f : Int))) - (fP f : Int)) + 1) = xpn f a := by
  have h3 := fP_le hf
  have h4 := fX_le hf
  unfold xpn
  rw [if_pos h, show IntKind.wrap .i64 (1 : Int) = 1 from rfl, wrapI (n := (1 : Int) - 1) (by omega), wrapI (n := (1 : Int) - 1 + (1 - (fX f : Int))) (by omega), wrapI (n := (1 : Int) - 1 + (1 - (fX f : Int)) - (fP f : Int)) (by omega), wrapI (by omega)]
  omega
theorem xpn_exp {f : Int} (hf : Fm f) {a : Nat} (h : eF f a ≠ 0) :
    IntKind.wrap .i64 (IntKind.wrap .i64 (IntKind.wrap .i64 (IntKind.wrap .i64 (IntKind.wrap .i64 (eF f a : Int) - 1) + (1 - (fX f : Int))) - (fP f : Int)) + 1) = xpn f a := by
  have h3 := fP_le hf
  have h4 := fX_le hf
  have hE := eF_lt hf a
  unfold xpn
  rw [if_neg h, wrapI (n := (eF f a : Int)) (by omega), wrapI (n := (eF f a : Int) - 1) (by omega), wrapI (n := (eF f a : Int) - 1 + (1 - (fX f : Int))) (by omega), wrapI (n := (eF f a : Int) - 1 + (1 - (fX f : Int)) - (fP f : Int)) (by omega), wrapI (by omega)]
  omega
theorem mant_or {f : Int} (hf : Fm f) (a : Nat) : orI .u64 (mF f a : Int) (shlI .u64 1 (IntKind.wrap .i64 ((fP f : Int) - 1))) = ((mF f a + 2 ^ (fP f - 1) : Nat) : Int) := by
  have h1 := fP_ge hf
  have h3 := fP_le hf
  have hM := mF_lt f a
  have hPp : 2 ^ (fP f - 1) ≤ 2 ^ 52 := Nat.pow_le_pow_right (by decide) (by omega)
  have e0 : IntKind.wrap .i64 ((fP f : Int) - 1) = ((fP f - 1 : Nat) : Int) := wsub1 _ (by omega)
  have e3 : shlI .u64 1 ((fP f - 1 : Nat) : Int) = ((2 ^ (fP f - 1) : Nat) : Int) := shlI_one (by omega)
  rw [e0, e3]
  have := orN (a := mF f a) (b := 1) (k := fP f - 1) hM (by omega)
  rwa [Nat.one_mul] at this
/-- a checked pattern taken apart -/
theorem T350_ok {f : Int} {a : Nat} (h : chk f a = 0) : T350 (f, rowOf f, (a : Int), ()) = some ((cls f a, sF f a, (mant f a : Int), xpn f a, ()), 0, ()) := by
  obtain ⟨hf, h0⟩ := chk_zero h
  have ha := pat_lt h
  show t350 S65.pre S65.F S98.pre S98.F f (rowOf f) a = _
  unfold t350
  have p1 := T65_ok ha h
  have p2 := T98_ok h
  have h1 := fP_ge hf
  have h3 := fP_le hf
  have r1 : (rowOf f).2.1 = (fP f : Int) := rfl
  have r2 : (rowOf f).2.2.1 = 1 - (fX f : Int) := rfl
  have e0 : decide (0 ≤ IntKind.wrap .i64 ((fP f : Int) - 1)) = true := by
    rw [wsub1 _ (by omega)]; exact nnn _
  simp only [pre65 p1, fun65 p1, pre98 p2, fun98 p2, cond_true, bne_self_eq_false, cond_false, r1, r2, e0]
  by_cases hz : eF f a = 0
  · rw [beq0_t _ hz, cond_true, xpn_one hf hz]
    have hm : mant f a = mF f a := by unfold mant; rw [if_pos hz]
    rw [hm]
  · rw [beq0_f _ hz, cond_false, xpn_exp hf hz, mant_or hf]
    have hm : mant f a = mF f a + 2 ^ (fP f - 1) := by unfold mant; rw [if_neg hz]
    rw [hm]
theorem T350_bad {f : Int} {a : Nat} (ha : a < 2 ^ 64) (h : chk f a ≠ 0) : T350 (f, rowOf f, (a : Int), ()) = some ((0, false, 0, 0, ()), chk f a, ()) := by
  show t350 S65.pre S65.F S98.pre S98.F f (rowOf f) a = _
  unfold t350
  have p1 := T65_bad ha h
  have e : (chk f a != 0) = true := bne_iff_ne.2 h
  simp only [pre65 p1, fun65 p1, cond_true, e]
/-- what a product answers -/
def mulR (f m : Int) (a b : Nat) : Int × Int × Int × Unit :=
  bif nan f a || nan f b then ((nanF f : Int), (bif snan f a || snan f b then 1 else 0), 0, ())
  else bif (isInf f a && zro f b) || (zro f a && isInf f b) then ((nanF f : Int), 1, 0, ())
  else bif isInf f a || isInf f b then ((infB f (!(sF f a == sF f b)) : Int), 0, 0, ())
  else bif zro f a || zro f b then ((sgnF f (!(sF f a == sF f b)) : Int), 0, 0, ())
  else (((rndN f m (!(sF f a == sF f b)) (mant f a * mant f b) (xpn f a + xpn f b) false).1 : Int), ((rndN f m (!(sF f a == sF f b)) (mant f a * mant f b) (xpn f a + xpn f b) false).2 : Int), 0, ())
def mulA (f m : Int) (a b : Nat) : Int × Int × Int × Unit :=
  if ¬ Fm f then (0, 0, 2, ())
  else if m < 0 ∨ m > 5 then (0, 0, 3, ())
  else if chk f a ≠ 0 then (0, 0, chk f a, ())
  else if chk f b ≠ 0 then (0, 0, chk f b, ())
  else mulR f m a b
theorem zro_mant {f : Int} {a : Nat} (h : zro f a = false) : mant f a ≠ 0 := by
  unfold zro at h
  unfold mant
  by_cases hz : eF f a = 0
  · rw [if_pos hz]
    intro hm
    rw [hz, hm] at h
    cases h
  · rw [if_neg hz]
    have := Nat.two_pow_pos (fP f - 1)
    omega
theorem T354_eq (f m : Int) {a b : Nat} (ha : a < 2 ^ 64) (hb : b < 2 ^ 64) : T354 (f, m, (a : Int), (b : Int), ()) = some (mulA f m a b) := by
  show t354 S69.pre S69.F S350.pre S350.F S351.pre S351.F S70.pre S70.F S352.pre S352.F S97.pre S97.F S353.pre S353.F S118.pre S118.F S316.pre S316.F S122.pre S122.F f m a b = _
  unfold t354 mulA
  dsimp only
  by_cases hf : ¬ Fm f
  · have p0 := T69_bad hf
    rw [if_pos hf]
    simp only [pre69 p0, fun69 p0, cond_true]
    rfl
  have hf := Classical.not_not.1 hf
  have p0 := T69_ok hf
  rw [if_neg (show ¬ ¬ Fm f from fun h => h hf)]
  simp only [pre69 p0, fun69 p0, cond_true, bne_self_eq_false, cond_false]
  by_cases hm : m < 0 ∨ m > 5
  · rw [if_pos hm]
    have : (decide (m < 0) || decide (m > 5)) = true := by rcases hm with h | h <;> simp [h]
    rw [this, cond_true]
  rw [if_neg hm]
  have hm' : 0 ≤ m ∧ m ≤ 5 := by omega
  have : (decide (m < 0) || decide (m > 5)) = false := by simp; omega
  rw [this, cond_false]
  by_cases hca : chk f a ≠ 0
  · have p1 := T350_bad ha hca
    have e : (chk f a != 0) = true := bne_iff_ne.2 hca
    rw [if_pos hca]
    simp only [pre350 p1, fun350 p1, cond_true, e]
  have hca := Classical.not_not.1 hca
  have p1 := T350_ok hca
  rw [if_neg (show ¬ chk f a ≠ 0 from fun h => h hca)]
  simp only [pre350 p1, fun350 p1, cond_true, bne_self_eq_false, cond_false]
  by_cases hcb : chk f b ≠ 0
  · have p2 := T350_bad hb hcb
    have e : (chk f b != 0) = true := bne_iff_ne.2 hcb
    rw [if_pos hcb]
    simp only [pre350 p2, fun350 p2, cond_true, e]
  have hcb := Classical.not_not.1 hcb
  have p2 := T350_ok hcb
  rw [if_neg (show ¬ chk f b ≠ 0 from fun h => h hcb)]
  have n351 : ∀ (c : Int) (s : Bool) (n e : Int), T351 ((c, s, n, e, ()), ()) = some ((c == 1 || c == 0), ()) := fun _ _ _ _ => rfl
  have n352 : ∀ (c : Int) (s : Bool) (n e : Int), T352 ((c, s, n, e, ()), ()) = some ((c == 2 || c == 9), ()) := fun _ _ _ _ => rfl
  have n353 : ∀ (c : Int) (s : Bool) (n e : Int), T353 ((c, s, n, e, ()), ()) = some ((c == 5 || c == 6), ()) := fun _ _ _ _ => rfl
  have q1 := n351 (cls f a) (sF f a) (mant f a : Int) (xpn f a)
  have q2 := n351 (cls f b) (sF f b) (mant f b : Int) (xpn f b)
  have q3 := n352 (cls f a) (sF f a) (mant f a : Int) (xpn f a)
  have q4 := n352 (cls f b) (sF f b) (mant f b : Int) (xpn f b)
  have q5 := n353 (cls f a) (sF f a) (mant f a : Int) (xpn f a)
  have q6 := n353 (cls f b) (sF f b) (mant f b : Int) (xpn f b)
  rw [cls_nan] at q1 q2
  rw [cls_isInf] at q3 q4
  rw [cls_zro hf] at q5 q6
  have s := !(sF f a == sF f b)
  have p3 := T70_ok hf
  have p4 := T97_ok hf (!(sF f a == sF f b))
  have p5 := T118_ok hf (!(sF f a == sF f b))
  have ma := mant_lt hf a
  have mb := mant_lt hf b
  have xa := xpn_bound hf a
  have xb := xpn_bound hf b
  have hprod : mant f a * mant f b < 2 ^ 128 := Nat.lt_of_lt_of_le (Nat.mul_lt_mul'' ma mb) (by decide)
  have p6 := T316_eq (x := mant f a) (y := mant f b) (Nat.lt_trans ma (by decide)) (Nat.lt_trans mb (by decide))
  have p7 := T122_eq hf hm' (!(sF f a == sF f b)) (mant f a * mant f b) hprod (xpn f a + xpn f b) (by omega) false (fun h => by cases h)
  have ew : IntKind.wrap .i64 (xpn f a + xpn f b) = xpn f a + xpn f b := wrapI (by omega)
  simp only [pre350 p2, fun350 p2, cond_true, bne_self_eq_false, cond_false, pre351 q1, fun351 q1, pre351 q2, fun351 q2, pre352 q3, fun352 q3, pre352 q4, fun352 q4, pre353 q5, fun353 q5, pre353 q6, fun353 q6, pre70 p3, fun70 p3, pre97 p4, fun97 p4, pre118 p5, fun118 p5, pre316 p6, fun316 p6, ew, pre122 p7, fun122 p7, Bool.true_or, cls_snan]
  unfold mulR
  cases h1 : nan f a || nan f b
  · simp only [cond_false]
    cases h2 : isInf f a && zro f b || zro f a && isInf f b
    · simp only [cond_false]
      cases h3 : isInf f a || isInf f b
      · simp only [cond_false]
        cases h4 : zro f a || zro f b
        · simp only [cond_false]
          simp only [Bool.or_eq_false_iff] at h4
          rw [if_neg (Nat.mul_ne_zero (zro_mant h4.1) (zro_mant h4.2))]
        · simp only [cond_true]
      · simp only [cond_true]
    · simp only [cond_true]
  · simp only [cond_true]
    cases snan f a || snan f b <;> rfl
end VL
namespace VL
open Go Vx
/-- one number, rounded alike however it is written -/
theorem rnd_same {f m : Int} {neg : Bool} (hf : Fm f) {n n' : Nat} {e e' : Int} (hn : n ≠ 0) (hn' : n' ≠ 0) (h : n * 2 ^ (e - min e e').toNat = n' * 2 ^ (e' - min e e').toNat) : rndN f m neg n e false = rndN f m neg n' e' false := by
  have h1 := rnd_scale (m := m) (neg := neg) hf hn (e - min e e').toNat (min e e')
  have h2 := rnd_scale (m := m) (neg := neg) hf hn' (e' - min e e').toNat (min e e')
  rw [h] at h1
  rw [h1] at h2
  rw [show min e e' + ((e - min e e').toNat : Int) = e by omega, show min e e' + ((e' - min e e').toNat : Int) = e' by omega] at h2
  exact h2
theorem rst_zero {n : Nat} {e q : Int} (h : rstE n e q = 0) : quoE n e q * 2 ^ (q - min e q).toNat = n * 2 ^ (e - min e q).toNat := by
  by_cases hq : q ≤ e
  · rw [quoE_lo hq, show (q - min e q).toNat = 0 by omega, show min e q = q by omega, Nat.pow_zero, Nat.mul_one]
  · have hq : e < q := by omega
    rw [rstE_hi hq] at h
    have hr : n % 2 ^ (q - e).toNat = 0 := by
      unfold clsR at h
      split at h
      · assumption
      · split at h
        · cases h
        · split at h <;> cases h
    rw [quoE_hi hq, show min e q = e by omega, show (e - e).toNat = 0 by omega, Nat.pow_zero, Nat.mul_one, Nat.mul_comm]
    have := Nat.div_add_mod n (2 ^ (q - e).toNat)
    omega
/-- where nothing is raised the pattern is the number -/
theorem rnd_zero {f m : Int} (hf : Fm f) (neg : Bool) {n : Nat} {e : Int} (hn : n ≠ 0) (h0 : (rndN f m neg n e false).2 = 0) :
    chk f (rndN f m neg n e false).1 = 0 ∧ sF f (rndN f m neg n e false).1 = neg ∧ eF f (rndN f m neg n e false).1 ≠ fullF f ∧ mant f (rndN f m neg n e false).1 ≠ 0 ∧
      mant f (rndN f m neg n e false).1 * 2 ^ (xpn f (rndN f m neg n e false).1 - min e (xpn f (rndN f m neg n e false).1)).toNat = n * 2 ^ (e - min e (xpn f (rndN f m neg n e false).1)).toNat := by
  have hP := fP_ge hf
  have hPl := fP_le hf
  have hX15 := fX_ge hf
  have hbl1 := blen_pos hn
  unfold rndN at h0 ⊢
  by_cases ht : topE n e > fX f
  · rw [if_pos ht] at h0; cases h0
  rw [if_neg ht] at h0 ⊢
  dsimp only at h0 ⊢
  obtain ⟨l1, l2, l3⟩ := low_facts f hf (topE n e) ht
  by_cases h2 : lowE f (topE n e) + (blen (cutN m neg n e (lowE f (topE n e)) false) : Int) - 1 > fX f
  · rw [if_pos h2] at h0; cases h0
  rw [if_neg h2] at h0 ⊢
  dsimp only at h0 ⊢
  have hlow : lowE f (topE n e) = qm f ∨ (qm f < lowE f (topE n e) ∧ lowE f (topE n e) = topE n e - (fP f : Int) + 1) := by
    unfold lowE qm
    split
    · exact .inl rfl
    · by_cases h : topE n e = 1 - (fX f : Int)
      · left; rw [h]
      · right; exact ⟨by omega, rfl⟩
  generalize hq : lowE f (topE n e) = q at *
  have hr : rstE n e q = 0 := by
    by_cases hr : cutR n e q false = 0
    · exact hr
    · rw [if_neg hr] at h0
      split at h0 <;> cases h0
  have hcut : cutN m neg n e q false = quoE n e q := by
    unfold cutN
    rw [if_neg (fun h => h.1 hr)]
  rw [hcut] at h2 ⊢
  have hval := rst_zero hr
  have hlt : quoE n e q < 2 ^ fP f := quo_lt l1
  generalize hu : quoE n e q = u at *
  have hu0 : u ≠ 0 := fun h => by
    rw [h, Nat.zero_mul] at hval
    exact Nat.mul_ne_zero hn (Nat.ne_of_gt (Nat.two_pow_pos _)) hval.symm
  have hqm : (1 - (fX f : Int) - (fP f : Int) + 1) = qm f := rfl
  rw [hqm]
  have h2P := two_P hf
  have hpp := Nat.two_pow_pos (fP f - 1)
  -- where the highest bit stands
  have hbig : q ≠ qm f → 2 ^ (fP f - 1) ≤ u := fun hne => by
    rcases hlow with h | ⟨h, h'⟩
    · exact absurd h hne
    · -- u * 2^q = n * 2^e is at least 2^top
      have ht2 : topE n e = e + (blen n : Int) - 1 := rfl
      have hnl := blen_le hn
      rcases Nat.lt_or_ge u (2 ^ (fP f - 1)) with hl | hl
      · exfalso
        have k1 : u * 2 ^ (q - min e q).toNat < 2 ^ (fP f - 1) * 2 ^ (q - min e q).toNat := Nat.mul_lt_mul_of_pos_right hl (Nat.two_pow_pos _)
        rw [hval, ← Nat.pow_add] at k1
        have k2 : 2 ^ (blen n - 1) * 2 ^ (e - min e q).toNat ≤ n * 2 ^ (e - min e q).toNat := Nat.mul_le_mul_right _ hnl
        rw [← Nat.pow_add] at k2
        have k3 := (Nat.pow_lt_pow_iff_right (a := 2) (by decide)).1 (Nat.lt_of_le_of_lt k2 k1)
        omega
      · exact hl
  have hblu : blen u ≤ fP f := blen_bound hlt
  obtain ⟨d, hd⟩ := Int.eq_ofNat_of_zero_le (show 0 ≤ q - qm f by rcases hlow with h | ⟨h, _⟩ <;> omega)
  rw [hd, Int.toNat_natCast]
  have hfull : fullF f = 2 * fX f + 1 := by unfold fullF; rw [← fX_eq hf]
  have hinf : infF f = 2 ^ (fP f - 1) * fullF f := rfl
  have hroom := inf_room hf
  rw [add_sgn]
  by_cases hs : u < 2 ^ (fP f - 1)
  · have hqe : q = qm f := Classical.byContradiction fun h => absurd (hbig h) (by omega)
    have hd0 : d = 0 := by omega
    rw [hd0, Nat.zero_mul, Nat.zero_add]
    have hul : u < 2 ^ (fW f - 1) := by
      have : 2 ^ (fP f - 1) * 1 ≤ 2 ^ (fP f - 1) * fullF f := Nat.mul_le_mul_left _ (full_pos hf)
      omega
    have ha := mk_abs (f := f) neg hul
    have hE : eF f (mkF f neg u) = 0 := by rw [eF_abs hf, ha, Nat.div_eq_of_lt hs]
    have hM : mF f (mkF f neg u) = u := by rw [mF_abs hf, ha, Nat.mod_eq_of_lt hs]
    have hm : mant f (mkF f neg u) = u := by unfold mant; rw [if_pos hE, hM]
    have hx : xpn f (mkF f neg u) = q := by unfold xpn; rw [if_pos hE, hqe]; unfold qm; omega
    refine ⟨mk_chk hf neg hul, mk_sgn neg hul, by rw [hE]; have := full_pos hf; omega, by rw [hm]; exact hu0, ?_⟩
    rw [hm, hx]; exact hval
  · have hbu : blen u = fP f := by
      have := blen_of (n := u) (k := fP f - 1) (by omega) (by rw [show fP f - 1 + 1 = fP f by omega]; exact hlt)
      omega
    have hdl : d ≤ 2 * fX f - 1 := by
      have : qm f = 1 - (fX f : Int) - (fP f : Int) + 1 := rfl
      omega
    obtain ⟨r, hr2⟩ : ∃ r, u = 2 ^ (fP f - 1) + r := ⟨u - 2 ^ (fP f - 1), by omega⟩
    have hrl : r < 2 ^ (fP f - 1) := by omega
    have hv : d * 2 ^ (fP f - 1) + u = r + 2 ^ (fP f - 1) * (d + 1) := by rw [hr2, Nat.mul_add, Nat.mul_comm]; omega
    rw [hv]
    have hle : 2 ^ (fP f - 1) * (d + 1 + 1) ≤ 2 ^ (fP f - 1) * fullF f := Nat.mul_le_mul_left _ (by omega)
    rw [Nat.mul_add _ (d + 1)] at hle
    have hul : r + 2 ^ (fP f - 1) * (d + 1) < 2 ^ (fW f - 1) := by omega
    have ha := mk_abs (f := f) neg hul
    have hE : eF f (mkF f neg (r + 2 ^ (fP f - 1) * (d + 1))) = d + 1 := by
      rw [eF_abs hf, ha, Nat.add_mul_div_left _ _ hpp, Nat.div_eq_of_lt hrl, Nat.zero_add]
    have hM : mF f (mkF f neg (r + 2 ^ (fP f - 1) * (d + 1))) = r := by
      rw [mF_abs hf, ha, Nat.add_mul_mod_self_left, Nat.mod_eq_of_lt hrl]
    have hm : mant f (mkF f neg (r + 2 ^ (fP f - 1) * (d + 1))) = u := by
      unfold mant; rw [if_neg (by omega), hM, hr2]; omega
    have hx : xpn f (mkF f neg (r + 2 ^ (fP f - 1) * (d + 1))) = q := by
      unfold xpn; rw [if_neg (by omega), hE]
      have : qm f = 1 - (fX f : Int) - (fP f : Int) + 1 := rfl
      omega
    refine ⟨mk_chk hf neg hul, mk_sgn neg hul, by rw [hE]; omega, by rw [hm]; exact hu0, ?_⟩
    rw [hm, hx]; exact hval
theorem zro_absF {f : Int} (hf : Fm f) (a : Nat) : (absF f a = 0) = (zro f a = true) := by
  unfold zro
  rw [eF_abs hf, mF_abs hf]
  have hp := Nat.two_pow_pos (fP f - 1)
  apply propext
  rw [Bool.and_eq_true, beq_iff_eq, beq_iff_eq]
  constructor
  · intro h; rw [h]; exact ⟨Nat.zero_div _, Nat.zero_mod _⟩
  · rintro ⟨h1, h2⟩
    have := Nat.div_add_mod (absF f a) (2 ^ (fP f - 1))
    rw [h1, h2, Nat.mul_zero] at this
    omega
theorem inf_pat {f : Int} (hf : Fm f) {a : Nat} (h : chk f a = 0) (hi : isInf f a = true) : a = infB f (sF f a) := by
  have e1 : absF f a = infF f := (inf_iff hf a).2 (by unfold isInf at hi; simpa using hi)
  rw [infB_eq, add_sgn]
  have := pat_mk h
  rw [e1] at this
  exact this
theorem zro_pat {f : Int} (hf : Fm f) {a : Nat} (h : chk f a = 0) (hz : zro f a = true) : a = sgnF f (sF f a) := by
  have e1 : absF f a = 0 := by rw [zro_absF hf]; exact hz
  rw [sgn_zero]
  have := pat_mk h
  rw [e1] at this
  exact this
/-- the four kinds of patterns -/
theorem kinds4 (f : Int) (a : Nat) : nan f a = true ∨ (nan f a = false ∧ isInf f a = true ∧ eF f a = fullF f) ∨ (nan f a = false ∧ isInf f a = false ∧ eF f a ≠ fullF f) := by
  by_cases h : eF f a = fullF f
  · obtain ⟨v1, _, v3⟩ := full_vals h
    rw [v1, v3]
    cases mF f a == 0
    · exact .inl rfl
    · exact .inr (.inl ⟨rfl, rfl, h⟩)
  · obtain ⟨v1, _, v3⟩ := part_vals h
    exact .inr (.inr ⟨v1, v3, h⟩)
/-- by 1 a scaled number is the sum with itself -/
theorem scale_one {f m : Int} (hf : Fm f) (hm : 0 ≤ m ∧ m ≤ 5) {a : Nat} (h : chk f a = 0) : scaleF f m a 1 = addA f m a a := by
  unfold scaleF addA
  rw [if_neg (show ¬ ¬ Fm f from fun h => h hf), if_neg (show ¬ (m < 0 ∨ m > 5) by omega), if_neg (show ¬ chk f a ≠ 0 from fun h' => h' h), if_pos hf, if_pos hm, if_pos (show chk f a = 0 ∧ chk f a = 0 from ⟨h, h⟩)]
  unfold addR
  rw [Bool.or_self, Bool.or_self, Bool.and_self, beq_self_eq_true, Bool.not_true, Bool.and_false]
  rcases kinds4 f a with hn | ⟨hn, hi, he⟩ | ⟨hn, hi, he⟩
  · rw [hn]
    cases snan f a <;> rfl
  · rw [hn, snan_nan hn, hi, if_pos (.inl he)]
    rfl
  · rw [hn, snan_nan hn, hi]
    simp only [cond_false]
    have hsum : sumBits f m (sF f a) (mant f a) (xpn f a) (sF f a) (mant f a) (xpn f a) = if mant f a + mant f a = 0 then (sgnF f (sF f a), 0) else rndN f m (sF f a) (mant f a + mant f a) (xpn f a) false := by
      have := sum_at (f := f) (m := m) (nx := sF f a) (X := mant f a) (ey := xpn f a) (ny := sF f a) (Y := mant f a) 0
      rw [if_pos rfl, Nat.pow_zero, Nat.mul_one] at this
      rw [show xpn f a + ((0 : Nat) : Int) = xpn f a by omega] at this
      exact this
    rw [hsum]
    cases hz : zro f a
    · have h0 := zro_mant hz
      have hab : ¬ absF f a = 0 := fun h => by rw [zro_absF hf, hz] at h; cases h
      have e2 : mant f a + mant f a = mant f a * 2 ^ 1 := by omega
      rw [if_neg (by rintro (h | h); exact he h; exact hab h), if_neg (by omega), e2, rnd_scale hf h0]
      rfl
    · have hab : absF f a = 0 := by rw [zro_absF hf]; exact hz
      have hm0 : mant f a = 0 := by
        have h1 := hz
        unfold zro at h1
        rw [Bool.and_eq_true, beq_iff_eq, beq_iff_eq] at h1
        unfold mant
        rw [if_pos h1.1, h1.2]
      rw [if_pos (.inr hab), hm0, if_pos rfl, ← zro_pat hf h hz]
      rfl
/-- the pattern of a power of two -/
def powF (f : Int) (k : Nat) : Nat := 2 ^ (fP f - 1) * (k + 1)
theorem pow_vals {f : Int} (hf : Fm f) {k : Nat} (hk : k < 2 * fX f) : chk f (powF f k) = 0 ∧ nan f (powF f k) = false ∧ isInf f (powF f k) = false ∧ zro f (powF f k) = false ∧ sF f (powF f k) = false ∧ mant f (powF f k) = 2 ^ (fP f - 1) ∧ xpn f (powF f k) = 1 - (fX f : Int) + (k : Int) - ((fP f - 1 : Nat) : Int) := by
  have hP := fP_ge hf
  have hfull : fullF f = 2 * fX f + 1 := by unfold fullF; rw [← fX_eq hf]
  have hinf : infF f = 2 ^ (fP f - 1) * fullF f := rfl
  have hroom := inf_room hf
  have hpp := Nat.two_pow_pos (fP f - 1)
  have hle : 2 ^ (fP f - 1) * (k + 1) ≤ 2 ^ (fP f - 1) * fullF f := Nat.mul_le_mul_left _ (by omega)
  have hul : 2 ^ (fP f - 1) * (k + 1) < 2 ^ (fW f - 1) := by omega
  have hmk : powF f k = mkF f false (2 ^ (fP f - 1) * (k + 1)) := by unfold powF mkF; rfl
  have ha := mk_abs (f := f) false hul
  rw [← hmk] at ha
  have hE : eF f (powF f k) = k + 1 := by rw [eF_abs hf, ha, Nat.mul_comm, Nat.mul_div_cancel _ hpp]
  have hM : mF f (powF f k) = 0 := by rw [mF_abs hf, ha, Nat.mul_comm, Nat.mul_mod_left]
  have hne : eF f (powF f k) ≠ fullF f := by rw [hE]; omega
  obtain ⟨v1, _, v3⟩ := part_vals hne
  refine ⟨by rw [hmk]; exact mk_chk hf false hul, v1, v3, ?_, by rw [hmk]; exact mk_sgn false hul, ?_, ?_⟩
  · unfold zro; rw [hE]; rfl
  · unfold mant; rw [hE, hM, if_neg (by omega), Nat.zero_add]
  · unfold xpn; rw [hE, if_neg (by omega)]; omega
theorem clamp_in {n : Int} (h : -5000 ≤ n ∧ n ≤ 5000) : clampI 5000 n = n := by
  unfold clampI
  rw [if_neg (show ¬ (5000 : Int) < n by omega)]
  split <;> omega
/-- scaled is multiplied -/
theorem scale_pow {f m : Int} (hf : Fm f) (hm : 0 ≤ m ∧ m ≤ 5) {a : Nat} (h : chk f a = 0) {k : Nat} (hk : k < 2 * fX f) : scaleF f m a (1 - (fX f : Int) + k) = mulA f m a (powF f k) := by
  obtain ⟨p1, p2, p3, p4, p5, p6, p7⟩ := pow_vals hf hk
  have hX := fX_le hf
  have hP := fP_ge hf
  unfold scaleF mulA
  rw [if_neg (show ¬ ¬ Fm f from fun h => h hf), if_neg (show ¬ (m < 0 ∨ m > 5) by omega), if_neg (show ¬ chk f a ≠ 0 from fun h' => h' h),
    if_neg (show ¬ ¬ Fm f from fun h => h hf), if_neg (show ¬ (m < 0 ∨ m > 5) by omega), if_neg (show ¬ chk f a ≠ 0 from fun h' => h' h), if_neg (show ¬ chk f (powF f k) ≠ 0 from fun h' => h' p1)]
  unfold mulR
  have hs : (!(sF f a == sF f (powF f k))) = sF f a := by rw [p5]; cases sF f a <;> rfl
  rw [hs, p2, p3, p4, snan_nan p2, p6, p7, Bool.or_false, Bool.or_false, Bool.and_false, Bool.and_false, Bool.or_self, Bool.or_false, Bool.or_false, clamp_in (by omega)]
  rcases kinds4 f a with hn | ⟨hn, hi, he⟩ | ⟨hn, hi, he⟩
  · rw [hn]; rfl
  · rw [hn, hi, if_pos (.inl he)]
    show ((a : Int), _) = _
    rw [inf_pat hf h hi]
    have hi2 : sF f (infB f (sF f a)) = sF f a := by rw [← inf_pat hf h hi]
    rw [hi2]; rfl
  · rw [hn, hi]
    cases hz : zro f a
    · have h0 := zro_mant hz
      have hab : ¬ absF f a = 0 := fun h => by rw [zro_absF hf, hz] at h; cases h
      simp only [cond_false]
      rw [if_neg (by rintro (h | h); exact he h; exact hab h), rnd_scale hf h0, show xpn f a + (1 - (fX f : Int) + (k : Int) - ((fP f - 1 : Nat) : Int)) + ((fP f - 1 : Nat) : Int) = xpn f a + (1 - (fX f : Int) + (k : Int)) by omega]
    · have hab : absF f a = 0 := by rw [zro_absF hf]; exact hz
      rw [if_pos (.inr hab)]
      show ((a : Int), _) = _
      have hz2 : sF f (sgnF f (sF f a)) = sF f a := by rw [← zro_pat hf h hz]
      rw [zro_pat hf h hz, hz2]; rfl
/-- there and back -/
theorem scale_back {f m : Int} (hf : Fm f) (hm : 0 ≤ m ∧ m ≤ 5) {a : Nat} (h : chk f a = 0) (hnan : nan f a = false) {n : Int} (hn : -5000 ≤ n ∧ n ≤ 5000) (h0 : (scaleF f m a n).2.1 = 0) :
    ∃ b : Nat, (scaleF f m a n).1 = (b : Int) ∧ chk f b = 0 ∧ scaleF f m b (-n) = ((a : Int), 0, 0, ()) := by
  have hsc : ∀ (x : Nat) (i : Int), chk f x = 0 → nan f x = false → scaleF f m x i = if eF f x = fullF f ∨ absF f x = 0 then ((x : Int), 0, 0, ())
      else (((rndN f m (sF f x) (mant f x) (xpn f x + clampI 5000 i) false).1 : Int), ((rndN f m (sF f x) (mant f x) (xpn f x + clampI 5000 i) false).2 : Int), 0, ()) := fun x i hx hnx => by
    unfold scaleF
    rw [if_neg (show ¬ ¬ Fm f from fun h => h hf), if_neg (show ¬ (m < 0 ∨ m > 5) by omega), if_neg (show ¬ chk f x ≠ 0 from fun h' => h' hx), hnx]
    rfl
  rw [hsc a n h hnan] at h0 ⊢
  by_cases hc : eF f a = fullF f ∨ absF f a = 0
  · rw [if_pos hc]
    exact ⟨a, rfl, h, by rw [hsc a (-n) h hnan, if_pos hc]⟩
  · rw [if_neg hc] at h0 ⊢
    have hz : zro f a = false := by
      cases hz : zro f a
      · rfl
      · exact absurd (.inr (by rw [zro_absF hf]; exact hz)) hc
    have hm0 := zro_mant hz
    have hfin : eF f a ≠ fullF f := fun e => hc (.inl e)
    rw [clamp_in hn] at h0 ⊢
    have h0' : (rndN f m (sF f a) (mant f a) (xpn f a + n) false).2 = 0 := by
      have : ((rndN f m (sF f a) (mant f a) (xpn f a + n) false).2 : Int) = 0 := h0
      omega
    obtain ⟨q1, q2, q3, q4, q5⟩ := rnd_zero hf (sF f a) hm0 h0'
    generalize (rndN f m (sF f a) (mant f a) (xpn f a + n) false).1 = b at *
    refine ⟨b, rfl, q1, ?_⟩
    have hnb : nan f b = false := (part_vals q3).1
    have hzb : ¬ absF f b = 0 := fun e => by
      rw [zro_absF hf] at e
      have e1 := e
      unfold zro at e1
      rw [Bool.and_eq_true, beq_iff_eq, beq_iff_eq] at e1
      apply q4
      unfold mant
      rw [if_pos e1.1, e1.2]
    rw [hsc b (-n) q1 hnb, if_neg (by rintro (e | e); exact q3 e; exact hzb e), clamp_in (by omega), q2]
    have hsame : rndN f m (sF f a) (mant f b) (xpn f b + -n) false = rndN f m (sF f a) (mant f a) (xpn f a) false := by
      refine rnd_same hf q4 hm0 ?_
      have e1 : (xpn f b + -n - min (xpn f b + -n) (xpn f a)) = xpn f b - min (xpn f a + n) (xpn f b) := by omega
      have e2 : (xpn f a - min (xpn f b + -n) (xpn f a)) = xpn f a + n - min (xpn f a + n) (xpn f b) := by omega
      rw [e1, e2]; exact q5
    rw [hsame, rnd_self hf h hfin hm0]
    rfl
theorem T349_pow {f : Int} (hf : Fm f) {k : Nat} (hk : k < 2 * fX f) : T349 (f, false, ((k + 1 : Nat) : Int), (0 : Int), ()) = some ((powF f k : Int), 0, ()) := by
  have p0 := T69_ok hf
  have hP := fP_ge hf
  have hPl := fP_le hf
  have hPW := fP_lt hf
  have hWl := fW_le hf
  have hX := fX_eq hf
  have p1 := T91_eq (fW f - fP f) (by omega)
  have p2 := T91_eq (fP f - 1) (by omega)
  have hinf : infF f = 2 ^ (fP f - 1) * fullF f := rfl
  have hfull : fullF f = 2 * fX f + 1 := by unfold fullF; rw [← fX_eq hf]
  have hroom := inf_room hf
  have hle : 2 ^ (fP f - 1) * (k + 1) ≤ 2 ^ (fP f - 1) * fullF f := Nat.mul_le_mul_left _ (by omega)
  have h64 : 2 ^ (fW f - 1) ≤ 2 ^ 63 := Nat.pow_le_pow_right (by decide) (by omega)
  show t349 S69.pre S69.F S91.pre S91.F S140.pre S140.F f false ((k + 1 : Nat) : Int) (0 : Int) = _
  unfold t349
  dsimp only
  have r0 : (rowOf f).1 = (fW f : Int) := rfl
  have r1 : (rowOf f).2.1 = (fP f : Int) := rfl
  have e1 : IntKind.wrap .i64 ((fW f : Int) - (fP f : Int)) = ((fW f - fP f : Nat) : Int) := wsubn _ _ (by omega)
  have e2 : IntKind.wrap .i64 ((fP f : Int) - 1) = ((fP f - 1 : Nat) : Int) := wsub1 _ (by omega)
  have g1 : decide (((k + 1 : Nat) : Int) > ((2 ^ (fW f - fP f) - 1 : Nat) : Int)) = false := igt_f _ _ (by omega)
  have g2 : decide ((0 : Int) > ((2 ^ (fP f - 1) - 1 : Nat) : Int)) = false := decide_eq_false (by omega)
  have p3 : T140 (rowOf f, false, ((k + 1 : Nat) : Int), (0 : Int), ()) = some ((powF f k : Int), ()) := by
    show t140 (rowOf f) false ((k + 1 : Nat) : Int) (0 : Int) = _
    unfold t140
    have e3 : shlI .u64 ((k + 1 : Nat) : Int) ((fP f - 1 : Nat) : Int) = ((powF f k : Nat) : Int) := by
      rw [shlN _ _ (by omega), Nat.mod_eq_of_lt (by rw [Nat.mul_comm]; omega)]
      unfold powF; rw [Nat.mul_comm]
    have e4 : orI .u64 ((powF f k : Nat) : Int) 0 = ((powF f k : Nat) : Int) := by
      have := orN (a := powF f k) (b := 0) (k := 64) (by unfold powF; omega) (by unfold powF; omega)
      rw [Nat.zero_mul] at this
      exact this
    rw [r1, e2, nnn, cond_true, cond_false, e3, e4]
  simp only [pre69 p0, fun69 p0, cond_true, bne_self_eq_false, cond_false, r0, r1, e1, e2, pre91 p1, fun91 p1, pre91 p2, fun91 p2, g1, g2, Bool.true_or, Bool.or_self, pre140 p3, fun140 p3]
theorem T355_true (F M N : Int) {a : Nat} (ha : a < 2 ^ 64) : T355 ((F, M, (a : Int), N, ()), ()) = some (true, ()) := by
  show t355 S16.pre S16.F S69.pre S69.F S27.pre S27.F S349.pre S349.F S354.pre S354.F S65.pre S65.F S38.pre S38.F (F, M, (a : Int), N, ()) = _
  unfold t355
  dsimp only
  have s1 := T38_eq F M ha 1
  have a1 := T27_eq F M ha ha
  have p16 := t16_true
  by_cases hf : Fm F
  case neg =>
    have p0 := T69_bad hf
    have v1 : scaleF F M a 1 = (0, 0, 2, ()) := by unfold scaleF; rw [if_pos hf]
    have v2 : addA F M a a = (0, 0, 2, ()) := by unfold addA; rw [if_neg hf]
    rw [v1] at s1
    rw [v2] at a1
    simp only [pre16 p16, fun16 p16, cond_true, Bool.not_true, cond_false, pre69 p0, fun69 p0, pre38 s1, fun38 s1, pre27 a1, fun27 a1]
    rfl
  have p0 := T69_ok hf
  by_cases hm : 0 ≤ M ∧ M ≤ 5
  case neg =>
    have v1 : scaleF F M a 1 = (0, 0, 3, ()) := by unfold scaleF; rw [if_neg (show ¬ ¬ Fm F from fun h => h hf), if_pos (by omega)]
    have v2 : addA F M a a = (0, 0, 3, ()) := by unfold addA; rw [if_pos hf, if_neg hm]
    rw [v1] at s1
    rw [v2] at a1
    simp only [pre16 p16, fun16 p16, cond_true, Bool.not_true, cond_false, pre69 p0, fun69 p0, pre38 s1, fun38 s1, pre27 a1, fun27 a1]
    rfl
  by_cases hc : chk F a = 0
  case neg =>
    have hc4 : chk F a = 4 := by unfold chk at hc ⊢; rw [if_pos hf] at hc ⊢; split at hc <;> simp_all
    have v1 : scaleF F M a 1 = (0, 0, 4, ()) := by unfold scaleF; rw [if_neg (show ¬ ¬ Fm F from fun h => h hf), if_neg (by omega), if_pos hc, hc4]
    have v2 : addA F M a a = (0, 0, 4, ()) := by unfold addA; rw [if_pos hf, if_pos hm, if_neg (fun h => hc h.1)]
    rw [v1] at s1
    rw [v2] at a1
    simp only [pre16 p16, fun16 p16, cond_true, Bool.not_true, cond_false, pre69 p0, fun69 p0, pre38 s1, fun38 s1, pre27 a1, fun27 a1]
    rfl
  have hone := scale_one hf hm hc
  have herr : (scaleF F M a 1).2.2.1 = 0 := by
    unfold scaleF
    rw [if_neg (show ¬ ¬ Fm F from fun h => h hf), if_neg (by omega), if_neg (show ¬ chk F a ≠ 0 from fun h => h hc)]
    cases nan F a
    · simp only [cond_false]; split <;> rfl
    · rfl
  rw [← hone] at a1
  have hX := fX_le hf
  have hX15 := fX_ge hf
  have r2 : (rowOf F).2.2.1 = 1 - (fX F : Int) := rfl
  have r3 : (rowOf F).2.2.2.1 = (fX F : Int) := rfl
  have e11 : IntKind.wrap .u64 (IntKind.wrap .i64 (IntKind.wrap .i64 ((fX F : Int) - (1 - (fX F : Int))) + 1)) = ((2 * fX F : Nat) : Int) := by
    rw [wrapI (n := (fX F : Int) - (1 - (fX F : Int))) (by omega), wrapI (by omega), wrapU (by omega)]
    omega
  obtain ⟨N', hN'⟩ : ∃ N' : Nat, IntKind.wrap .u64 N = (N' : Int) := Int.eq_ofNat_of_zero_le (by show 0 ≤ N % 18446744073709551616; omega)
  have ek : Int.tmod (N' : Int) ((2 * fX F : Nat) : Int) = ((N' % (2 * fX F) : Nat) : Int) := rfl
  have hk : N' % (2 * fX F) < 2 * fX F := Nat.mod_lt _ (by omega)
  generalize hkk : N' % (2 * fX F) = k at *
  have e10 : IntKind.wrap .i64 ((1 - (fX F : Int)) + IntKind.wrap .i64 (k : Int)) = 1 - (fX F : Int) + (k : Int) := by
    rw [wrapI (n := (k : Int)) (by omega), wrapI (by omega)]
  have e8 : IntKind.wrap .u64 (IntKind.wrap .i64 ((1 - (fX F : Int) + (k : Int)) + (fX F : Int))) = ((k + 1 : Nat) : Int) := by
    rw [wrapI (by omega), wrapU (by omega)]; omega
  have eneg : IntKind.wrap .i64 ((0 : Int) - (1 - (fX F : Int) + (k : Int))) = -(1 - (fX F : Int) + (k : Int)) := by
    rw [wrapI (by omega)]; omega
  have p9 := T38_eq F M ha (1 - (fX F : Int) + (k : Int))
  have p8 := T349_pow hf hk
  obtain ⟨w1, _⟩ := pow_vals hf hk
  have p2 := T354_eq F M ha (pat_lt w1)
  have hsp := scale_pow hf hm hc hk
  rw [← hsp] at p2
  have herr9 : (scaleF F M a (1 - (fX F : Int) + (k : Int))).2.2.1 = 0 := by
    unfold scaleF
    rw [if_neg (show ¬ ¬ Fm F from fun h => h hf), if_neg (by omega), if_neg (show ¬ chk F a ≠ 0 from fun h => h hc)]
    cases nan F a
    · simp only [cond_false]; split <;> rfl
    · rfl
  have p65 := T65_ok ha hc
  have h2X : (((2 * fX F : Nat) : Int) != 0) = true := bne0_t _ (by omega)
  have nle : decide (cls F a ≤ 1) = nan F a := by
    rw [← cls_nan]
    have hcl : 0 ≤ cls F a := by
      unfold cls
      cases eF F a == fullF F <;> cases eF F a == 0 <;> cases mF F a == 0 <;> cases sF F a <;> cases mF F a / 2 ^ (fP F - 2) != 0 <;> decide
    rw [Bool.eq_iff_iff, decide_eq_true_eq, Bool.or_eq_true, beq_iff_eq, beq_iff_eq]
    omega
  simp only [pre16 p16, fun16 p16, cond_true, Bool.not_true, cond_false, pre69 p0, fun69 p0, pre38 s1, fun38 s1, pre27 a1, fun27 a1, herr, bne_self_eq_false, Bool.or_self, r2, r3, e11, hN', ek, hkk, e10, e8, h2X, pre349 p8, fun349 p8, pre38 p9, fun38 p9, pre354 p2, fun354 p2, herr9, pre65 p65, fun65 p65, nle, beq_self_eq_true, Bool.false_or, eneg]
  cases hg : (scaleF F M a (1 - (fX F : Int) + (k : Int))).2.1 != 0
  · rw [Bool.false_or]
    cases hn : nan F a
    · have hg0 : (scaleF F M a (1 - (fX F : Int) + (k : Int))).2.1 = 0 := by simpa using hg
      obtain ⟨b, b1, b2, b3⟩ := scale_back hf hm hc hn (n := 1 - (fX F : Int) + (k : Int)) (by omega) hg0
      have p1 := T38_eq F M (pat_lt b2) (-(1 - (fX F : Int) + (k : Int)))
      rw [b3] at p1
      rw [b1]
      simp only [cond_false, pre38 p1, fun38 p1, cond_true, beq_self_eq_true, Bool.and_self]
    · rfl
  · rfl
end VL
namespace Vx
open Go Go.RowKit Go.ChangeShapes Go.WideShapes
/-- numbers in their ranges, lengths below 2^63 -/
def wfD : (τ : Shape) → Den τ → Prop
  | .int k, n => k.min ≤ n ∧ n ≤ k.max
  | .flt _, _ => True
  | .slice e, xs => xs.length < lim ∧ ∀ x ∈ xs, wfD e x
  | .pair a b, x => wfD a x.1 ∧ wfD b x.2
  | .bool, _ => True
  | .str, _ => True
  | .fn, _ => True
  | .unit, _ => True
theorem DRep.wfD {w : World} {S : Nat → Prop} : ∀ {τ : Shape} {x : Den τ} {cs : List Value}, DRep w S τ x cs → wfD τ x
  | .int _, _, _, h => h.2
  | .flt _, _, _, _ => trivial
  | .bool, _, _, _ => trivial
  | .str, _, _, _ => trivial
  | .fn, _, _, _ => trivial
  | .unit, _, _, _ => trivial
  | .slice _, xs, _, ⟨A, c, _, h1, h2, h3⟩ => by
    refine ⟨Nat.lt_of_le_of_lt h1 h2, fun x hx => ?_⟩
    obtain ⟨r, o, vs, T, fz, _, _, _, h⟩ := h3 (List.ne_nil_of_mem hx)
    obtain ⟨i, hi⟩ := List.getElem?_of_mem hx
    obtain ⟨ds, hd, _⟩ := h i x hi
    exact hd.wfD
  | .pair _ _, _, _, ⟨c1, c2, _, h1, h2⟩ => ⟨h1.wfD, h2.wfD⟩
def wfS : (sg : Sig) → DenS sg → Prop
  | [], _ => True
  | (_, τ) :: r, x => wfD τ x.1 ∧ wfS r x.2
/-- what a datum says -/
def undat {H : Type} : (τ : Shape) → (DataW H → Option (Den τ)) × (List (DataW H) → Option (Den τ))
  | .int k => (fun d => match d with | .lit (.int k' n) => if k' = k then some n else none | _ => none, fun _ => none)
  | .bool => (fun d => match d with | .lit (.bool b) => some b | _ => none, fun _ => none)
  | .unit => (fun d => match d with | .agg [] => some () | _ => none, fun l => match l with | [] => some () | _ => none)
  | .pair a b =>
    let f := fun l => match l with
      | d :: r => (match (undat a).1 d, (undat b).2 r with | some x, some y => some (x, y) | _, _ => none)
      | [] => none
    (fun d => match d with | .agg l => f l | _ => none, f)
  | .flt _ => (fun _ => none, fun _ => none)
  | .str => (fun _ => none, fun _ => none)
  | .fn => (fun _ => none, fun _ => none)
  | .slice _ => (fun _ => none, fun _ => none)
/-- a type's shape -/
def fitF (P : Program) (g : TypeId → Shape → Bool) : List Field → Nat → Shape → Bool
  | [], _, .unit => true
  | f :: fs, o, .pair a b => (f.offset == o) && (P.cellsOf f.type == a.width) && g f.type a && fitF P g fs (o + a.width) b
  | _, _, _ => false
def fitB (P : Program) : Nat → TypeId → Shape → Bool
  | 0, _, _ => false
  | n + 1, t, τ => match P.underlying t with
    | some (.int k) => (match τ with | .int k' => decide (k = k') | _ => false)
    | some .bool => (match τ with | .bool => true | _ => false)
    | some (.slice e) => (match τ with | .slice σ => (P.cellsOf e == σ.width) && decide (0 < σ.width) && fitB P n e σ | _ => false)
    | some (.struct fs) => (P.cellsOf t == τ.width) && fitF P (fitB P n) fs.toList 0 τ
    | _ => false
theorem choose_list {A : Type} {Q : Nat → A → Prop} : ∀ (n : Nat), (∀ i, i < n → ∃ x, Q i x) → ∃ xs : List A, xs.length = n ∧ ∀ i x, xs[i]? = some x → Q i x
  | 0, _ => ⟨[], rfl, fun i x h => by simp at h⟩
  | n + 1, h => by
    obtain ⟨xs, h1, h2⟩ := choose_list n fun i hi => h i (by omega)
    obtain ⟨x, hx⟩ := h n (by omega)
    refine ⟨xs ++ [x], by simp [h1], fun i y hy => ?_⟩
    rcases Nat.lt_or_ge i n with hi | hi
    · rw [List.getElem?_append_left (by omega)] at hy
      exact h2 i y hy
    · rw [List.getElem?_append_right (by omega)] at hy
      have : i = n := by
        have := (List.getElem?_eq_some_iff.1 hy).1
        simp at this; omega
      subst this
      simp [h1] at hy
      exact hy ▸ hx
theorem wf_int {k : IntKind} {n : Int} (h : (Lit.int k n).wf = true) : k.min ≤ n ∧ n ≤ k.max := by
  simpa [Lit.wf] using h
section
variable {H : Type} {enc : TypeId × Value → H} {P : Program} {W : World} {spare : Nat → Bool} {held : Bool}
theorem fitF_ok {n : Nat} {m : Nat} {cs : List Value} (ih : ∀ (t : TypeId) (τ : Shape) (cs : List Value) (d : DataW H) (p : List MemPlace), fitB P n t τ = true → DataW.trod enc P W 0 spare held m t cs = some (d, p) → ∃ x : Den τ, DRep W (fun q => q < W.heap.size) τ x cs ∧ ∀ y, (undat τ).1 d = some y → x = y) :
    ∀ (l : List Field) (o : Nat) (τ : Shape) (xs : List (DataW H × List MemPlace)), fitF P (fitB P n) l o τ = true → xs.length = l.length → cs.length = o + τ.width →
      (∀ (i : Nat) (f : Field), l[i]? = some f → DataW.trod enc P W 0 spare held m f.type ((cs.drop f.offset).take (P.cellsOf f.type)) = xs[i]?) →
      ∃ x : Den τ, DRep W (fun q => q < W.heap.size) τ x (cs.drop o) ∧ ∀ y, (undat τ).2 (xs.map (·.1)) = some y → x = y
  | [], o, τ, xs, hf, hx, hl, _ => by
    cases τ <;> simp [fitF] at hf
    refine ⟨(), ?_, fun _ _ => rfl⟩
    show cs.drop o = []
    apply List.drop_eq_nil_of_le
    simp [Shape.width] at hl
    omega
  | f :: fs, o, τ, xs, hf, hx, hl, h => by
    cases τ with
    | pair a b =>
      simp only [fitF, Bool.and_eq_true, beq_iff_eq] at hf
      obtain ⟨⟨⟨ho, hc⟩, hg⟩, hr⟩ := hf
      cases xs with
      | nil => simp at hx
      | cons x0 xs =>
        have h0 := h 0 f rfl
        rw [ho, hc] at h0
        simp only [List.getElem?_cons_zero] at h0
        obtain ⟨xa, ha, hua⟩ := ih f.type a _ x0.1 x0.2 hg h0
        simp only [Shape.width] at hl
        obtain ⟨xb, hb, hub⟩ := fitF_ok ih fs (o + a.width) b xs hr (by simpa using hx) (by rw [hl]; omega) fun i g hi => by
          have := h (i + 1) g (by simpa using hi)
          simpa using this
        refine ⟨(xa, xb), ⟨(cs.drop o).take a.width, cs.drop (o + a.width), ?_, ha, hb⟩, fun y hy => ?_⟩
        · rw [← List.drop_drop, List.take_append_drop]
        · simp only [undat, List.map_cons] at hy
          split at hy
          · rename_i e1 e2
            have := hua _ e1; have := hub _ e2
            subst_vars
            exact Option.some.inj hy
          · cases hy
    | _ => simp [fitF] at hf
theorem fit_ok : ∀ (n : Nat) (m : Nat) (t : TypeId) (τ : Shape) (cs : List Value) (d : DataW H) (p : List MemPlace), fitB P n t τ = true → DataW.trod enc P W 0 spare held m t cs = some (d, p) →
    ∃ x : Den τ, DRep W (fun q => q < W.heap.size) τ x cs ∧ ∀ y, (undat τ).1 d = some y → x = y
  | 0, _, _, _, _, _, _, h, _ => by simp [fitB] at h
  | n + 1, m, t, τ, cs, d, p, h, ht => by
    unfold fitB at h
    split at h
    · rename_i k hk
      cases τ with
      | int k' =>
        simp only [decide_eq_true_eq] at h
        subst h
        obtain ⟨v, hv, hx, hw⟩ := DataW.trod_int hk ht
        simp only [Prod.mk.injEq] at hx
        refine ⟨v, ⟨hv, wf_int hw⟩, fun y hy => ?_⟩
        rw [hx.1] at hy
        simp only [undat, if_true] at hy
        exact Option.some.inj hy
      | _ => cases h
    · rename_i hk
      cases τ with
      | bool =>
        obtain ⟨v, hv, hx⟩ := DataW.trod_bool hk ht
        simp only [Prod.mk.injEq] at hx
        refine ⟨v, hv, fun y hy => ?_⟩
        rw [hx.1] at hy
        simp only [undat] at hy
        exact Option.some.inj hy
      | _ => cases h
    · rename_i e hk
      cases τ with
      | slice σ =>
        simp only [Bool.and_eq_true, beq_iff_eq, decide_eq_true_eq] at h
        obtain ⟨⟨hc, hpos⟩, hf⟩ := h
        rcases DataW.trod_slice hk ht with ⟨hcs, hx⟩ | ⟨a, len, cap, elems, rest, m', rfl, hcs, hx, hb, hlc, hcap, hlen, hel, _⟩
        · exact ⟨[], ⟨none, 0, hcs, Nat.le_refl _, by decide, fun h => absurd rfl h⟩, fun y hy => by simp [undat] at hy⟩
        · have each : ∀ i, i < len → ∃ x : Den σ, ∃ ds, W.cells? 0 (a.add (i * P.cellsOf e)) (P.cellsOf e) = some ds ∧ DRep W (fun q => q < W.heap.size) σ x ds := fun i hi => by
            have := hel i hi
            rw [List.getElem?_eq_getElem (by omega), Option.bind_eq_some_iff] at this
            obtain ⟨ds, h1, h2⟩ := this
            obtain ⟨x, hx, _⟩ := fit_ok n m' e σ ds (elems[i]'(by omega)).1 (elems[i]'(by omega)).2 hf h2
            exact ⟨x, ds, h1, hx⟩
          obtain ⟨xs, hxl, hxs⟩ := choose_list len each
          refine ⟨xs, ⟨some a, cap, by rw [hxl]; exact hcs, by omega, by unfold lim; unfold maxLen at hcap; omega, fun hne => ?_⟩, fun y hy => by simp [undat] at hy⟩
          have h0 : 0 < xs.length := List.length_pos_iff.2 hne
          obtain ⟨ds0, hd0, _⟩ := hxs 0 xs[0] (List.getElem?_eq_getElem h0)
          obtain ⟨_, hl0, hc0⟩ := World.cells?_some hd0
          have hz : a.add (0 * P.cellsOf e) = a := by simp [Addr.add]
          have hz' : a.add 0 = a := by simp [Addr.add]
          rw [hz] at hc0
          have hc00 := hc0 0 (by omega)
          rw [hz', List.getElem?_eq_getElem (by omega)] at hc00
          unfold World.cell? at hc00
          split at hc00
          · rename_i c T fz hheap
            split at hc00
            · cases hc00
            · rename_i hspot
              have hs : a.spot = none := by simpa using hspot
              have hadd : ∀ q, a.add q = ⟨a.block, a.off + q, none⟩ := fun q => by
                unfold Addr.add
                split
                · subst_vars; cases a; simp at hs; simp [hs]
                · rfl
              have ha : a = ⟨a.block, a.off, none⟩ := by cases a; simp at hs; simp [hs]
              refine ⟨a.block, a.off, c, T, fz, by rw [← ha], ?_, hheap, fun i x hi => ?_⟩
              · exact (Array.getElem?_eq_some_iff.1 hheap).1
              · obtain ⟨ds, hd, hr⟩ := hxs i x hi
                refine ⟨ds, hr, fun j v hj => ?_⟩
                obtain ⟨_, hl, hcj⟩ := World.cells?_some hd
                have hjl : j < P.cellsOf e := by rw [← hl]; exact (List.getElem?_eq_some_iff.1 hj).1
                have := hcj j hjl
                rw [hadd, hj] at this
                have hadd2 : (⟨a.block, a.off + i * P.cellsOf e, none⟩ : Addr).add j = ⟨a.block, a.off + i * P.cellsOf e + j, none⟩ := by
                  unfold Addr.add
                  split
                  · subst_vars; rfl
                  · rfl
                rw [hadd2] at this
                unfold World.cell? at this
                simp only [hheap] at this
                rw [hc] at this
                exact this
          · cases hc00
      | _ => cases h
    · rename_i fs hk
      simp only [Bool.and_eq_true, beq_iff_eq] at h
      obtain ⟨hc, hf⟩ := h
      obtain ⟨xs, m', rfl, hx, hl, hxl, hel⟩ := DataW.trod_struct hk ht
      simp only [Prod.mk.injEq] at hx
      obtain ⟨x, h1, h2⟩ := fitF_ok (fun t τ cs d p => fit_ok n m' t τ cs d p) fs.toList 0 τ xs hf (by simpa using hxl) (by rw [hl, hc]; omega) fun i f hi => hel i f (by simpa using hi)
      refine ⟨x, by simpa using h1, fun y hy => h2 y ?_⟩
      rw [hx.1] at hy
      cases τ with
      | pair a b => exact hy
      | unit =>
        simp only [undat] at hy ⊢
        split at hy
        · rename_i e; simp only [DataW.agg.injEq] at e; rw [e]
        · cases hy
      | _ => simp [undat] at hy
    · cases h
end
end Vx
namespace Vx
open Go Go.RowKit Go.ChangeShapes Go.WideShapes
def isStruct (P : Program) (t : TypeId) : Bool := match P.underlying t with
  | some (.struct _) => true
  | _ => false
def fitS (P : Program) (n : Nat) : List TypeId → Sig → Bool
  | [], [] => true
  | t :: ts, (a, τ) :: r => fitB P n t τ && (a == isStruct P t) && fitS P n ts r
  | _, _ => false
section
variable {H : Type} {enc : TypeId × Value → H} {P : Program} {W : World}
theorem cells_one {n : Nat} {t : TypeId} {τ : Shape} {r : Reach} {b0 : Nat} {v : Value} (hf : fitB P n t τ = true) (hs : isStruct P t = false) (hv : Value.okWide P W r b0 t v) : v.cells.toList = [v] := by
  cases n with
  | zero => simp [fitB] at hf
  | succ n =>
    unfold fitB at hf
    split at hf
    · rename_i k hk; obtain ⟨_, rfl⟩ := okWide_int hk hv; rfl
    · rename_i hk; obtain ⟨_, rfl⟩ := okWide_bool hk hv; rfl
    · rename_i e hk; obtain ⟨_, _, _, rfl⟩ := okWide_slice hk hv; rfl
    · rename_i fs hk; simp [isStruct, hk] at hs
    · cases hf
theorem erep_plain {S : Nat → Prop} {a : Bool} {τ : Shape} {x : Den τ} {y : Value} (ho : ownE a τ = false) (h : PRep W S a τ x y) : ERep W S a τ x y [] := by
  cases τ with
  | slice e =>
    cases a with
    | true => cases ho
    | false => exact ⟨rfl, h⟩
  | _ => exact ⟨rfl, h⟩
theorem args_ok {n : Nat} {sp : Nat → Bool} {held : Bool} {b0 : Nat} : ∀ (ts : List TypeId) (I : Sig) (vs : List Value) (ds : List (DataW H)) (ps : List MemPlace), fitS P n ts I = true →
    (∀ (j : Nat) (t : TypeId) (v : Value), ts[j]? = some t → vs[j]? = some v → Value.okWide P W .any b0 t v) → DataW.TrodAll enc P W 0 sp held ts vs ds ps → ∃ x : DenS I, SRep W (fun q => q < W.heap.size) I x vs [] ∧ wfS I x ∧ ds.length = ts.length
  | [], [], vs, ds, ps, _, _, h => by
    cases vs <;> cases ds <;> simp [DataW.TrodAll] at h
    exact ⟨(), ⟨rfl, rfl⟩, trivial, rfl⟩
  | [], _ :: _, _, _, _, hf, _, _ => by simp [fitS] at hf
  | _ :: _, [], _, _, _, hf, _, _ => by simp [fitS] at hf
  | t :: ts, (a, τ) :: I, vs, ds, ps, hf, hv, h => by
    cases vs with
    | nil => simp [DataW.TrodAll] at h
    | cons v vs =>
      cases ds with
      | nil => simp [DataW.TrodAll] at h
      | cons d ds =>
        obtain ⟨p, q, ⟨m, hp⟩, hq, _⟩ := h
        simp only [fitS, Bool.and_eq_true, beq_iff_eq] at hf
        obtain ⟨⟨h1, h2⟩, h3⟩ := hf
        obtain ⟨x, hx, hw, hl⟩ := args_ok ts I vs ds q h3 (fun j t v ht hv' => hv (j + 1) t v (by simpa using ht) (by simpa using hv')) hq
        obtain ⟨y, hy, _⟩ := fit_ok n m t τ _ d p h1 hp
        have hok := hv 0 t v rfl rfl
        refine ⟨(y, x), ⟨v, vs, [], [], rfl, rfl, erep_plain ?_ ?_, hx⟩, ⟨hy.wfD, hw⟩, by simp [hl]⟩
        · cases τ with
          | slice σ =>
            show a = false
            rw [h2]
            cases n with
            | zero => simp [fitB] at h1
            | succ n =>
              unfold fitB at h1
              unfold isStruct
              split at h1 <;> rename_i hk <;> first | (rw [hk]; done) | (simp only [hk]; done) | (simp [fitF] at h1; done) | skip
          | _ => rfl
        cases a with
        | true =>
          have hs : isStruct P t = true := h2.symm
          unfold isStruct at hs
          split at hs
          · rename_i fs hk
            unfold Value.okWide at hok
            rw [hk] at hok
            obtain ⟨cs, rfl, _⟩ := hok
            exact ⟨cs.toList, by simp, hy⟩
          · cases hs
        | false =>
          have hs : isStruct P t = false := h2.symm
          rw [cells_one h1 hs hok] at hy
          exact hy
theorem trodAll_below (hl : laidOutB P = true) {W' : World} (hb : Below W.heap.size W W') : ∀ (ts : List TypeId) (vs : List Value) (ds : List (DataW H)) (ps : List MemPlace), (ts.all fun t => P.readableRec t && decide (t < P.types.size)) = true →
    DataW.TrodAll enc P W 0 (fun _ => true) true ts vs ds ps → (∀ x ∈ ps, x.block < W.heap.size) → DataW.TrodAll enc P W' 0 (fun b => decide (b < W.heap.size)) true ts vs ds ps
  | [], vs, ds, ps, _, h, _ => by
    cases vs <;> cases ds <;> simp [DataW.TrodAll] at h ⊢
    exact h
  | t :: ts, vs, ds, ps, hr, h, hlt => by
    cases vs with
    | nil => simp [DataW.TrodAll] at h
    | cons v vs =>
      cases ds with
      | nil => simp [DataW.TrodAll] at h
      | cons d ds =>
        obtain ⟨p, q, hp, hq, rfl⟩ := h
        simp only [List.all_cons, Bool.and_eq_true, decide_eq_true_eq] at hr
        exact ⟨p, q, Below.trod hl hr.1.1 hr.1.2 hp hb (fun x hx => hlt x (List.mem_append.2 (.inl hx))),
          trodAll_below hl hb ts vs ds q hr.2 hq (fun x hx => hlt x (List.mem_append.2 (.inr hx))), rfl⟩
/-- a table that is laid -/
theorem glob_of {n : String} {g : Nat} {t e : TypeId} {m k : Nat} {τ : Shape} {ds : List (DataW Unit)} {xs : List (Den τ)} {r : List (String × DataW Unit)} {ps : List MemPlace}
    (hL : DataW.LaidVars P W ((n, .agg ds) :: r) ps) (hg : P.globalNamed n = some g) (ht : (P.globals[g]?).map (·.type) = some t) (hu : P.underlying t = some (.array m e)) (hc : P.cellsOf e = τ.width) (hf : fitB P k e τ = true)
    (hx : ds.map (undat τ).1 = xs.map some) :
    (g < W.heap.size ∧ ∃ vs T fz, W.heap[g]? = some (.cells vs T fz) ∧ Rows W (fun q => q < W.heap.size) τ vs 0 xs) ∧ ∃ ps', DataW.LaidVars P W r ps' := by
  obtain ⟨g', t', cs, fuel, p, q, h1, h2, h3, h4, h5, _⟩ := hL
  rw [hg] at h1; cases h1
  rw [ht] at h2; cases h2
  refine ⟨?_, q, h5⟩
  unfold World.var? at h3
  rw [hg] at h3
  simp only [Option.bind_some] at h3
  split at h3
  · rename_i c T fz hh
    cases h3
    refine ⟨(Array.getElem?_eq_some_iff.1 hh).1, cs, T, fz, hh, ?_⟩
    obtain ⟨ys, m', rfl, hy, hl, hyl, hel⟩ := DataW.trod_array hu h4
    simp only [Prod.mk.injEq, DataW.agg.injEq] at hy
    intro i x hi
    have hxl : xs.length = m := by
      have := congrArg List.length hx
      simp [hy.1, hyl] at this
      omega
    have him : i < m := by rw [← hxl]; exact (List.getElem?_eq_some_iff.1 hi).1
    have he := hel i him
    have hyi : ys[i]? = some (ys[i]'(by omega)) := List.getElem?_eq_getElem (by omega)
    rw [hyi, hc] at he
    obtain ⟨x', h6, h7⟩ := fit_ok k m' e τ _ _ _ hf he
    have hd : (undat τ).1 (ys[i]'(by omega)).1 = some x := by
      have := congrArg (·[i]?) hx
      simp only [List.getElem?_map, hy.1, hyi, hi, Option.map_some] at this
      exact Option.some.inj this
    have := h7 x hd
    subst this
    refine ⟨_, h6, fun j v hj => ?_⟩
    rw [List.getElem?_take] at hj
    split at hj
    · rw [List.getElem?_drop] at hj
      simpa using hj
    · cases hj
  · cases h3
theorem returns_true {G : List (Nat × Sigma fun τ => List (Den τ))} {f : FuncId} {I : Sig} {T : DenS I → Option (DenS [(false, .bool)])} {d : DenS [(false, .bool)]} (hS : Sound P G f (sumOf I [(false, .bool)] T d)) {x : DenS I} (hT : T x = some (true, ())) (hcal : ∃ fn, P.funcs[f]? = some fn ∧ fn.body.isNone = false ∧ (fn.name == "runtime.NumGoroutine") = false) {W : World} {args : Array Value}
    (hG : GlobsOk G W fun q => q < W.heap.size) (ha : SRep W (fun q => q < W.heap.size) I x args.toList []) : Calls P f args W fun e W' => e = .returned (.bool true) ∧ Below W.heap.size W W' := by
  have := hS.calls x (by show (T x).isSome = true; rw [hT]; rfl) W (fun q => q < W.heap.size) args.toList [] (fun q h => h) hG ha List.nodup_nil (fun r h => by simp at h)
  rw [Array.toArray_toList] at this
  have this := this.resolve_right (fun ⟨v, hv, _⟩ => by rw [run_callFunc hcal] at hv; cases hv)
  refine this.2.mono fun e W' ⟨zs, rs', he, hb, _, _, hz⟩ => ⟨?_, ⟨hb.os, hb.tape, hb.output, hb.size, fun k hk => hb.block k hk (fun h => by simp at h)⟩⟩
  obtain ⟨y, ys, r1, r2, rfl, _, ⟨_, h1⟩, rfl, _⟩ := hz
  have h2 : [y] = [Value.bool ((T x).getD d).1] := h1
  rw [hT] at h2
  cases h2
  exact he
/-- what a law's row asks -/
theorem law_post {G : List (Nat × Sigma fun τ => List (Den τ))} {f : FuncId} {fn : Func} {I : Sig} {T : DenS I → Option (DenS [(false, .bool)])} {d : DenS [(false, .bool)]} {s : ChangeSpec} {n : Nat} {tb : TypeId}
    (hS : Sound P G f (sumOf I [(false, .bool)] T d)) (hT : ∀ x, wfS I x → T x = some (true, ())) (hcal : ∃ fn, P.funcs[f]? = some fn ∧ fn.body.isNone = false ∧ (fn.name == "runtime.NumGoroutine") = false) (hlay : laidOutB P = true) (hfit : fitS P n fn.params.toList I = true)
    (hread : (fn.params.toList.all fun t => P.readableRec t && decide (t < P.types.size)) = true) (hres : fn.resultTypes = #[tb]) (hbool : P.underlying tb = some .bool) (hvars : s.vars = [])
    (hspec : ∀ ds : List (DataW H), ds.length = fn.params.toList.length → s.fn H ds = { results := [.lit (.bool true)], args := ds })
    {W : World} {base : Nat} {args : Array Value} {ds gs : List (DataW H)} {before : List MemPlace}
    (hval : ∀ (j : Nat) (t : TypeId) (v : Value), fn.params[j]? = some t → args[j]? = some v → Value.okWide P W .any base t v)
    (hW : DataW.Whole enc P fn.params.toList s.vars false W args.toList ds gs before) (hG : GlobsOk G W fun q => q < W.heap.size) :
    Calls P f args W fun e W' => ∃ v, e = .returned v ∧ ChangeSpec.post enc P fn s false true false false W args v W' := by
  have hW' := hW
  obtain ⟨p, q, hA, hV, rfl, _, _⟩ := hW
  rw [hvars] at hV
  obtain ⟨rfl, rfl⟩ := trodVars_none hV
  obtain ⟨x, hx, hw, hlen⟩ := args_ok (b0 := base) fn.params.toList I args.toList ds p hfit (fun j t v ht hv => hval j t v (by simpa using ht) (by simpa using hv)) hA
  refine (returns_true hS (hT x hw) hcal hG hx).mono fun e W' ⟨he, hb⟩ => ⟨.bool true, he, ds, [], p ++ [], [], p, [], hW', ?_, ?_, ?_, hb.frame _, fun h => by cases h⟩
  · rw [List.append_nil, hspec ds hlen, hres]
    exact trodAll_mk1 (shut_bool hbool true)
  · rw [List.append_nil, hspec ds hlen]
    exact trodAll_below hlay hb _ _ _ _ hread hA fun y hy => by simpa using hW'.lt y (by simpa using hy)
  · rw [List.append_nil, hspec ds hlen, hvars]
    rfl
end
theorem globs_nil {W : World} {S : Nat → Prop} : GlobsOk [] W S := fun _ _ _ h => by simp [findGlob] at h
theorem globs_cons {W : World} {S : Nat → Prop} {g : Nat} {τ : Shape} {xs : List (Den τ)} {G : List (Nat × Sigma fun τ => List (Den τ))} (h : S g ∧ ∃ vs T fz, W.heap[g]? = some (.cells vs T fz) ∧ Rows W S τ vs 0 xs) (r : GlobsOk G W S) :
    GlobsOk ((g, ⟨τ, xs⟩) :: G) W S := fun g' τ' xs' hf => by
  simp only [findGlob] at hf
  cases hb : Nat.beq g g' with
  | true =>
    have := Nat.eq_of_beq_eq_true hb
    subst this
    rw [hb] at hf
    simp only [cond_true, Option.some.injEq] at hf
    cases hf
    exact h
  | false =>
    rw [hb] at hf
    exact r g' τ' xs' hf
end Vx
