/-
  Functions, read: each body is the tree that stands here. Printed by wip/tool/gen.py.
-/
import Derived.Test.YtcgpoabiloehnaaDoorTree1
import Derived.Test.YtcgpoabiloehnaaDoorProg
import Derived.KernelRfl
set_option linter.unusedVariables false
set_option maxRecDepth 100000
namespace Go.AI
open Go

/-- udometer/date.leaps -/
noncomputable def t52 (call : Call) (k : Nat) (x : ap52.Pay) : Option rp52.Pay :=
  guardC ((4 : Int) ≠ (0 : Int)) <|
  guardC ((100 : Int) ≠ (0 : Int)) <|
  guardC ((400 : Int) ≠ (0 : Int)) <|
  some ((w64 ((w64 ((w64 (Int.tdiv (w64 (x.1.1 - (1 : Int))) (4 : Int))) - (w64 (Int.tdiv (w64 (x.1.1 - (1 : Int))) (100 : Int))))) + (w64 (Int.tdiv (w64 (x.1.1 - (1 : Int))) (400 : Int))))), ())
theorem t52_eq (call : Call) (k : Nat) (x : ap52.Pay) : bodyT Go.Proofs.Tryd.prog HH call 52 Go.Proofs.Tryd.f52 k ap52 rp52 x = t52 call k x := by kernel_rfl

/-- udometer/date.first -/
noncomputable def t45 (call : Call) (k : Nat) (x : ap45.Pay) : Option rp45.Pay :=
  callC rp52 (call 52 ((C.one (L.v I64 x.1.1)) :: []) []) fun y0 =>
  callC rp52 (call 52 ((C.one (L.v I64 (1850 : Int))) :: []) []) fun y1 =>
  some ((w64 ((w64 ((w64 ((365 : Int) * (w64 (x.1.1 - (1850 : Int))))) + y0.1)) - y1.1)), ())
theorem t45_eq (call : Call) (k : Nat) (x : ap45.Pay) : bodyT Go.Proofs.Tryd.prog HH call 45 Go.Proofs.Tryd.f45 k ap45 rp45 x = t45 call k x := by kernel_rfl

/-- udometer/date.IsLeap -/
noncomputable def t46 (call : Call) (k : Nat) (x : ap46.Pay) : Option rp46.Pay :=
  guardC ((4 : Int) ≠ (0 : Int)) <|
  brC ((Int.tmod x.1.1 (4 : Int)) == (0 : Int))
  (guardC ((100 : Int) ≠ (0 : Int)) <|
   brC ((Int.tmod x.1.1 (100 : Int)) != (0 : Int))
   (some (true, ()))
   (guardC ((400 : Int) ≠ (0 : Int)) <|
    some (((Int.tmod x.1.1 (400 : Int)) == (0 : Int)), ())))
  (some (false, ()))
theorem t46_eq (call : Call) (k : Nat) (x : ap46.Pay) : bodyT Go.Proofs.Tryd.prog HH call 46 Go.Proofs.Tryd.f46 k ap46 rp46 x = t46 call k x := by kernel_rfl

/-- udometer/date.lengths -/
noncomputable def t47 (call : Call) (k : Nat) (x : ap47.Pay) : Option rp47.Pay :=
  some (((31 : Int), ((28 : Int), ((31 : Int), ((30 : Int), ((31 : Int), ((30 : Int), ((31 : Int), ((31 : Int), ((30 : Int), ((31 : Int), ((30 : Int), ((31 : Int), ())))))))))))), ())
theorem t47_eq (call : Call) (k : Nat) (x : ap47.Pay) : bodyT Go.Proofs.Tryd.prog HH call 47 Go.Proofs.Tryd.f47 k ap47 rp47 x = t47 call k x := by kernel_rfl

/-- udometer/date.length -/
noncomputable def t34 (call : Call) (k : Nat) (x : ap34.Pay) : Option rp34.Pay :=
  brC (x.1.2.1 == (2 : Int))
  (callC rp46 (call 46 ((C.one (L.v I64 x.1.1)) :: []) []) fun y0 =>
   brC y0.1
   (some ((29 : Int), ()))
   (callC rp47 (call 47 [] []) fun y1 =>
    guardC (((0 : Int) ≤ (w64 (x.1.2.1 - (1 : Int)))) ∧ ((w64 (x.1.2.1 - (1 : Int))) < (12 : Int))) <|
    eltC (s := I64) (y1.1.1 :: (y1.1.2.1 :: (y1.1.2.2.1 :: (y1.1.2.2.2.1 :: (y1.1.2.2.2.2.1 :: (y1.1.2.2.2.2.2.1 :: (y1.1.2.2.2.2.2.2.1 :: (y1.1.2.2.2.2.2.2.2.1 :: (y1.1.2.2.2.2.2.2.2.2.1 :: (y1.1.2.2.2.2.2.2.2.2.2.1 :: (y1.1.2.2.2.2.2.2.2.2.2.2.1 :: (y1.1.2.2.2.2.2.2.2.2.2.2.2.1 :: ([] : List Int))))))))))))) (w64 (x.1.2.1 - (1 : Int))) fun v2 =>
    some (v2, ())))
  (callC rp47 (call 47 [] []) fun y3 =>
   guardC (((0 : Int) ≤ (w64 (x.1.2.1 - (1 : Int)))) ∧ ((w64 (x.1.2.1 - (1 : Int))) < (12 : Int))) <|
   eltC (s := I64) (y3.1.1 :: (y3.1.2.1 :: (y3.1.2.2.1 :: (y3.1.2.2.2.1 :: (y3.1.2.2.2.2.1 :: (y3.1.2.2.2.2.2.1 :: (y3.1.2.2.2.2.2.2.1 :: (y3.1.2.2.2.2.2.2.2.1 :: (y3.1.2.2.2.2.2.2.2.2.1 :: (y3.1.2.2.2.2.2.2.2.2.2.1 :: (y3.1.2.2.2.2.2.2.2.2.2.2.1 :: (y3.1.2.2.2.2.2.2.2.2.2.2.2.1 :: ([] : List Int))))))))))))) (w64 (x.1.2.1 - (1 : Int))) fun v4 =>
   some (v4, ()))
theorem t34_eq (call : Call) (k : Nat) (x : ap34.Pay) : bodyT Go.Proofs.Tryd.prog HH call 34 Go.Proofs.Tryd.f34 k ap34 rp34 x = t34 call k x := by kernel_rfl

/-- udometer/date.begin -/
noncomputable def t32 (call : Call) (k : Nat) (x : ap32.Pay) : Option rp32.Pay :=
  guardC ((12 : Int) ≠ (0 : Int)) <|
  callC rp45 (call 45 ((C.one (L.v I64 (w64 ((1850 : Int) + (w64 (Int.tdiv x.1.1 (12 : Int))))))) :: []) []) fun y0 =>
  loopC (iterC (fun x1 =>
      guardC ((12 : Int) ≠ (0 : Int)) <|
      brC (decide (x1.1.2.2.2.1 ≤ (Int.tmod x1.1.1 (12 : Int))))
      (callC rp34 (call 34 ((C.one (L.v I64 x1.1.2.1)) :: ((C.one (L.v I64 x1.1.2.2.2.1)) :: [])) []) fun y2 =>
       some (.inl ((x1.1.1, (x1.1.2.1, ((w64 (x1.1.2.2.1 + y2.1)), ((w64 (x1.1.2.2.2.1 + (1 : Int))), ())))), ())))
      (some (.inr (.inl ((x1.1.2.2.1, ()), ()))))) k ((x.1.1, ((w64 ((1850 : Int) + (w64 (Int.tdiv x.1.1 (12 : Int))))), (y0.1, ((1 : Int), ())))), ())) fun z3 =>
  sumC z3 (fun e4 =>
   some (e4.1.1, ())) (fun e5 =>
   noC e5)
theorem t32_eq (call : Call) (k : Nat) (x : ap32.Pay) : bodyT Go.Proofs.Tryd.prog HH call 32 Go.Proofs.Tryd.f32 k ap32 rp32 x = t32 call k x := by kernel_rfl

/-- udometer/date.month -/
noncomputable def t33 (call : Call) (k : Nat) (x : ap33.Pay) : Option rp33.Pay :=
  guardC ((28 : Int) ≠ (0 : Int)) <|
  loopC (iterC (fun x0 =>
      callC rp32 (call 32 ((C.one (L.v I64 x0.1.2.1)) :: []) []) fun y1 =>
      brC (decide (y1.1 > x0.1.1))
      (some (.inl ((x0.1.1, ((w64 (x0.1.2.1 - (1 : Int))), ())), ())))
      (some (.inr (.inl ((x0.1.2.1, ()), ()))))) k ((x.1.1, ((bif decide ((1971 : Int) < (w64 (Int.tdiv x.1.1 (28 : Int)))) then (1971 : Int) else (w64 (Int.tdiv x.1.1 (28 : Int)))), ())), ())) fun z2 =>
  sumC z2 (fun e3 =>
   some (e3.1.1, ())) (fun e4 =>
   noC e4)
theorem t33_eq (call : Call) (k : Nat) (x : ap33.Pay) : bodyT Go.Proofs.Tryd.prog HH call 33 Go.Proofs.Tryd.f33 k ap33 rp33 x = t33 call k x := by kernel_rfl

/-- udometer/date.of -/
noncomputable def t28 (call : Call) (k : Nat) (x : ap28.Pay) : Option rp28.Pay :=
  callC rp33 (call 33 ((C.one (L.v I64 x.1.1)) :: []) []) fun y0 =>
  guardC ((12 : Int) ≠ (0 : Int)) <|
  guardC ((12 : Int) ≠ (0 : Int)) <|
  callC rp32 (call 32 ((C.one (L.v I64 y0.1)) :: []) []) fun y1 =>
  some (((w64 ((1850 : Int) + (w64 (Int.tdiv y0.1 (12 : Int))))), ((w64 ((Int.tmod y0.1 (12 : Int)) + (1 : Int))), ((w64 ((w64 (x.1.1 - y1.1)) + (1 : Int))), ()))), ())
theorem t28_eq (call : Call) (k : Nat) (x : ap28.Pay) : bodyT Go.Proofs.Tryd.prog HH call 28 Go.Proofs.Tryd.f28 k ap28 rp28 x = t28 call k x := by kernel_rfl

/-- udometer/date.isDay -/
noncomputable def t27 (call : Call) (k : Nat) (x : ap27.Pay) : Option rp27.Pay :=
  brC (decide (x.1.1 ≥ (0 : Int)))
  (some ((decide (x.1.1 ≤ (60000 : Int))), ()))
  (some (false, ()))
theorem t27_eq (call : Call) (k : Nat) (x : ap27.Pay) : bodyT Go.Proofs.Tryd.prog HH call 27 Go.Proofs.Tryd.f27 k ap27 rp27 x = t27 call k x := by kernel_rfl

/-- (udometer/date.entry).exists -/
noncomputable def t44 (call : Call) (k : Nat) (x : ap44.Pay) : Option rp44.Pay :=
  brC (decide (x.1.1.1 ≥ (1850 : Int)))
  (brC (decide (x.1.1.1 ≤ (2014 : Int)))
   (brC (decide (x.1.1.2.1 ≥ (1 : Int)))
    (brC (decide (x.1.1.2.1 ≤ (12 : Int)))
     (brC (decide (x.1.1.2.2.1 ≥ (1 : Int)))
      (callC rp34 (call 34 ((C.one (L.v I64 x.1.1.1)) :: ((C.one (L.v I64 x.1.1.2.1)) :: [])) []) fun y0 =>
       some ((decide (x.1.1.2.2.1 ≤ y0.1)), ()))
      (some (false, ())))
     (some (false, ())))
    (some (false, ())))
   (some (false, ())))
  (some (false, ()))
theorem t44_eq (call : Call) (k : Nat) (x : ap44.Pay) : bodyT Go.Proofs.Tryd.prog HH call 44 Go.Proofs.Tryd.f44 k ap44 rp44 x = t44 call k x := by kernel_rfl

/-- (udometer/date.entry).day -/
noncomputable def t26 (call : Call) (k : Nat) (x : ap26.Pay) : Option rp26.Pay :=
  callC rp44 (call 44 ((C.agg ((L.v I64 x.1.1.1) :: ((L.v I64 x.1.1.2.1) :: ((L.v I64 x.1.1.2.2.1) :: [])))) :: []) []) fun y0 =>
  brC (!y0.1)
  (some ((((0 : Int), ()), ((false, ()), ())), ()))
  (callC rp32 (call 32 ((C.one (L.v I64 (w64 ((w64 ((w64 ((12 : Int) * (w64 (x.1.1.1 - (1850 : Int))))) + x.1.1.2.1)) - (1 : Int))))) :: []) []) fun y1 =>
   callC rp27 (call 27 ((C.one (L.v I64 (w64 ((w64 (y1.1 + x.1.1.2.2.1)) - (1 : Int))))) :: []) []) fun y2 =>
   some ((((w64 ((w64 (y1.1 + x.1.1.2.2.1)) - (1 : Int))), ()), ((y2.1, ()), ())), ()))
theorem t26_eq (call : Call) (k : Nat) (x : ap26.Pay) : bodyT Go.Proofs.Tryd.prog HH call 26 Go.Proofs.Tryd.f26 k ap26 rp26 x = t26 call k x := by kernel_rfl

/-- udometer/date.Number -/
noncomputable def t12 (call : Call) (k : Nat) (x : ap12.Pay) : Option rp12.Pay :=
  callC rp26 (call 26 ((C.agg ((L.v I64 x.1.1.1) :: ((L.v I64 x.1.1.2.1) :: ((L.v I64 x.1.1.2.2.1) :: [])))) :: []) []) fun y0 =>
  brC (!y0.1.2.1.1)
  (some ((((0 : Int), ()), (((1 : Int), ()), ())), ()))
  (some (((y0.1.1.1, ()), (((0 : Int), ()), ())), ()))
theorem t12_eq (call : Call) (k : Nat) (x : ap12.Pay) : bodyT Go.Proofs.Tryd.prog HH call 12 Go.Proofs.Tryd.f12 k ap12 rp12 x = t12 call k x := by kernel_rfl

/-- udometer/date.Of -/
noncomputable def t13 (call : Call) (k : Nat) (x : ap13.Pay) : Option rp13.Pay :=
  callC rp27 (call 27 ((C.one (L.v I64 x.1.1)) :: []) []) fun y0 =>
  brC (!y0.1)
  (some ((((0 : Int), ((0 : Int), ((0 : Int), ()))), (((1 : Int), ()), ())), ()))
  (callC rp28 (call 28 ((C.one (L.v I64 x.1.1)) :: []) []) fun y1 =>
   some (((y1.1.1, (y1.1.2.1, (y1.1.2.2.1, ()))), (((0 : Int), ()), ())), ()))
theorem t13_eq (call : Call) (k : Nat) (x : ap13.Pay) : bodyT Go.Proofs.Tryd.prog HH call 13 Go.Proofs.Tryd.f13 k ap13 rp13 x = t13 call k x := by kernel_rfl

/-- udometer/date.Weekday -/
noncomputable def t29 (call : Call) (k : Nat) (x : ap29.Pay) : Option rp29.Pay :=
  callC rp27 (call 27 ((C.one (L.v I64 x.1.1)) :: []) []) fun y0 =>
  brC (!y0.1)
  (some ((((0 : Int), ()), (((1 : Int), ()), ())), ()))
  (guardC ((7 : Int) ≠ (0 : Int)) <|
   some ((((w64 ((Int.tmod (w64 (x.1.1 + (1 : Int))) (7 : Int)) + (1 : Int))), ()), (((0 : Int), ()), ())), ()))
theorem t29_eq (call : Call) (k : Nat) (x : ap29.Pay) : bodyT Go.Proofs.Tryd.prog HH call 29 Go.Proofs.Tryd.f29 k ap29 rp29 x = t29 call k x := by kernel_rfl

/-- udometer/date.clipped -/
noncomputable def t30 (call : Call) (k : Nat) (x : ap30.Pay) : Option rp30.Pay :=
  some (((bif decide (x.1.1 > (0 : Int)) then x.1.1 else (0 : Int)), ((bif decide (x.1.2.1 < (60000 : Int)) then x.1.2.1 else (60000 : Int)), ())), ())
theorem t30_eq (call : Call) (k : Nat) (x : ap30.Pay) : bodyT Go.Proofs.Tryd.prog HH call 30 Go.Proofs.Tryd.f30 k ap30 rp30 x = t30 call k x := by kernel_rfl

/-- udometer/date.Week -/
noncomputable def t14 (call : Call) (k : Nat) (x : ap14.Pay) : Option rp14.Pay :=
  callC rp29 (call 29 ((C.one (L.v I64 x.1.1)) :: []) []) fun y0 =>
  brC (y0.1.2.1.1 != (0 : Int))
  (some ((((0 : Int), ((0 : Int), ())), ((y0.1.2.1.1, ()), ())), ()))
  (callC rp30 (call 30 ((C.one (L.v I64 (w64 ((w64 (x.1.1 - y0.1.1.1)) + (1 : Int))))) :: ((C.one (L.v I64 (w64 ((w64 (x.1.1 - y0.1.1.1)) + (7 : Int))))) :: [])) []) fun y1 =>
   some (((y1.1.1, (y1.1.2.1, ())), (((0 : Int), ()), ())), ()))
theorem t14_eq (call : Call) (k : Nat) (x : ap14.Pay) : bodyT Go.Proofs.Tryd.prog HH call 14 Go.Proofs.Tryd.f14 k ap14 rp14 x = t14 call k x := by kernel_rfl

/-- udometer/date.isMonth -/
noncomputable def t31 (call : Call) (k : Nat) (x : ap31.Pay) : Option rp31.Pay :=
  brC (decide (x.1.1 ≥ (0 : Int)))
  (some ((decide (x.1.1 ≤ (1971 : Int))), ()))
  (some (false, ()))
theorem t31_eq (call : Call) (k : Nat) (x : ap31.Pay) : bodyT Go.Proofs.Tryd.prog HH call 31 Go.Proofs.Tryd.f31 k ap31 rp31 x = t31 call k x := by kernel_rfl

/-- udometer/date.Days -/
noncomputable def t15 (call : Call) (k : Nat) (x : ap15.Pay) : Option rp15.Pay :=
  callC rp31 (call 31 ((C.one (L.v I64 x.1.1)) :: []) []) fun y0 =>
  brC (!y0.1)
  (some ((((0 : Int), ((0 : Int), ())), (((1 : Int), ()), ())), ()))
  (callC rp32 (call 32 ((C.one (L.v I64 x.1.1)) :: []) []) fun y1 =>
   callC rp32 (call 32 ((C.one (L.v I64 (w64 (x.1.1 + (1 : Int))))) :: []) []) fun y2 =>
   callC rp30 (call 30 ((C.one (L.v I64 y1.1)) :: ((C.one (L.v I64 (w64 (y2.1 - (1 : Int))))) :: [])) []) fun y3 =>
   some (((y3.1.1, (y3.1.2.1, ())), (((0 : Int), ()), ())), ()))
theorem t15_eq (call : Call) (k : Nat) (x : ap15.Pay) : bodyT Go.Proofs.Tryd.prog HH call 15 Go.Proofs.Tryd.f15 k ap15 rp15 x = t15 call k x := by kernel_rfl

/-- udometer/date.Later -/
noncomputable def t16 (call : Call) (k : Nat) (x : ap16.Pay) : Option rp16.Pay :=
  callC rp27 (call 27 ((C.one (L.v I64 x.1.1)) :: []) []) fun y0 =>
  brC (!y0.1)
  (some ((((0 : Int), ()), (((1 : Int), ()), ())), ()))
  (callC rp33 (call 33 ((C.one (L.v I64 x.1.1)) :: []) []) fun y1 =>
   brC (decide (x.1.2.1 < (w64 (0 - y1.1))))
   (some ((((0 : Int), ()), (((3 : Int), ()), ())), ()))
   (brC (decide (x.1.2.1 > (w64 ((1971 : Int) - y1.1))))
    (some ((((0 : Int), ()), (((3 : Int), ()), ())), ()))
    (callC rp32 (call 32 ((C.one (L.v I64 (w64 (y1.1 + x.1.2.1)))) :: []) []) fun y2 =>
     callC rp28 (call 28 ((C.one (L.v I64 x.1.1)) :: []) []) fun y3 =>
     guardC ((12 : Int) ≠ (0 : Int)) <|
     guardC ((12 : Int) ≠ (0 : Int)) <|
     callC rp34 (call 34 ((C.one (L.v I64 (w64 ((1850 : Int) + (w64 (Int.tdiv (w64 (y1.1 + x.1.2.1)) (12 : Int))))))) :: ((C.one (L.v I64 (w64 ((Int.tmod (w64 (y1.1 + x.1.2.1)) (12 : Int)) + (1 : Int))))) :: [])) []) fun y4 =>
     callC rp27 (call 27 ((C.one (L.v I64 (w64 ((w64 (y2.1 + (bif decide (y4.1 < y3.1.2.2.1) then y4.1 else y3.1.2.2.1))) - (1 : Int))))) :: []) []) fun y5 =>
     brC (!y5.1)
     (some ((((0 : Int), ()), (((3 : Int), ()), ())), ()))
     (some ((((w64 ((w64 (y2.1 + (bif decide (y4.1 < y3.1.2.2.1) then y4.1 else y3.1.2.2.1))) - (1 : Int))), ()), (((0 : Int), ()), ())), ())))))
theorem t16_eq (call : Call) (k : Nat) (x : ap16.Pay) : bodyT Go.Proofs.Tryd.prog HH call 16 Go.Proofs.Tryd.f16 k ap16 rp16 x = t16 call k x := by kernel_rfl

/-- udometer/date.isRule -/
noncomputable def t35 (call : Call) (k : Nat) (x : ap35.Pay) : Option rp35.Pay :=
  brC (x.1.1 == (1 : Int))
  (some (true, ()))
  (some ((x.1.1 == (2 : Int)), ()))
theorem t35_eq (call : Call) (k : Nat) (x : ap35.Pay) : bodyT Go.Proofs.Tryd.prog HH call 35 Go.Proofs.Tryd.f35 k ap35 rp35 x = t35 call k x := by kernel_rfl

/-- udometer/date.Covers -/
noncomputable def t17 (call : Call) (k : Nat) (x : ap17.Pay) : Option rp17.Pay :=
  callC rp27 (call 27 ((C.one (L.v I64 x.1.1)) :: []) []) fun y0 =>
  brC (!y0.1)
  (some ((((0 : Int), ((0 : Int), ())), (((1 : Int), ()), ())), ()))
  (brC (decide (x.1.2.1 < (1 : Int)))
   (some ((((0 : Int), ((0 : Int), ())), (((1 : Int), ()), ())), ()))
   (brC (decide (x.1.2.1 > (62 : Int)))
    (some ((((0 : Int), ((0 : Int), ())), (((1 : Int), ()), ())), ()))
    (callC rp35 (call 35 ((C.one (L.v I64 x.1.2.2.1)) :: []) []) fun y1 =>
     brC (!y1.1)
     (some ((((0 : Int), ((0 : Int), ())), (((1 : Int), ()), ())), ()))
     (brC (x.1.2.2.1 == (2 : Int))
      (callC rp21 (call 21 ((C.agg ((L.v I64 (w64 ((w64 ((w64 (x.1.1 - x.1.2.1)) + (1 : Int))) - (1 : Int)))) :: ((L.v I64 (w64 (x.1.1 - (1 : Int)))) :: []))) :: []) []) fun y2 =>
       brC (!y2.1)
       (some ((((0 : Int), ((0 : Int), ())), (((3 : Int), ()), ())), ()))
       (some ((((w64 ((w64 ((w64 (x.1.1 - x.1.2.1)) + (1 : Int))) - (1 : Int))), ((w64 (x.1.1 - (1 : Int))), ())), (((0 : Int), ()), ())), ())))
      (callC rp21 (call 21 ((C.agg ((L.v I64 (w64 ((w64 (x.1.1 - x.1.2.1)) + (1 : Int)))) :: ((L.v I64 x.1.1) :: []))) :: []) []) fun y3 =>
       brC (!y3.1)
       (some ((((0 : Int), ((0 : Int), ())), (((3 : Int), ()), ())), ()))
       (some ((((w64 ((w64 (x.1.1 - x.1.2.1)) + (1 : Int))), (x.1.1, ())), (((0 : Int), ()), ())), ())))))))
theorem t17_eq (call : Call) (k : Nat) (x : ap17.Pay) : bodyT Go.Proofs.Tryd.prog HH call 17 Go.Proofs.Tryd.f17 k ap17 rp17 x = t17 call k x := by kernel_rfl

/-- udometer/date.Valid -/
noncomputable def t36 (call : Call) (k : Nat) (x : ap36.Pay) : Option rp36.Pay :=
  callC rp26 (call 26 ((C.agg ((L.v I64 x.1.1.1) :: ((L.v I64 x.1.1.2.1) :: ((L.v I64 x.1.1.2.2.1) :: [])))) :: []) []) fun y0 =>
  some (y0.1.2.1.1, ())
theorem t36_eq (call : Call) (k : Nat) (x : ap36.Pay) : bodyT Go.Proofs.Tryd.prog HH call 36 Go.Proofs.Tryd.f36 k ap36 rp36 x = t36 call k x := by kernel_rfl

/-- udometer/date.Print -/
noncomputable def t18 (call : Call) (k : Nat) (x : ap18.Pay) : Option rp18.Pay :=
  callC rp36 (call 36 ((C.agg ((L.v I64 x.1.1.1) :: ((L.v I64 x.1.1.2.1) :: ((L.v I64 x.1.1.2.2.1) :: [])))) :: []) []) fun y0 =>
  brC (!y0.1)
  (some ((((⟨#[]⟩ : ByteArray), ()), (((1 : Int), ()), ())), ()))
  (guardC (((0 : Int) ≤ (w64 ((w64 ((3 : Int) * x.1.1.2.1)) - (3 : Int)))) ∧ (((w64 ((w64 ((3 : Int) * x.1.1.2.1)) - (3 : Int))) ≤ (w64 ((3 : Int) * x.1.1.2.1))) ∧ ((w64 ((3 : Int) * x.1.1.2.1)) ≤ (ByteArray.size (⟨#[74, 97, 110, 70, 101, 98, 77, 97, 114, 65, 112, 114, 77, 97, 121, 74, 117, 110, 74, 117, 108, 65, 117, 103, 83, 101, 112, 79, 99, 116, 78, 111, 118, 68, 101, 99]⟩ : ByteArray) : Int)))) <|
   callC rp37 (call 37 ((C.one (L.v I64 x.1.1.2.2.1)) :: []) []) fun y1 =>
   guardC (ByteArray.size y1.1 + ByteArray.size (⟨#[32]⟩ : ByteArray) ≤ 9223372036854775807) <|
   guardC (ByteArray.size (ByteArray.append y1.1 (⟨#[32]⟩ : ByteArray)) + ByteArray.size (ByteArray.extract (⟨#[74, 97, 110, 70, 101, 98, 77, 97, 114, 65, 112, 114, 77, 97, 121, 74, 117, 110, 74, 117, 108, 65, 117, 103, 83, 101, 112, 79, 99, 116, 78, 111, 118, 68, 101, 99]⟩ : ByteArray) (Int.toNat (w64 ((w64 ((3 : Int) * x.1.1.2.1)) - (3 : Int)))) (Int.toNat (w64 ((3 : Int) * x.1.1.2.1)))) ≤ 9223372036854775807) <|
   guardC (ByteArray.size (ByteArray.append (ByteArray.append y1.1 (⟨#[32]⟩ : ByteArray)) (ByteArray.extract (⟨#[74, 97, 110, 70, 101, 98, 77, 97, 114, 65, 112, 114, 77, 97, 121, 74, 117, 110, 74, 117, 108, 65, 117, 103, 83, 101, 112, 79, 99, 116, 78, 111, 118, 68, 101, 99]⟩ : ByteArray) (Int.toNat (w64 ((w64 ((3 : Int) * x.1.1.2.1)) - (3 : Int)))) (Int.toNat (w64 ((3 : Int) * x.1.1.2.1))))) + ByteArray.size (⟨#[32]⟩ : ByteArray) ≤ 9223372036854775807) <|
   callC rp37 (call 37 ((C.one (L.v I64 x.1.1.1)) :: []) []) fun y2 =>
   guardC (ByteArray.size (ByteArray.append (ByteArray.append (ByteArray.append y1.1 (⟨#[32]⟩ : ByteArray)) (ByteArray.extract (⟨#[74, 97, 110, 70, 101, 98, 77, 97, 114, 65, 112, 114, 77, 97, 121, 74, 117, 110, 74, 117, 108, 65, 117, 103, 83, 101, 112, 79, 99, 116, 78, 111, 118, 68, 101, 99]⟩ : ByteArray) (Int.toNat (w64 ((w64 ((3 : Int) * x.1.1.2.1)) - (3 : Int)))) (Int.toNat (w64 ((3 : Int) * x.1.1.2.1))))) (⟨#[32]⟩ : ByteArray)) + ByteArray.size y2.1 ≤ 9223372036854775807) <|
   some ((((ByteArray.append (ByteArray.append (ByteArray.append (ByteArray.append y1.1 (⟨#[32]⟩ : ByteArray)) (ByteArray.extract (⟨#[74, 97, 110, 70, 101, 98, 77, 97, 114, 65, 112, 114, 77, 97, 121, 74, 117, 110, 74, 117, 108, 65, 117, 103, 83, 101, 112, 79, 99, 116, 78, 111, 118, 68, 101, 99]⟩ : ByteArray) (Int.toNat (w64 ((w64 ((3 : Int) * x.1.1.2.1)) - (3 : Int)))) (Int.toNat (w64 ((3 : Int) * x.1.1.2.1))))) (⟨#[32]⟩ : ByteArray)) y2.1), ()), (((0 : Int), ()), ())), ()))
theorem t18_eq (call : Call) (k : Nat) (x : ap18.Pay) : bodyT Go.Proofs.Tryd.prog HH call 18 Go.Proofs.Tryd.f18 k ap18 rp18 x = t18 call k x := by kernel_rfl

/-- sanity -/
noncomputable def t4 (call : Call) (k : Nat) (x : ap4.Pay) : Option rp4.Pay :=
  callC rp12 (call 12 ((C.agg ((L.v I64 (1900 : Int)) :: ((L.v I64 (3 : Int)) :: ((L.v I64 (1 : Int)) :: [])))) :: []) []) fun y0 =>
  callC rp13 (call 13 ((C.one (L.v I64 (60000 : Int))) :: []) []) fun y1 =>
  callC rp14 (call 14 ((C.one (L.v I64 (6 : Int))) :: []) []) fun y2 =>
  callC rp15 (call 15 ((C.one (L.v I64 (1 : Int))) :: []) []) fun y3 =>
  callC rp16 (call 16 ((C.one (L.v I64 (30 : Int))) :: ((C.one (L.v I64 (1 : Int))) :: [])) []) fun y4 =>
  callC rp17 (call 17 ((C.one (L.v I64 (10 : Int))) :: ((C.one (L.v I64 (3 : Int))) :: ((C.one (L.v I64 (2 : Int))) :: []))) []) fun y5 =>
  callC rp5 (call 5 ((C.one (L.v (Sh.slice SpanS) (((5 : Int), (9 : Int)) :: (((0 : Int), (2 : Int)) :: (((3 : Int), (3 : Int)) :: (((20 : Int), (30 : Int)) :: ([] : List (Int × Int)))))))) :: []) []) fun y6 =>
  callC rp18 (call 18 ((C.agg ((L.v I64 (1871 : Int)) :: ((L.v I64 (3 : Int)) :: ((L.v I64 (14 : Int)) :: [])))) :: []) []) fun y7 =>
  brC (y0.1.2.1.1 != (0 : Int))
  (some (false, ()))
  (brC (y1.1.2.1.1 != (0 : Int))
   (some (false, ()))
   (brC (y2.1.2.1.1 != (0 : Int))
    (some (false, ()))
    (brC (y3.1.2.1.1 != (0 : Int))
     (some (false, ()))
     (brC (y4.1.2.1.1 != (0 : Int))
      (some (false, ()))
      (brC (y5.1.2.1.1 != (0 : Int))
       (some (false, ()))
       (brC (y6.1.2.1.1 != (0 : Int))
        (some (false, ()))
        (brC (y7.1.2.1.1 != (0 : Int))
         (some (false, ()))
         (brC (y0.1.1.1 == (18321 : Int))
          (brC ((decide (y1.1.1.1 = (2014 : Int))) && ((decide (y1.1.1.2.1 = (4 : Int))) && ((decide (y1.1.1.2.2.1 = (11 : Int))) && true)))
           (brC ((decide (y2.1.1.1 = (6 : Int))) && ((decide (y2.1.1.2.1 = (12 : Int))) && true))
            (brC ((decide (y3.1.1.1 = (31 : Int))) && ((decide (y3.1.1.2.1 = (58 : Int))) && true))
             (brC (y4.1.1.1 == (58 : Int))
              (brC ((decide (y5.1.1.1 = (7 : Int))) && ((decide (y5.1.1.2.1 = (9 : Int))) && true))
               (callC rp7 (call 7 ((C.one (L.v (Sh.slice SpanS) y6.1.1.1)) :: ((C.one (L.v (Sh.slice SpanS) (((0 : Int), (3 : Int)) :: (((5 : Int), (9 : Int)) :: (((20 : Int), (30 : Int)) :: ([] : List (Int × Int))))))) :: [])) []) fun y8 =>
                brC y8.1
                (some ((ByteArray.toList y7.1.1.1 == ByteArray.toList (⟨#[49, 52, 32, 77, 97, 114, 32, 49, 56, 55, 49]⟩ : ByteArray)), ()))
                (some (false, ())))
               (some (false, ())))
              (some (false, ())))
             (some (false, ())))
            (some (false, ())))
           (some (false, ())))
          (some (false, ()))))))))))
theorem t4_eq (call : Call) (k : Nat) (x : ap4.Pay) : bodyT Go.Proofs.Tryd.prog HH call 4 Go.Proofs.Tryd.f4 k ap4 rp4 x = t4 call k x := by kernel_rfl

end Go.AI
