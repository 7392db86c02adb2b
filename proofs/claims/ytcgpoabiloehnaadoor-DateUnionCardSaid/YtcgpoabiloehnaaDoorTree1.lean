/-
  Functions, read: each body is the tree that stands here. Printed by wip/tool/gen.py.
-/
import Derived.Test.YtcgpoabiloehnaaDoorHint
import Derived.Test.YtcgpoabiloehnaaDoorProg
import Derived.KernelRfl
set_option linter.unusedVariables false
set_option maxRecDepth 100000
namespace Go.AI
open Go

abbrev SpanS : Sh := .pair (.int .i64) (.int .i64)
abbrev I64 : Sh := .int .i64
abbrev w64 (n : Int) : Int := IntKind.wrap .i64 n

/-- udometer/date.isSpan -/
noncomputable def t21 (call : Call) (k : Nat) (x : ap21.Pay) : Option rp21.Pay :=
  brC (decide ((0 : Int) ≤ x.1.1.1))
  (brC (decide (x.1.1.1 ≤ x.1.1.2.1))
   (some ((decide (x.1.1.2.1 ≤ (60000 : Int))), ()))
   (some (false, ())))
  (some (false, ()))
theorem t21_eq (call : Call) (k : Nat) (x : ap21.Pay) : bodyT Go.Proofs.Tryd.prog HH call 21 Go.Proofs.Tryd.f21 k ap21 rp21 x = t21 call k x := by kernel_rfl

/-- udometer/date.spans$1 -/
noncomputable def t39 (call : Call) (k : Nat) (x : ap39.Pay) : Option rp39.Pay :=
  callC rp21 (call 21 ((C.agg ((L.v I64 x.1.1.1) :: ((L.v I64 x.1.1.2.1) :: []))) :: []) []) fun y0 =>
  some ((!y0.1), ())
theorem t39_eq (call : Call) (k : Nat) (x : ap39.Pay) : bodyT Go.Proofs.Tryd.prog HH call 39 Go.Proofs.Tryd.f39 k ap39 rp39 x = t39 call k x := by kernel_rfl

/-- slices.IndexFunc[[]udometer/api.Span,udometer/api.Span] -/
noncomputable def t49 (call : Call) (k : Nat) (x : ap49.Pay) : Option rp49.Pay :=
  loopC (iterC (fun x0 =>
      brC (decide (x0.1.2.2.2.1 < x0.1.2.2.1))
      (guardC (((0 : Int) ≤ x0.1.2.2.2.1) ∧ (x0.1.2.2.2.1 < (List.length x0.1.1 : Int))) <|
       eltC (s := SpanS) x0.1.1 x0.1.2.2.2.1 fun v1 =>
       callC rp39 (call 39 ((C.agg ((L.v I64 v1.1) :: ((L.v I64 v1.2) :: []))) :: []) []) fun y2 =>
       brC y2.1
       (some (.inr (.inl ((x0.1.2.2.2.1, ()), ()))))
       (some (.inl ((x0.1.1, ((), (x0.1.2.2.1, ((w64 (x0.1.2.2.2.1 + (1 : Int))), ())))), ()))))
      (some (.inr (.inr (.inl ((), ())))))) k ((x.1.1, ((), ((List.length x.1.1 : Int), ((0 : Int), ())))), ())) fun z3 =>
  sumC z3 (fun e4 =>
   some (e4.1.1, ())) (fun e5 =>
   sumC e5 (fun e6 =>
    some ((-1 : Int), ())) (fun e7 =>
    noC e7))
theorem t49_eq (call : Call) (k : Nat) (x : ap49.Pay) : bodyT Go.Proofs.Tryd.prog HH call 49 Go.Proofs.Tryd.f49 k ap49 rp49 x = t49 call k x := by kernel_rfl

/-- slices.ContainsFunc[[]udometer/api.Span,udometer/api.Span] -/
noncomputable def t38 (call : Call) (k : Nat) (x : ap38.Pay) : Option rp38.Pay :=
  callC rp49 (call 49 ((C.one (L.v (Sh.slice SpanS) x.1.1)) :: ((C.one (L.fn 39)) :: [])) []) fun y0 =>
  some ((decide (y0.1 ≥ (0 : Int))), ())
theorem t38_eq (call : Call) (k : Nat) (x : ap38.Pay) : bodyT Go.Proofs.Tryd.prog HH call 38 Go.Proofs.Tryd.f38 k ap38 rp38 x = t38 call k x := by kernel_rfl

/-- udometer/date.spans -/
noncomputable def t19 (call : Call) (k : Nat) (x : ap19.Pay) : Option rp19.Pay :=
  brC (decide ((List.length x.1.1 : Int) > (60 : Int)))
  (some ((2 : Int), ()))
  (callC rp38 (call 38 ((C.one (L.v (Sh.slice SpanS) x.1.1)) :: ((C.one (L.fn 39)) :: [])) []) fun y0 =>
   brC y0.1
   (some ((1 : Int), ()))
   (some ((0 : Int), ())))
theorem t19_eq (call : Call) (k : Nat) (x : ap19.Pay) : bodyT Go.Proofs.Tryd.prog HH call 19 Go.Proofs.Tryd.f19 k ap19 rp19 x = t19 call k x := by kernel_rfl

/-- Clone -/
noncomputable def t40 (call : Call) (k : Nat) (x : ap40.Pay) : Option rp40.Pay :=
  brC (List.isEmpty x.1.1)
  (agreeC
   (some ((), (([] : List (Int × Int)), ())))
   (guardC ((List.length ([] : List (Int × Int)) + List.length x.1.1) * 16 ≤ 140737488355328) <|
    some ((), ((List.append ([] : List (Int × Int)) x.1.1), ()))))
  (guardC ((List.length ([] : List (Int × Int)) + List.length x.1.1) * 16 ≤ 140737488355328) <|
   some ((), ((List.append ([] : List (Int × Int)) x.1.1), ())))
theorem t40_eq (call : Call) (k : Nat) (x : ap40.Pay) : bodyT Go.Proofs.Tryd.prog HH call 40 Go.Proofs.Tryd.f40 k ap40 rp40 x = t40 call k x := by kernel_rfl

/-- udometer/date.united$1 -/
noncomputable def t42 (call : Call) (k : Nat) (x : ap42.Pay) : Option rp42.Pay :=
  some ((w64 (x.1.1.1 - x.1.2.1.1)), ())
theorem t42_eq (call : Call) (k : Nat) (x : ap42.Pay) : bodyT Go.Proofs.Tryd.prog HH call 42 Go.Proofs.Tryd.f42 k ap42 rp42 x = t42 call k x := by kernel_rfl

/-- add -/
noncomputable def t43 (call : Call) (k : Nat) (x : ap43.Pay) : Option rp43.Pay :=
  brC (decide ((List.length x.2.2.1 : Int) > (0 : Int)))
  (guardC (((0 : Int) ≤ (w64 ((List.length x.2.2.1 : Int) - (1 : Int)))) ∧ ((w64 ((List.length x.2.2.1 : Int) - (1 : Int))) < (List.length x.2.2.1 : Int))) <|
   eltC (s := SpanS) x.2.2.1 (w64 ((List.length x.2.2.1 : Int) - (1 : Int))) fun v0 =>
   brC (decide (x.1.1.1 ≤ (w64 (v0.2 + (1 : Int)))))
   (guardC (((0 : Int) ≤ (w64 ((List.length x.2.2.1 : Int) - (1 : Int)))) ∧ ((w64 ((List.length x.2.2.1 : Int) - (1 : Int))) < (List.length x.2.2.1 : Int))) <|
    eltC (s := SpanS) x.2.2.1 (w64 ((List.length x.2.2.1 : Int) - (1 : Int))) fun v1 =>
    guardC (((0 : Int) ≤ (w64 ((List.length x.2.2.1 : Int) - (1 : Int)))) ∧ ((w64 ((List.length x.2.2.1 : Int) - (1 : Int))) < (List.length x.2.2.1 : Int))) <|
    eltC (s := SpanS) x.2.2.1 (w64 ((List.length x.2.2.1 : Int) - (1 : Int))) fun v2 =>
    some ((), (((), ()), ((List.set x.2.2.1 (Int.toNat (w64 ((List.length x.2.2.1 : Int) - (1 : Int)))) (v2.1, (bif decide (x.1.1.2.1 > v1.2) then x.1.1.2.1 else v1.2))), ()))))
   (guardC ((List.length x.2.2.1 + List.length ((x.1.1.1, x.1.1.2.1) :: [])) * 16 ≤ 140737488355328) <|
    some ((), (((), ()), ((List.append x.2.2.1 ((x.1.1.1, x.1.1.2.1) :: [])), ())))))
  (guardC ((List.length x.2.2.1 + List.length ((x.1.1.1, x.1.1.2.1) :: [])) * 16 ≤ 140737488355328) <|
   some ((), (((), ()), ((List.append x.2.2.1 ((x.1.1.1, x.1.1.2.1) :: [])), ()))))
theorem t43_eq (call : Call) (k : Nat) (x : ap43.Pay) : bodyT Go.Proofs.Tryd.prog HH call 43 Go.Proofs.Tryd.f43 k ap43 rp43 x = t43 call k x := by kernel_rfl

/-- udometer/date.united -/
noncomputable def t20 (call : Call) (k : Nat) (x : ap20.Pay) : Option rp20.Pay :=
  callC rp40 (call 40 ((C.one (L.v (Sh.slice SpanS) x.1.1)) :: []) []) fun y0 =>
  callC rp41 (call 41 ((C.one (L.sl (Key.imp 0))) :: ((C.one (L.fn 42)) :: [])) (((Key.imp 0), (Obj.slice SpanS y0.2.1)) :: [])) fun y1 =>
  loopC (iterC (fun x2 =>
      brC (decide (x2.1.2.2.2.2.1 < x2.1.2.2.2.1))
      (guardC (((0 : Int) ≤ x2.1.2.2.2.2.1) ∧ (x2.1.2.2.2.2.1 < (List.length x2.2.1 : Int))) <|
       eltC (s := SpanS) x2.2.1 x2.1.2.2.2.2.1 fun v3 =>
       callC rp43 (call 43 ((C.agg ((L.v I64 v3.1) :: ((L.v I64 v3.2) :: []))) :: ((C.one (L.box (Key.imp 0) 0)) :: [])) (((Key.imp 0), (Obj.cells ((L.sl (Key.fld (Key.imp 0) 0)) :: []))) :: (((Key.fld (Key.imp 0) 0), (Obj.slice SpanS x2.2.2.2.2.1)) :: []))) fun y4 =>
       some (.inl (((), ((), ((), (x2.1.2.2.2.1, ((w64 (x2.1.2.2.2.2.1 + (1 : Int))), ()))))), (x2.2.1, (((), ((), ())), (((), ()), (y4.2.2.1, ())))))))
      (some (.inr (.inl (((), ()), (((), ()), (x2.2.2.2.2.1, ()))))))) k (((), ((), ((), ((List.length y1.2.1 : Int), ((0 : Int), ()))))), (y1.2.1, (((), ((), ())), (((), ()), (([] : List (Int × Int)), ())))))) fun z5 =>
  sumC z5 (fun e6 =>
   some (e6.2.2.1, ())) (fun e7 =>
   noC e7)
theorem t20_eq (call : Call) (k : Nat) (x : ap20.Pay) : bodyT Go.Proofs.Tryd.prog HH call 20 Go.Proofs.Tryd.f20 k ap20 rp20 x = t20 call k x := by kernel_rfl

/-- udometer/date.rest -/
noncomputable def t22 (call : Call) (k : Nat) (x : ap22.Pay) : Option rp22.Pay :=
  loopC (iterC (fun x0 =>
      brC (decide (x0.1.2.2.2.2.2.1 < x0.1.2.2.2.2.1))
      (guardC (((0 : Int) ≤ x0.1.2.2.2.2.2.1) ∧ (x0.1.2.2.2.2.2.1 < (List.length x0.1.2.2.2.1 : Int))) <|
       eltC (s := SpanS) x0.1.2.2.2.1 x0.1.2.2.2.2.2.1 fun v1 =>
       brC (decide (v1.2 < x0.1.2.2.1))
       (some (.inl (((), ((), (x0.1.2.2.1, (x0.1.2.2.2.1, (x0.1.2.2.2.2.1, ((w64 (x0.1.2.2.2.2.2.1 + (1 : Int))), ())))))), (x0.2.1, ((x0.2.2.1.1, (x0.2.2.1.2.1, ())), ())))))
       (brC (decide (v1.1 > x0.2.2.1.2.1))
        (some (.inl (((), ((), (x0.1.2.2.1, (x0.1.2.2.2.1, (x0.1.2.2.2.2.1, ((w64 (x0.1.2.2.2.2.2.1 + (1 : Int))), ())))))), (x0.2.1, ((x0.2.2.1.1, (x0.2.2.1.2.1, ())), ())))))
        (brC (decide (v1.1 > x0.1.2.2.1))
         (guardC ((List.length x0.2.1 + List.length ((x0.1.2.2.1, (w64 (v1.1 - (1 : Int)))) :: ([] : List (Int × Int)))) * 16 ≤ 140737488355328) <|
          some (.inl (((), ((), ((w64 (v1.2 + (1 : Int))), (x0.1.2.2.2.1, (x0.1.2.2.2.2.1, ((w64 (x0.1.2.2.2.2.2.1 + (1 : Int))), ())))))), ((List.append x0.2.1 ((x0.1.2.2.1, (w64 (v1.1 - (1 : Int)))) :: ([] : List (Int × Int)))), ((x0.2.2.1.1, (x0.2.2.1.2.1, ())), ())))))
         (some (.inl (((), ((), ((w64 (v1.2 + (1 : Int))), (x0.1.2.2.2.1, (x0.1.2.2.2.2.1, ((w64 (x0.1.2.2.2.2.2.1 + (1 : Int))), ())))))), (x0.2.1, ((x0.2.2.1.1, (x0.2.2.1.2.1, ())), ()))))))))
      (some (.inr (.inl (((), ((), (x0.1.2.2.1, ()))), (x0.2.1, ((x0.2.2.1.1, (x0.2.2.1.2.1, ())), ()))))))) k (((), ((), (x.1.1.1, (x.1.2.1, ((List.length x.1.2.1 : Int), ((0 : Int), ())))))), (([] : List (Int × Int)), ((x.1.1.1, (x.1.1.2.1, ())), ())))) fun z2 =>
  sumC z2 (fun e3 =>
   brC (decide (e3.1.2.2.1 ≤ e3.2.2.1.2.1))
   (guardC ((List.length e3.2.1 + List.length ((e3.1.2.2.1, e3.2.2.1.2.1) :: ([] : List (Int × Int)))) * 16 ≤ 140737488355328) <|
    some ((List.append e3.2.1 ((e3.1.2.2.1, e3.2.2.1.2.1) :: ([] : List (Int × Int)))), ()))
   (some (e3.2.1, ()))) (fun e4 =>
   noC e4)
theorem t22_eq (call : Call) (k : Nat) (x : ap22.Pay) : bodyT Go.Proofs.Tryd.prog HH call 22 Go.Proofs.Tryd.f22 k ap22 rp22 x = t22 call k x := by kernel_rfl

/-- udometer/udometerref01.Valid -/
noncomputable def t10 (call : Call) (k : Nat) (x : ap10.Pay) : Option rp10.Pay :=
  brC (decide ((0 : Int) ≤ x.1.1.1))
  (brC (decide (x.1.1.1 ≤ x.1.1.2.1))
   (some ((decide (x.1.1.2.1 ≤ (60000 : Int))), ()))
   (some (false, ())))
  (some (false, ()))
theorem t10_eq (call : Call) (k : Nat) (x : ap10.Pay) : bodyT Go.Proofs.Tryd.prog HH call 10 Go.Proofs.Tryd.f10 k ap10 rp10 x = t10 call k x := by kernel_rfl

/-- udometer/udometerref01.Valids -/
noncomputable def t8 (call : Call) (k : Nat) (x : ap8.Pay) : Option rp8.Pay :=
  loopC (iterC (fun x0 =>
      brC (decide (x0.1.2.1 < (List.length x0.1.1 : Int)))
      (guardC (((0 : Int) ≤ x0.1.2.1) ∧ (x0.1.2.1 < (List.length x0.1.1 : Int))) <|
       eltC (s := SpanS) x0.1.1 x0.1.2.1 fun v1 =>
       callC rp10 (call 10 ((C.agg ((L.v I64 v1.1) :: ((L.v I64 v1.2) :: []))) :: []) []) fun y2 =>
       brC (!y2.1)
       (some (.inr (.inr (.inl ((false, ()), ())))))
       (some (.inl ((x0.1.1, ((w64 (x0.1.2.1 + (1 : Int))), ())), ()))))
      (some (.inr (.inl ((), ()))))) k ((x.1.1, ((0 : Int), ())), ())) fun z3 =>
  sumC z3 (fun e4 =>
   some (true, ())) (fun e5 =>
   sumC e5 (fun e6 =>
    some (e6.1.1, ())) (fun e7 =>
    noC e7))
theorem t8_eq (call : Call) (k : Nat) (x : ap8.Pay) : bodyT Go.Proofs.Tryd.prog HH call 8 Go.Proofs.Tryd.f8 k ap8 rp8 x = t8 call k x := by kernel_rfl

/-- udometer/udometerref01.Has -/
noncomputable def t24 (call : Call) (k : Nat) (x : ap24.Pay) : Option rp24.Pay :=
  loopC (iterC (fun x0 =>
      brC (decide (x0.1.2.2.1 < (List.length x0.1.1 : Int)))
      (guardC (((0 : Int) ≤ x0.1.2.2.1) ∧ (x0.1.2.2.1 < (List.length x0.1.1 : Int))) <|
       eltC (s := SpanS) x0.1.1 x0.1.2.2.1 fun v1 =>
       brC (decide (v1.1 ≤ x0.1.2.1))
       (guardC (((0 : Int) ≤ x0.1.2.2.1) ∧ (x0.1.2.2.1 < (List.length x0.1.1 : Int))) <|
        eltC (s := SpanS) x0.1.1 x0.1.2.2.1 fun v2 =>
        brC (decide (x0.1.2.1 ≤ v2.2))
        (some (.inr (.inl ((true, ()), ()))))
        (some (.inl ((x0.1.1, (x0.1.2.1, ((w64 (x0.1.2.2.1 + (1 : Int))), ()))), ()))))
       (some (.inl ((x0.1.1, (x0.1.2.1, ((w64 (x0.1.2.2.1 + (1 : Int))), ()))), ()))))
      (some (.inr (.inr (.inl ((), ())))))) k ((x.1.1, (x.1.2.1, ((0 : Int), ()))), ())) fun z3 =>
  sumC z3 (fun e4 =>
   some (e4.1.1, ())) (fun e5 =>
   sumC e5 (fun e6 =>
    some (false, ())) (fun e7 =>
    noC e7))
theorem t24_eq (call : Call) (k : Nat) (x : ap24.Pay) : bodyT Go.Proofs.Tryd.prog HH call 24 Go.Proofs.Tryd.f24 k ap24 rp24 x = t24 call k x := by kernel_rfl

/-- udometer/udometerref01.edges -/
noncomputable def t23 (call : Call) (k : Nat) (x : ap23.Pay) : Option rp23.Pay :=
  loopC (iterC (fun x0 =>
      loopC (iterC (fun x1 =>
          brC (decide (x1.1.2.2.2.2.1 < (List.length x1.1.1 : Int)))
          (guardC (((0 : Int) ≤ x1.1.2.2.2.2.1) ∧ (x1.1.2.2.2.2.1 < (List.length x1.1.1 : Int))) <|
           eltC (s := SpanS) x1.1.1 x1.1.2.2.2.2.1 fun v2 =>
           brC (decide (v2.1 > x1.1.2.2.1))
           (guardC (((0 : Int) ≤ x1.1.2.2.2.2.1) ∧ (x1.1.2.2.2.2.1 < (List.length x1.1.1 : Int))) <|
            eltC (s := SpanS) x1.1.1 x1.1.2.2.2.2.1 fun v3 =>
            guardC (((0 : Int) ≤ x1.1.2.2.2.2.1) ∧ (x1.1.2.2.2.2.1 < (List.length x1.1.1 : Int))) <|
            eltC (s := SpanS) x1.1.1 x1.1.2.2.2.2.1 fun v4 =>
            brC (decide ((w64 (v4.2 + (1 : Int))) > x1.1.2.2.1))
            (guardC (((0 : Int) ≤ x1.1.2.2.2.2.1) ∧ (x1.1.2.2.2.2.1 < (List.length x1.1.1 : Int))) <|
             eltC (s := SpanS) x1.1.1 x1.1.2.2.2.2.1 fun v5 =>
             some (.inl ((x1.1.1, ((), (x1.1.2.2.1, ((bif decide ((w64 (v5.2 + (1 : Int))) < (bif decide (v3.1 < x1.1.2.2.2.1) then v3.1 else x1.1.2.2.2.1)) then (w64 (v5.2 + (1 : Int))) else (bif decide (v3.1 < x1.1.2.2.2.1) then v3.1 else x1.1.2.2.2.1)), ((w64 (x1.1.2.2.2.2.1 + (1 : Int))), ()))))), (x1.2.1, ()))))
            (some (.inl ((x1.1.1, ((), (x1.1.2.2.1, ((bif decide (v3.1 < x1.1.2.2.2.1) then v3.1 else x1.1.2.2.2.1), ((w64 (x1.1.2.2.2.2.1 + (1 : Int))), ()))))), (x1.2.1, ())))))
           (guardC (((0 : Int) ≤ x1.1.2.2.2.2.1) ∧ (x1.1.2.2.2.2.1 < (List.length x1.1.1 : Int))) <|
            eltC (s := SpanS) x1.1.1 x1.1.2.2.2.2.1 fun v6 =>
            brC (decide ((w64 (v6.2 + (1 : Int))) > x1.1.2.2.1))
            (guardC (((0 : Int) ≤ x1.1.2.2.2.2.1) ∧ (x1.1.2.2.2.2.1 < (List.length x1.1.1 : Int))) <|
             eltC (s := SpanS) x1.1.1 x1.1.2.2.2.2.1 fun v7 =>
             some (.inl ((x1.1.1, ((), (x1.1.2.2.1, ((bif decide ((w64 (v7.2 + (1 : Int))) < x1.1.2.2.2.1) then (w64 (v7.2 + (1 : Int))) else x1.1.2.2.2.1), ((w64 (x1.1.2.2.2.2.1 + (1 : Int))), ()))))), (x1.2.1, ()))))
            (some (.inl ((x1.1.1, ((), (x1.1.2.2.1, (x1.1.2.2.2.1, ((w64 (x1.1.2.2.2.2.1 + (1 : Int))), ()))))), (x1.2.1, ()))))))
          (some (.inr (.inl ((x1.1.1, ((), (x1.1.2.2.2.1, ()))), (x1.2.1, ())))))) k ((x0.1.1, ((), (x0.1.2.2.1, ((60002 : Int), ((0 : Int), ()))))), (x0.2.1, ()))) fun z8 =>
      sumC z8 (fun e9 =>
       brC (e9.1.2.2.1 == (60002 : Int))
       (some (.inr (.inl (((), ()), (e9.2.1, ())))))
       (guardC ((List.length e9.2.1 + List.length (e9.1.2.2.1 :: ([] : List Int))) * 8 ≤ 140737488355328) <|
        some (.inl ((e9.1.1, ((), (e9.1.2.2.1, ()))), ((List.append e9.2.1 (e9.1.2.2.1 :: ([] : List Int))), ()))))) (fun e10 =>
       noC e10)) k ((x.1.1, ((), ((-1 : Int), ()))), (([] : List Int), ()))) fun z11 =>
  sumC z11 (fun e12 =>
   some (e12.2.1, ())) (fun e13 =>
   noC e13)
theorem t23_eq (call : Call) (k : Nat) (x : ap23.Pay) : bodyT Go.Proofs.Tryd.prog HH call 23 Go.Proofs.Tryd.f23 k ap23 rp23 x = t23 call k x := by kernel_rfl

/-- udometer/udometerref01.Union -/
noncomputable def t9 (call : Call) (k : Nat) (x : ap9.Pay) : Option rp9.Pay :=
  callC rp23 (call 23 ((C.one (L.v (Sh.slice SpanS) x.1.1)) :: []) []) fun y0 =>
  loopC (iterC (fun x1 =>
      brC (decide ((w64 (x1.1.2.2.2.1 + (1 : Int))) < (List.length x1.1.2.1 : Int)))
      (guardC (((0 : Int) ≤ x1.1.2.2.2.1) ∧ (x1.1.2.2.2.1 < (List.length x1.1.2.1 : Int))) <|
       eltC (s := I64) x1.1.2.1 x1.1.2.2.2.1 fun v2 =>
       callC rp24 (call 24 ((C.one (L.v (Sh.slice SpanS) x1.1.1)) :: ((C.one (L.v I64 v2)) :: [])) []) fun y3 =>
       brC y3.1
       (guardC (((0 : Int) ≤ x1.1.2.2.2.1) ∧ (x1.1.2.2.2.1 < (List.length x1.1.2.1 : Int))) <|
        eltC (s := I64) x1.1.2.1 x1.1.2.2.2.1 fun v4 =>
        guardC (((0 : Int) ≤ (w64 (x1.1.2.2.2.1 + (1 : Int)))) ∧ ((w64 (x1.1.2.2.2.1 + (1 : Int))) < (List.length x1.1.2.1 : Int))) <|
        eltC (s := I64) x1.1.2.1 (w64 (x1.1.2.2.2.1 + (1 : Int))) fun v5 =>
        callC rp25 (call 25 ((C.one (L.v (Sh.slice SpanS) x1.1.2.2.1)) :: ((C.agg ((L.v I64 v4) :: ((L.v I64 (w64 (v5 - (1 : Int)))) :: []))) :: [])) []) fun y6 =>
        some (.inl ((x1.1.1, (x1.1.2.1, (y6.1, ((w64 (x1.1.2.2.2.1 + (1 : Int))), ())))), ())))
       (some (.inl ((x1.1.1, (x1.1.2.1, (x1.1.2.2.1, ((w64 (x1.1.2.2.2.1 + (1 : Int))), ())))), ()))))
      (some (.inr (.inl ((x1.1.2.2.1, ()), ()))))) k ((x.1.1, (y0.1, (([] : List (Int × Int)), ((0 : Int), ())))), ())) fun z7 =>
  sumC z7 (fun e8 =>
   some (e8.1.1, ())) (fun e9 =>
   noC e9)
theorem t9_eq (call : Call) (k : Nat) (x : ap9.Pay) : bodyT Go.Proofs.Tryd.prog HH call 9 Go.Proofs.Tryd.f9 k ap9 rp9 x = t9 call k x := by kernel_rfl

/-- udometer/udometerref01.Same -/
noncomputable def t7 (call : Call) (k : Nat) (x : ap7.Pay) : Option rp7.Pay :=
  brC ((List.length x.1.1 : Int) != (List.length x.1.2.1 : Int))
  (some (false, ()))
  (loopC (iterC (fun x0 =>
       brC (decide (x0.1.2.2.1 < (List.length x0.1.1 : Int)))
       (guardC (((0 : Int) ≤ x0.1.2.2.1) ∧ (x0.1.2.2.1 < (List.length x0.1.1 : Int))) <|
        eltC (s := SpanS) x0.1.1 x0.1.2.2.1 fun v1 =>
        guardC (((0 : Int) ≤ x0.1.2.2.1) ∧ (x0.1.2.2.1 < (List.length x0.1.2.1 : Int))) <|
        eltC (s := SpanS) x0.1.2.1 x0.1.2.2.1 fun v2 =>
        brC (!((decide (v1.1 = v2.1)) && ((decide (v1.2 = v2.2)) && true)))
        (some (.inr (.inl ((false, ()), ()))))
        (some (.inl ((x0.1.1, (x0.1.2.1, ((w64 (x0.1.2.2.1 + (1 : Int))), ()))), ()))))
       (some (.inr (.inr (.inl ((), ())))))) k ((x.1.1, (x.1.2.1, ((0 : Int), ()))), ())) fun z3 =>
   sumC z3 (fun e4 =>
    some (e4.1.1, ())) (fun e5 =>
    sumC e5 (fun e6 =>
     some (true, ())) (fun e7 =>
     noC e7)))
theorem t7_eq (call : Call) (k : Nat) (x : ap7.Pay) : bodyT Go.Proofs.Tryd.prog HH call 7 Go.Proofs.Tryd.f7 k ap7 rp7 x = t7 call k x := by kernel_rfl

/-- udometer/date.Union -/
noncomputable def t5 (call : Call) (k : Nat) (x : ap5.Pay) : Option rp5.Pay :=
  callC rp19 (call 19 ((C.one (L.v (Sh.slice SpanS) x.1.1)) :: []) []) fun y0 =>
  brC (y0.1 != (0 : Int))
  (some (((([] : List (Int × Int)), ()), ((y0.1, ()), ())), ()))
  (callC rp20 (call 20 ((C.one (L.v (Sh.slice SpanS) x.1.1)) :: []) []) fun y1 =>
   some (((y1.1, ()), (((0 : Int), ()), ())), ()))
theorem t5_eq (call : Call) (k : Nat) (x : ap5.Pay) : bodyT Go.Proofs.Tryd.prog HH call 5 Go.Proofs.Tryd.f5 k ap5 rp5 x = t5 call k x := by kernel_rfl

/-- udometer/date.Gaps -/
noncomputable def t6 (call : Call) (k : Nat) (x : ap6.Pay) : Option rp6.Pay :=
  callC rp19 (call 19 ((C.one (L.v (Sh.slice SpanS) x.1.2.1)) :: []) []) fun y0 =>
  brC (y0.1 != (0 : Int))
  (some (((([] : List (Int × Int)), ()), ((y0.1, ()), ())), ()))
  (callC rp21 (call 21 ((C.agg ((L.v I64 x.1.1.1) :: ((L.v I64 x.1.1.2.1) :: []))) :: []) []) fun y1 =>
   brC (!y1.1)
   (some (((([] : List (Int × Int)), ()), (((1 : Int), ()), ())), ()))
   (callC rp20 (call 20 ((C.one (L.v (Sh.slice SpanS) x.1.2.1)) :: []) []) fun y2 =>
    callC rp22 (call 22 ((C.agg ((L.v I64 x.1.1.1) :: ((L.v I64 x.1.1.2.1) :: []))) :: ((C.one (L.v (Sh.slice SpanS) y2.1)) :: [])) []) fun y3 =>
    some (((y3.1, ()), (((0 : Int), ()), ())), ())))
theorem t6_eq (call : Call) (k : Nat) (x : ap6.Pay) : bodyT Go.Proofs.Tryd.prog HH call 6 Go.Proofs.Tryd.f6 k ap6 rp6 x = t6 call k x := by kernel_rfl

end Go.AI
