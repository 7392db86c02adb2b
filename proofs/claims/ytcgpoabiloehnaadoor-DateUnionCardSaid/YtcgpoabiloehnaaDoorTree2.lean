/-
  Functions, read: each body is the tree that stands here. Printed by wip/tool/gen.py.
-/
import Derived.Test.YtcgpoabiloehnaaDoorTree1
import Derived.Test.YtcgpoabiloehnaaDoorProg
import Derived.KernelRfl
set_option linter.unusedVariables false
set_option maxRecDepth 100000
namespace Go.AI
open Go

/-- udometer/udometerref01.put -/
noncomputable def t25 (call : Call) (k : Nat) (x : ap25.Pay) : Option rp25.Pay :=
  brC (decide ((List.length x.1.1 : Int) > (0 : Int)))
  (guardC (((0 : Int) ≤ (w64 ((List.length x.1.1 : Int) - (1 : Int)))) ∧ ((w64 ((List.length x.1.1 : Int) - (1 : Int))) < (List.length x.1.1 : Int))) <|
   eltC (s := SpanS) x.1.1 (w64 ((List.length x.1.1 : Int) - (1 : Int))) fun v0 =>
   brC ((w64 (v0.2 + (1 : Int))) == x.1.2.1.1)
   (loopC
       (guardC (((0 : Int) ≤ (0 : Int)) ∧ (((0 : Int) ≤ (w64 ((List.length x.1.1 : Int) - (1 : Int)))) ∧ ((w64 ((List.length x.1.1 : Int) - (1 : Int))) ≤ (List.length x.1.1 : Int)))) <|
        guardC (((0 : Int) ≤ (w64 ((List.length x.1.1 : Int) - (1 : Int)))) ∧ ((w64 ((List.length x.1.1 : Int) - (1 : Int))) < (List.length x.1.1 : Int))) <|
        eltC (s := SpanS) x.1.1 (w64 ((List.length x.1.1 : Int) - (1 : Int))) fun v1 =>
        (fun t => agreeC (agreeC t t) t)
        (guardC ((List.length ([] : List (Int × Int)) + List.length (List.drop (Int.toNat (0 : Int)) (List.take (Int.toNat (w64 ((List.length x.1.1 : Int) - (1 : Int)))) x.1.1))) * 16 ≤ 140737488355328) <|
         guardC ((List.length (List.append ([] : List (Int × Int)) (List.drop (Int.toNat (0 : Int)) (List.take (Int.toNat (w64 ((List.length x.1.1 : Int) - (1 : Int)))) x.1.1))) + List.length ((v1.1, x.1.2.1.2.1) :: ([] : List (Int × Int)))) * 16 ≤ 140737488355328) <|
         some (((), ()), ((List.append (List.append ([] : List (Int × Int)) (List.drop (Int.toNat (0 : Int)) (List.take (Int.toNat (w64 ((List.length x.1.1 : Int) - (1 : Int)))) x.1.1))) ((v1.1, x.1.2.1.2.1) :: ([] : List (Int × Int)))), ())))) fun z2 =>
    some (z2.2.1, ()))
   (loopC
       ((fun t => agreeC (agreeC t t) t)
        (guardC ((List.length ([] : List (Int × Int)) + List.length x.1.1) * 16 ≤ 140737488355328) <|
         guardC ((List.length (List.append ([] : List (Int × Int)) x.1.1) + List.length ((x.1.2.1.1, x.1.2.1.2.1) :: ([] : List (Int × Int)))) * 16 ≤ 140737488355328) <|
         some (((), ()), ((List.append (List.append ([] : List (Int × Int)) x.1.1) ((x.1.2.1.1, x.1.2.1.2.1) :: ([] : List (Int × Int)))), ())))) fun z3 =>
    some (z3.2.1, ())))
  (loopC
      ((fun t => agreeC (agreeC t t) t)
       (guardC ((List.length ([] : List (Int × Int)) + List.length x.1.1) * 16 ≤ 140737488355328) <|
        guardC ((List.length (List.append ([] : List (Int × Int)) x.1.1) + List.length ((x.1.2.1.1, x.1.2.1.2.1) :: ([] : List (Int × Int)))) * 16 ≤ 140737488355328) <|
        some (((), ()), ((List.append (List.append ([] : List (Int × Int)) x.1.1) ((x.1.2.1.1, x.1.2.1.2.1) :: ([] : List (Int × Int)))), ())))) fun z4 =>
   some (z4.2.1, ()))
theorem t25_eq (call : Call) (k : Nat) (x : ap25.Pay) : bodyT Go.Proofs.Tryd.prog HH call 25 Go.Proofs.Tryd.f25 k ap25 rp25 x = t25 call k x := by kernel_rfl

/-- udometer/udometerref01.Gaps -/
noncomputable def t11 (call : Call) (k : Nat) (x : ap11.Pay) : Option rp11.Pay :=
  loopC
     ((fun t => agreeC (agreeC t t) t)
      (guardC ((List.length ([] : List (Int × Int)) + List.length x.1.2.1) * 16 ≤ 140737488355328) <|
       guardC ((List.length (List.append ([] : List (Int × Int)) x.1.2.1) + List.length ((x.1.1.1, x.1.1.2.1) :: ([] : List (Int × Int)))) * 16 ≤ 140737488355328) <|
       callC rp23 (call 23 ((C.one (L.v (Sh.slice SpanS) (List.append (List.append ([] : List (Int × Int)) x.1.2.1) ((x.1.1.1, x.1.1.2.1) :: ([] : List (Int × Int)))))) :: []) []) fun y0 =>
       some ((x.1.2.1, ((), (y0.1, ()))), ((x.1.1.1, (x.1.1.2.1, ())), ())))) fun z1 =>
  loopC (iterC (fun x2 =>
      brC (decide ((w64 (x2.1.2.2.2.2.1 + (1 : Int))) < (List.length x2.1.2.2.1 : Int)))
      (guardC (((0 : Int) ≤ x2.1.2.2.2.2.1) ∧ (x2.1.2.2.2.2.1 < (List.length x2.1.2.2.1 : Int))) <|
       eltC (s := I64) x2.1.2.2.1 x2.1.2.2.2.2.1 fun v3 =>
       callC rp24 (call 24 ((C.one (L.v (Sh.slice SpanS) x2.1.1)) :: ((C.one (L.v I64 v3)) :: [])) []) fun y4 =>
       brC (!y4.1)
       (guardC (((0 : Int) ≤ x2.1.2.2.2.2.1) ∧ (x2.1.2.2.2.2.1 < (List.length x2.1.2.2.1 : Int))) <|
        eltC (s := I64) x2.1.2.2.1 x2.1.2.2.2.2.1 fun v5 =>
        brC (decide (x2.2.1.1 ≤ v5))
        (guardC (((0 : Int) ≤ x2.1.2.2.2.2.1) ∧ (x2.1.2.2.2.2.1 < (List.length x2.1.2.2.1 : Int))) <|
         eltC (s := I64) x2.1.2.2.1 x2.1.2.2.2.2.1 fun v6 =>
         brC (decide (v6 ≤ x2.2.1.2.1))
         (guardC (((0 : Int) ≤ x2.1.2.2.2.2.1) ∧ (x2.1.2.2.2.2.1 < (List.length x2.1.2.2.1 : Int))) <|
          eltC (s := I64) x2.1.2.2.1 x2.1.2.2.2.2.1 fun v7 =>
          guardC (((0 : Int) ≤ (w64 (x2.1.2.2.2.2.1 + (1 : Int)))) ∧ ((w64 (x2.1.2.2.2.2.1 + (1 : Int))) < (List.length x2.1.2.2.1 : Int))) <|
          eltC (s := I64) x2.1.2.2.1 (w64 (x2.1.2.2.2.2.1 + (1 : Int))) fun v8 =>
          callC rp25 (call 25 ((C.one (L.v (Sh.slice SpanS) x2.1.2.2.2.1)) :: ((C.agg ((L.v I64 v7) :: ((L.v I64 (w64 (v8 - (1 : Int)))) :: []))) :: [])) []) fun y9 =>
          some (.inl ((x2.1.1, ((), (x2.1.2.2.1, (y9.1, ((w64 (x2.1.2.2.2.2.1 + (1 : Int))), ()))))), ((x2.2.1.1, (x2.2.1.2.1, ())), ()))))
         (some (.inl ((x2.1.1, ((), (x2.1.2.2.1, (x2.1.2.2.2.1, ((w64 (x2.1.2.2.2.2.1 + (1 : Int))), ()))))), ((x2.2.1.1, (x2.2.1.2.1, ())), ())))))
        (some (.inl ((x2.1.1, ((), (x2.1.2.2.1, (x2.1.2.2.2.1, ((w64 (x2.1.2.2.2.2.1 + (1 : Int))), ()))))), ((x2.2.1.1, (x2.2.1.2.1, ())), ())))))
       (some (.inl ((x2.1.1, ((), (x2.1.2.2.1, (x2.1.2.2.2.1, ((w64 (x2.1.2.2.2.2.1 + (1 : Int))), ()))))), ((x2.2.1.1, (x2.2.1.2.1, ())), ())))))
      (some (.inr (.inl ((x2.1.2.2.2.1, ()), ()))))) k ((z1.1.1, ((), (z1.1.2.2.1, (([] : List (Int × Int)), ((0 : Int), ()))))), ((z1.2.1.1, (z1.2.1.2.1, ())), ()))) fun z10 =>
  sumC z10 (fun e11 =>
   some (e11.1.1, ())) (fun e12 =>
   noC e12)
theorem t11_eq (call : Call) (k : Nat) (x : ap11.Pay) : bodyT Go.Proofs.Tryd.prog HH call 11 Go.Proofs.Tryd.f11 k ap11 rp11 x = t11 call k x := by kernel_rfl

end Go.AI
