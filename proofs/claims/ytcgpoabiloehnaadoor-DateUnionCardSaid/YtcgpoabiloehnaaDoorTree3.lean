/-
  Functions, read: each body is the tree that stands here. Printed by wip/tool/gen.py.
-/
import Derived.Test.YtcgpoabiloehnaaDoorTree1
import Derived.Test.YtcgpoabiloehnaaDoorProg
import Derived.KernelRfl
set_option linter.unusedVariables false
set_option maxRecDepth 100000
namespace Go.AI
open Go

/-- udometer/udometerlaw01.DateUnion -/
noncomputable def t3 (call : Call) (k : Nat) (x : ap3.Pay) : Option rp3.Pay :=
  brC (decide ((List.length x.1.2.1 : Int) > (70 : Int)))
  (callC rp4 (call 4 [] []) fun y0 =>
   some (y0.1, ()))
  (guardC ((List.length ([] : List (Int × Int)) + List.length x.1.2.1) * 16 ≤ 140737488355328) <|
   callC rp5 (call 5 ((C.one (L.v (Sh.slice SpanS) x.1.2.1)) :: []) []) fun y1 =>
   callC rp6 (call 6 ((C.agg ((L.v I64 x.1.1.1) :: ((L.v I64 x.1.1.2.1) :: []))) :: ((C.one (L.v (Sh.slice SpanS) x.1.2.1)) :: [])) []) fun y2 =>
   callC rp7 (call 7 ((C.one (L.v (Sh.slice SpanS) x.1.2.1)) :: ((C.one (L.v (Sh.slice SpanS) (List.append ([] : List (Int × Int)) x.1.2.1))) :: [])) []) fun y3 =>
   brC (!y3.1)
   (some (false, ()))
   (brC (decide ((List.length x.1.2.1 : Int) > (60 : Int)))
    (callC rp4 (call 4 [] []) fun y4 =>
     brC y4.1
     (brC (y1.1.2.1.1 == (2 : Int))
      (brC (y2.1.2.1.1 == (2 : Int))
       (some (((w64 ((List.length y1.1.1.1 : Int) + (List.length y2.1.1.1 : Int))) == (0 : Int)), ()))
       (some (false, ())))
      (some (false, ())))
     (some (false, ())))
    (callC rp8 (call 8 ((C.one (L.v (Sh.slice SpanS) x.1.2.1)) :: []) []) fun y5 =>
     brC (!y5.1)
     (callC rp4 (call 4 [] []) fun y6 =>
      brC y6.1
      (brC (y1.1.2.1.1 == (1 : Int))
       (brC (y2.1.2.1.1 == (1 : Int))
        (some (((w64 ((List.length y1.1.1.1 : Int) + (List.length y2.1.1.1 : Int))) == (0 : Int)), ()))
        (some (false, ())))
       (some (false, ())))
      (some (false, ())))
     (brC (y1.1.2.1.1 != (0 : Int))
      (some (false, ()))
      (callC rp9 (call 9 ((C.one (L.v (Sh.slice SpanS) x.1.2.1)) :: []) []) fun y7 =>
       callC rp7 (call 7 ((C.one (L.v (Sh.slice SpanS) y1.1.1.1)) :: ((C.one (L.v (Sh.slice SpanS) y7.1)) :: [])) []) fun y8 =>
       brC (!y8.1)
       (some (false, ()))
       (callC rp10 (call 10 ((C.agg ((L.v I64 x.1.1.1) :: ((L.v I64 x.1.1.2.1) :: []))) :: []) []) fun y9 =>
        brC (!y9.1)
        (callC rp4 (call 4 [] []) fun y10 =>
         brC y10.1
         (brC (y2.1.2.1.1 == (1 : Int))
          (some (((List.length y2.1.1.1 : Int) == (0 : Int)), ()))
          (some (false, ())))
         (some (false, ())))
        (callC rp4 (call 4 [] []) fun y11 =>
         brC y11.1
         (brC (y2.1.2.1.1 == (0 : Int))
          (callC rp11 (call 11 ((C.agg ((L.v I64 x.1.1.1) :: ((L.v I64 x.1.1.2.1) :: []))) :: ((C.one (L.v (Sh.slice SpanS) x.1.2.1)) :: [])) []) fun y12 =>
           callC rp7 (call 7 ((C.one (L.v (Sh.slice SpanS) y2.1.1.1)) :: ((C.one (L.v (Sh.slice SpanS) y12.1)) :: [])) []) fun y13 =>
           some (y13.1, ()))
          (some (false, ())))
         (some (false, ())))))))))
theorem t3_eq (call : Call) (k : Nat) (x : ap3.Pay) : bodyT Go.Proofs.Tryd.prog HH call 3 Go.Proofs.Tryd.f3 k ap3 rp3 x = t3 call k x := by kernel_rfl

end Go.AI
