/-
  Contracts of date's small functions, and of the specification's: what each returns, as a plain function.
-/
import Derived.Test.YtcgpoabiloehnaaDoorPlain
import Derived.Test.YtcgpoabiloehnaaDoorTree2
set_option linter.unusedVariables false
namespace Go.AI
open Go

/-- a span that has days -/
def okS (s : Int × Int) : Bool := decide (0 ≤ s.1) && decide (s.1 ≤ s.2) && decide (s.2 ≤ 60000)
theorem okS_iff {s : Int × Int} : okS s = true ↔ 0 ≤ s.1 ∧ s.1 ≤ s.2 ∧ s.2 ≤ 60000 := by simp [okS, and_assoc]

/-- lists that are not too long -/
def short (n : Nat) : Bool := decide (n ≤ 100000)

def g21 (x : ap21.Pay) : Option rp21.Pay := some (okS (x.1.1.1, x.1.1.2.1), ())
def g39 (x : ap39.Pay) : Option rp39.Pay := some (!okS (x.1.1.1, x.1.1.2.1), ())
def g10 (x : ap10.Pay) : Option rp10.Pay := some (okS (x.1.1.1, x.1.1.2.1), ())
def p21 := objC ap21 rp21 g21
def p39 := objC ap39 rp39 g39
def p10 := objC ap10 rp10 g10

theorem t21_run (call : Call) (k : Nat) (x : ap21.Pay) : t21 call k x = g21 x := by
  simp only [t21, g21, brC_ite, okS]
  by_cases h1 : (0 : Int) ≤ x.1.1.1 <;> by_cases h2 : x.1.1.1 ≤ x.1.1.2.1 <;> simp [h1, h2]
theorem t10_run (call : Call) (k : Nat) (x : ap10.Pay) : t10 call k x = g10 x := by
  simp only [t10, g10, brC_ite, okS]
  by_cases h1 : (0 : Int) ≤ x.1.1.1 <;> by_cases h2 : x.1.1.1 ≤ x.1.1.2.1 <;> simp [h1, h2]

/-- calls, as callers see them -/
theorem c21 {T : Tab} (hT : T 21 = some p21) {R : Type} (K : rp21.Pay → Option R) (lo hi : Int) :
    callC rp21 (callT T 21 (C.agg [L.v I64 lo, L.v I64 hi] :: []) []) K = K (okS (lo, hi), ()) := by
  simp only [callT, hT, p21]
  exact callC_obj rfl
theorem c39 {T : Tab} (hT : T 39 = some p39) {R : Type} (K : rp39.Pay → Option R) (lo hi : Int) :
    callC rp39 (callT T 39 (C.agg [L.v I64 lo, L.v I64 hi] :: []) []) K = K (!okS (lo, hi), ()) := by
  simp only [callT, hT, p39]
  exact callC_obj rfl
theorem c10 {T : Tab} (hT : T 10 = some p10) {R : Type} (K : rp10.Pay → Option R) (lo hi : Int) :
    callC rp10 (callT T 10 (C.agg [L.v I64 lo, L.v I64 hi] :: []) []) K = K (okS (lo, hi), ()) := by
  simp only [callT, hT, p10]
  exact callC_obj rfl

theorem t39_run {T : Tab} (hT : T 21 = some p21) (k : Nat) (x : ap39.Pay) : t39 (callT T) k x = g39 x := by
  simp only [t39, g39, c21 hT]

end Go.AI
