/-
  Contracts of loops: which span has no days; has one of some spans a day; are two lists equal.
-/
import Derived.Test.YtcgpoabiloehnaaDoorC1
set_option linter.unusedVariables false
namespace Go.AI
open Go

theorem short_iff {n : Nat} : short n = true ↔ n ≤ 100000 := by simp [short]
theorem w_succ {n i : Nat} (h : n ≤ 100000) (hi : i < n) : w64 ((i : Int) + 1) = ((i + 1 : Nat) : Int) := by
  show IntKind.wrap .i64 _ = _
  rw [wrap_i64 (by omega) (by omega)]
  omega

/-- the first span without days -/
def badF : Unit → (Int × Int) → Nat → Unit ⊕ (PayX [(Ex.ret, sp49_2_x0), (Ex.exit 0, sp49_2_x1)]) := fun _ s i => if okS s then .inl () else .inr (.inl (((i : Int), ()), ()))
def idxBad (xs : List (Int × Int)) : Option Nat := xs.findIdx? (fun s => !okS s)
def g49 (x : ap49.Pay) : Option rp49.Pay := if short x.1.1.length then some ((match idxBad x.1.1 with | some i => (i : Int) | none => -1), ()) else none
def p49 := objC ap49 rp49 g49

theorem badF_run (xs : List (Int × Int)) : ∀ i, runL badF (fun _ => .inr (.inl ((), ()))) xs i () = match idxBad xs with
    | some j => .inl ((((i + j : Nat) : Int), ()), ())
    | none => .inr (.inl ((), ())) := by
  induction xs with
  | nil => intro i; rfl
  | cons s r ih =>
    intro i
    simp only [runL, badF, idxBad, List.findIdx?_cons]
    cases hs : okS s with
    | true =>
      simp only [if_true, Bool.not_true, Bool.false_eq_true, if_false]
      rw [ih (i + 1)]
      unfold idxBad
      cases List.findIdx? (fun s => !okS s) r with
      | none => rfl
      | some j => simp only [Option.map_some]; rw [show i + 1 + j = i + (j + 1) by omega]
    | false => simp

theorem t49_run {T : Tab} (hT : T 39 = some p39) (x : ap49.Pay) (y : rp49.Pay) (hy : g49 x = some y) : ∃ k, t49 (callT T) k x = some y := by
  obtain ⟨⟨xs, ⟨⟩, ⟨⟩⟩, ⟨⟩⟩ := x
  unfold g49 at hy
  simp only at hy
  split at hy
  case isFalse => cases hy
  rename_i hsh
  have hsh := short_iff.1 hsh
  refine ⟨xs.length + 1, ?_⟩
  unfold t49
  refine (loopC_run (iter_list xs (fun i _ => ((xs, ((), ((xs.length : Int), ((i : Int), ())))), ())) badF (fun _ => .inr (.inl ((), ()))) (fun _ _ => True) ?_ ?_ (xs.length + 1) 0 () (Nat.zero_le _) trivial (by omega)) _).trans ?_
  · intro i acc s hi _ hs
    have h1 : (i : Int) < (xs.length : Int) := by omega
    simp only [brC_ite, h1, decide_true, if_true, guardC_ite, show (0 : Int) ≤ (i : Int) from by omega, and_self, eltC_nat hs, c39 hT, w_succ hsh hi, badF]
    cases okS (s.1, s.2) with
    | true => simp
    | false => simp
  · intro acc _
    simp [brC_ite]
  · rw [List.drop_zero, badF_run]
    cases hb : idxBad xs with
    | some j => rw [hb] at hy; simpa [sumC_inl] using hy
    | none => rw [hb] at hy; simpa [sumC_inl, sumC_inr] using hy

end Go.AI
