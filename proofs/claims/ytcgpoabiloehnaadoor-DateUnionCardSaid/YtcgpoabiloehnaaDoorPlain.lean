/-
  Plain rules for the trees that bodies are read into: branches, guards, elements, loops.
-/
import Derived.Test.YtcgpoabiloehnaaDoorTyped
set_option linter.unusedVariables false
namespace Go.AI
open Go

section
variable {R : Type}
theorem brC_ite (b : Bool) (x y : Option R) : brC b x y = if b = true then x else y := by
  unfold brC; cases b <;> rfl
theorem guardC_ite (p : Prop) [Decidable p] (x : Option R) : guardC p x = if p then x else none := by unfold guardC; rfl
theorem guardC_pos {p : Prop} [Decidable p] (h : p) (x : Option R) : guardC p x = x := by rw [guardC_ite, if_pos h]
theorem eltC_get {s : Sh} (xs : List (Val s)) (i : Int) (K : Val s → Option R) : eltC xs i K = (xs[i.toNat]?).bind K := by unfold eltC; rfl
theorem eltC_nat {s : Sh} {xs : List (Val s)} {i : Nat} {v : Val s} (h : xs[i]? = some v) (K : Val s → Option R) : eltC xs (i : Int) K = K v := by
  rw [eltC_get, Int.toNat_natCast, h]; rfl
theorem agreeC_same (x : Option R) : agreeC x x = x := by
  unfold agreeC
  cases x with
  | none => rfl
  | some a => simp
theorem agreeC_some_some {a : R} : agreeC (some a) (some a) = some a := agreeC_same _
theorem loopC_bind {B : Type} (x : Option B) (K : B → Option R) : loopC x K = x.bind K := by unfold loopC; rfl
theorem loopC_run {B : Type} {x : Option B} {b : B} (h : x = some b) (K : B → Option R) : loopC x K = K b := by rw [loopC_bind, h]; rfl
theorem sumC_inl {A B : Type} (a : A) (f : A → Option R) (g : B → Option R) : sumC (.inl a) f g = f a := by unfold sumC; rfl
theorem sumC_inr {A B : Type} (b : B) (f : A → Option R) (g : B → Option R) : sumC (.inr b) f g = g b := by unfold sumC; rfl
end

section
variable {A B : Type} {step : A → Option (A ⊕ B)}
theorem iterC_inl {k : Nat} {a a' : A} (h : step a = some (.inl a')) : iterC step (k + 1) a = iterC step k a' := by
  rw [iterC]; simp only [h]
theorem iterC_inr {k : Nat} {a : A} {b : B} (h : step a = some (.inr b)) : iterC step (k + 1) a = some b := by
  rw [iterC]; simp only [h]
/-- more fuel does no harm -/
theorem iterC_more {b : B} : ∀ {k k' : Nat} {a : A}, k ≤ k' → iterC step k a = some b → iterC step k' a = some b
  | 0, _, _, _, h => by unfold iterC at h; cases h
  | k + 1, 0, _, hk, _ => absurd hk (Nat.not_succ_le_zero k)
  | k + 1, k' + 1, a, hk, h => by
    rw [iterC] at h ⊢
    split at h
    · rename_i a' e
      exact iterC_more (Nat.le_of_succ_le_succ hk) h
    · exact h
    · cases h
end

theorem wrap_i64 {n : Int} (h0 : -9223372036854775808 ≤ n) (h1 : n ≤ 9223372036854775807) : IntKind.wrap .i64 n = n := by
  simp [IntKind.wrap, IntKind.bits, IntKind.signed]
  omega

theorem drop_cons {α : Type} {xs rest : List α} {s : α} {i : Nat} (h : xs.drop i = s :: rest) : xs[i]? = some s ∧ xs.drop (i + 1) = rest ∧ i < xs.length := by
  have h0 : xs[i]? = some s := by
    have : (xs.drop i)[0]? = some s := by rw [h]; rfl
    simpa using this
  refine ⟨h0, ?_, ?_⟩
  · rw [← List.drop_drop, h]; rfl
  · exact (List.getElem?_eq_some_iff.1 h0).1
theorem drop_nil {α : Type} {xs : List α} {i : Nat} (hi : i ≤ xs.length) (h : xs.drop i = []) : i = xs.length := by
  have := List.drop_eq_nil_iff.1 h
  omega

/-! ### a loop over a list's places -/
section
variable {S A B Acc : Type}
def runL (f : Acc → S → Nat → Acc ⊕ B) (fin : Acc → B) : List S → Nat → Acc → B
  | [], _, acc => fin acc
  | s :: r, i, acc => match f acc s i with
    | .inl acc' => runL f fin r (i + 1) acc'
    | .inr b => b
theorem iter_list {step : A → Option (A ⊕ B)} (xs : List S) (mk : Nat → Acc → A) (f : Acc → S → Nat → Acc ⊕ B) (fin : Acc → B) (I : Nat → Acc → Prop)
    (hs : ∀ i acc s, i < xs.length → I i acc → xs[i]? = some s → (∀ acc', f acc s i = .inl acc' → step (mk i acc) = some (.inl (mk (i + 1) acc')) ∧ I (i + 1) acc') ∧ (∀ b, f acc s i = .inr b → step (mk i acc) = some (.inr b)))
    (he : ∀ acc, I xs.length acc → step (mk xs.length acc) = some (.inr (fin acc))) :
    ∀ (k : Nat) (i : Nat) (acc : Acc), i ≤ xs.length → I i acc → xs.length - i < k → iterC step k (mk i acc) = some (runL f fin (xs.drop i) i acc)
  | 0, _, _, _, _, hk => absurd hk (Nat.not_lt_zero _)
  | k + 1, i, acc, hi, hI, hk => by
    cases hd : xs.drop i with
    | nil =>
      have e := drop_nil hi hd
      subst e
      rw [iterC_inr (he acc hI)]
      rfl
    | cons s r =>
      obtain ⟨h1, h2, h3⟩ := drop_cons hd
      obtain ⟨ha, hb⟩ := hs i acc s h3 hI h1
      cases hf : f acc s i with
      | inl acc' =>
        obtain ⟨h4, h5⟩ := ha acc' hf
        rw [iterC_inl h4, iter_list xs mk f fin I hs he k (i + 1) acc' h3 h5 (by omega), h2]
        simp only [runL, hf]
      | inr b =>
        rw [iterC_inr (hb b hf)]
        simp only [runL, hf]
end

end Go.AI
