/-
  Contracts: are there spans without days; the error of a list; valid lists; has a list a day; equal lists; a copy.
-/
import Derived.Test.YtcgpoabiloehnaaDoorC2
set_option linter.unusedVariables false
namespace Go.AI
open Go

theorem runL_any {S B : Type} (q : S → Bool) (b1 b0 : B) : ∀ (xs : List S) (i : Nat), runL (fun (_ : Unit) s _ => if q s = true then .inr b1 else .inl ()) (fun _ => b0) xs i () = if xs.any q = true then b1 else b0
  | [], _ => by simp [runL]
  | s :: r, i => by
    have ih := runL_any q b1 b0 r (i + 1)
    by_cases h : q s = true
    · simp [runL, h]
    · have h' : q s = false := by simpa using h
      simp only [runL, List.any_cons, h', Bool.false_eq_true, if_false, Bool.false_or]
      exact ih

def g38 (x : ap38.Pay) : Option rp38.Pay := if short x.1.1.length then some (x.1.1.any (fun s => !okS s), ()) else none
def p38 := objC ap38 rp38 g38
theorem c49 {T : Tab} (hT : T 49 = some p49) {R : Type} (K : rp49.Pay → Option R) (xs : List (Int × Int)) (h : xs.length ≤ 100000) :
    callC rp49 (callT T 49 (C.one (L.v (.slice SpanS) xs) :: C.one (L.fn 39) :: []) []) K = K ((match idxBad xs with | some i => (i : Int) | none => -1), ()) := by
  simp only [callT, hT, p49]
  refine (callC_obj rfl).trans ?_
  show ((some ((xs, ((), ())), ()) : Option ap49.Pay).bind g49).bind K = _
  simp only [g49, short_iff.2 h, if_true, Option.bind_some]
  rfl
theorem t38_run {T : Tab} (hT : T 49 = some p49) (k : Nat) (x : ap38.Pay) (y : rp38.Pay) (hy : g38 x = some y) : t38 (callT T) k x = some y := by
  obtain ⟨⟨xs, ⟨⟩, ⟨⟩⟩, ⟨⟩⟩ := x
  unfold g38 at hy
  simp only at hy
  split at hy
  case isFalse => cases hy
  rename_i hsh
  unfold t38
  rw [← hy]
  refine (c49 hT _ xs (short_iff.1 hsh)).trans ?_
  cases h : idxBad xs with
  | none =>
    have : xs.any (fun s => !okS s) = false := by
      unfold idxBad at h
      rw [List.findIdx?_eq_none_iff] at h
      rw [List.any_eq_false]
      intro s hs
      have := h s hs
      simpa using this
    simp [this]
  | some i =>
    have : xs.any (fun s => !okS s) = true := by
      have h2 : idxBad xs ≠ none := by rw [h]; simp
      unfold idxBad at h2
      rw [Ne, List.findIdx?_eq_none_iff] at h2
      rw [List.any_eq_true]
      apply Classical.byContradiction
      intro hn
      exact h2 fun s hs => by
        cases hq : okS s with
        | true => rfl
        | false => exact absurd ⟨s, hs, by simp [hq]⟩ hn
    simp [this]

/-- the error of a list of spans -/
def errS (xs : List (Int × Int)) : Int := if xs.length > 60 then 2 else if xs.any (fun s => !okS s) then 1 else 0
def g19 (x : ap19.Pay) : Option rp19.Pay := if short x.1.1.length then some (errS x.1.1, ()) else none
def p19 := objC ap19 rp19 g19
theorem c38 {T : Tab} (hT : T 38 = some p38) {R : Type} (K : rp38.Pay → Option R) (xs : List (Int × Int)) (h : xs.length ≤ 100000) :
    callC rp38 (callT T 38 (C.one (L.v (.slice SpanS) xs) :: C.one (L.fn 39) :: []) []) K = K (xs.any (fun s => !okS s), ()) := by
  simp only [callT, hT, p38]
  refine (callC_obj rfl).trans ?_
  show ((some ((xs, ((), ())), ()) : Option ap38.Pay).bind g38).bind K = _
  simp only [g38, short_iff.2 h, if_true, Option.bind_some]
theorem t19_run {T : Tab} (hT : T 38 = some p38) (k : Nat) (x : ap19.Pay) (y : rp19.Pay) (hy : g19 x = some y) : t19 (callT T) k x = some y := by
  obtain ⟨⟨xs, ⟨⟩⟩, ⟨⟩⟩ := x
  unfold g19 at hy
  simp only at hy
  split at hy
  case isFalse => cases hy
  rename_i hsh
  unfold t19
  rw [← hy]
  simp only [brC_ite, c38 hT _ xs (short_iff.1 hsh), errS, decide_eq_true_eq]
  have e : ((xs.length : Int) > 60) ↔ xs.length > 60 := by omega
  by_cases h1 : xs.length > 60
  · rw [if_pos (e.2 h1), if_pos h1]
  · rw [if_neg (fun h => h1 (e.1 h)), if_neg h1]
    cases xs.any (fun s => !okS s) <;> rfl

def g8 (x : ap8.Pay) : Option rp8.Pay := if short x.1.1.length then some (!x.1.1.any (fun s => !okS s), ()) else none
def p8 := objC ap8 rp8 g8
theorem t8_run {T : Tab} (hT : T 10 = some p10) (x : ap8.Pay) (y : rp8.Pay) (hy : g8 x = some y) : ∃ k, t8 (callT T) k x = some y := by
  obtain ⟨⟨xs, ⟨⟩⟩, ⟨⟩⟩ := x
  unfold g8 at hy
  simp only at hy
  split at hy
  case isFalse => cases hy
  rename_i hsh
  have hsh := short_iff.1 hsh
  refine ⟨xs.length + 1, ?_⟩
  unfold t8
  refine (loopC_run (iter_list xs (fun i _ => ((xs, ((i : Int), ())), ())) (fun (_ : Unit) s _ => if (!okS s) = true then .inr (.inr (.inl ((false, ()), ()))) else .inl ()) (fun _ => .inl ((), ())) (fun _ _ => True) ?_ ?_ (xs.length + 1) 0 () (Nat.zero_le _) trivial (by omega)) _).trans ?_
  · intro i acc s hi _ hs
    have h1 : (i : Int) < (xs.length : Int) := by omega
    simp only [brC_ite, h1, decide_true, if_true, guardC_ite, show (0 : Int) ≤ (i : Int) from by omega, and_self, eltC_nat hs, c10 hT, w_succ hsh hi]
    cases okS (s.1, s.2) with
    | true => simp
    | false => simp
  · intro acc _
    simp [brC_ite]
  · rw [List.drop_zero, runL_any]
    rw [← hy]
    cases xs.any (fun s => !okS s) <;> simp [sumC_inl, sumC_inr]

/-- has one of some spans a day? -/
def hasD (xs : List (Int × Int)) (d : Int) : Bool := xs.any fun s => decide (s.1 ≤ d) && decide (d ≤ s.2)
def g24 (x : ap24.Pay) : Option rp24.Pay := if short x.1.1.length then some (hasD x.1.1 x.1.2.1, ()) else none
def p24 := objC ap24 rp24 g24
theorem t24_run (call : Call) (x : ap24.Pay) (y : rp24.Pay) (hy : g24 x = some y) : ∃ k, t24 call k x = some y := by
  obtain ⟨⟨xs, d, ⟨⟩⟩, ⟨⟩⟩ := x
  unfold g24 at hy
  simp only at hy
  split at hy
  case isFalse => cases hy
  rename_i hsh
  have hsh := short_iff.1 hsh
  refine ⟨xs.length + 1, ?_⟩
  unfold t24
  refine (loopC_run (iter_list xs (fun i _ => ((xs, (d, ((i : Int), ()))), ())) (fun (_ : Unit) s _ => if (decide (s.1 ≤ d) && decide (d ≤ s.2)) = true then .inr (.inl ((true, ()), ())) else .inl ()) (fun _ => .inr (.inl ((), ()))) (fun _ _ => True) ?_ ?_ (xs.length + 1) 0 () (Nat.zero_le _) trivial (by omega)) _).trans ?_
  · intro i acc s hi _ hs
    have h1 : (i : Int) < (xs.length : Int) := by omega
    simp only [brC_ite, h1, decide_true, if_true, guardC_ite, show (0 : Int) ≤ (i : Int) from by omega, and_self, eltC_nat hs, w_succ hsh hi]
    by_cases h2 : s.1 ≤ d <;> by_cases h3 : d ≤ s.2 <;> simp [h2, h3]
  · intro acc _
    simp [brC_ite]
  · rw [List.drop_zero, runL_any]
    rw [← hy]
    unfold hasD
    cases xs.any _ <;> simp [sumC_inl, sumC_inr]

/-- are two lists equal? -/
def g7 (x : ap7.Pay) : Option rp7.Pay := if short x.1.1.length then some (decide (x.1.1 = x.1.2.1), ()) else none
def p7 := objC ap7 rp7 g7
theorem runL_same {B : Type} (b1 b0 : B) : ∀ (n : Nat) (xs ys zs : List (Int × Int)), ys.length = zs.length + n → ys.drop n = zs → xs.length = zs.length → ∀ q : Nat → (Int × Int) → Bool, (∀ i s, q i s = decide (ys[i]? = some s)) →
    runL (fun (_ : Unit) s i => if (!q i s) = true then Sum.inr b0 else .inl ()) (fun _ => b1) xs n () = if xs = zs then b1 else b0
  | n, [], ys, zs, h1, h2, h3, q, hq => by
    have : zs = [] := List.length_eq_zero_iff.1 (by simpa using h3.symm)
    subst this
    simp [runL]
  | n, s :: r, ys, [], h1, h2, h3, q, hq => by simp at h3
  | n, s :: r, ys, z :: zs, h1, h2, h3, q, hq => by
    obtain ⟨h4, h5, h6⟩ := drop_cons h2
    simp only [runL]
    by_cases he : z = s
    · subst he
      have : q n z = true := by rw [hq, h4]; simp
      simp only [this, Bool.not_true, Bool.false_eq_true, if_false]
      rw [runL_same b1 b0 (n + 1) r ys zs (by simp at h1; omega) h5 (by simpa using h3) q hq]
      simp
    · have : q n s = false := by rw [hq, h4]; simpa using he
      simp only [this, Bool.not_false, if_true]
      rw [if_neg (fun e => he (List.cons.inj e).1.symm)]
theorem t7_run (call : Call) (x : ap7.Pay) (y : rp7.Pay) (hy : g7 x = some y) : ∃ k, t7 call k x = some y := by
  obtain ⟨⟨xs, ys, ⟨⟩⟩, ⟨⟩⟩ := x
  unfold g7 at hy
  simp only at hy
  split at hy
  case isFalse => cases hy
  rename_i hsh
  have hsh := short_iff.1 hsh
  refine ⟨xs.length + 1, ?_⟩
  unfold t7
  rw [← hy]
  simp only [brC_ite, bne_iff_ne, ne_eq]
  by_cases hl : (xs.length : Int) = (ys.length : Int)
  · have hl' : xs.length = ys.length := by omega
    rw [if_neg (fun h => h hl)]
    refine (loopC_run (iter_list xs (fun i _ => ((xs, (ys, ((i : Int), ()))), ())) (fun (_ : Unit) s i => if (!decide (ys[i]? = some s)) = true then .inr (.inl ((false, ()), ())) else .inl ()) (fun _ => .inr (.inl ((), ()))) (fun _ _ => True) ?_ ?_ (xs.length + 1) 0 () (Nat.zero_le _) trivial (by omega)) _).trans ?_
    · intro i acc s hi _ hs
      have h1 : (i : Int) < (xs.length : Int) := by omega
      have h1' : (i : Int) < (ys.length : Int) := by omega
      obtain ⟨t, ht⟩ : ∃ t, ys[i]? = some t := ⟨ys[i]'(by omega), List.getElem?_eq_getElem _⟩
      simp only [brC_ite, h1, h1', decide_true, if_true, guardC_ite, show (0 : Int) ≤ (i : Int) from by omega, and_self, eltC_nat hs, eltC_nat ht, w_succ hsh hi, ht]
      obtain ⟨s1, s2⟩ := s
      obtain ⟨u1, u2⟩ := t
      by_cases h2 : s1 = u1 <;> by_cases h3 : s2 = u2 <;> simp [h2, h3, eq_comm]
    · intro acc _
      simp [brC_ite]
    · rw [List.drop_zero]
      erw [runL_same _ _ 0 xs ys ys (by simp) (by simp) hl' (fun i s => decide (ys[i]? = some s)) (fun _ _ => rfl)]
      by_cases he : xs = ys
      · rw [if_pos he]; simp [sumC_inl, sumC_inr, he]
      · rw [if_neg he]; simp [sumC_inl, sumC_inr, he]
  · rw [if_pos hl]
    have : xs ≠ ys := fun e => hl (by rw [e])
    simp [this]

def g40 (x : ap40.Pay) : Option rp40.Pay := if short x.1.1.length then some ((), (x.1.1, ())) else none
def p40 := objC ap40 rp40 g40
theorem t40_run (call : Call) (k : Nat) (x : ap40.Pay) (y : rp40.Pay) (hy : g40 x = some y) : t40 call k x = some y := by
  obtain ⟨⟨xs, ⟨⟩⟩, ⟨⟩⟩ := x
  unfold g40 at hy
  simp only at hy
  split at hy
  case isFalse => cases hy
  rename_i hsh
  have hsh := short_iff.1 hsh
  unfold t40
  rw [← hy]
  have hl : (List.length ([] : List (Int × Int)) + List.length xs) * 16 ≤ 140737488355328 := by simp; omega
  simp only [brC_ite, guardC_pos hl]
  cases xs with
  | nil => simp [agreeC_same]
  | cons s r => simp

end Go.AI
