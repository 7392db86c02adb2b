/-
  Contracts: what a span has besides others; the public functions Union and Gaps.
-/
import Derived.Test.YtcgpoabiloehnaaDoorC4
set_option linter.unusedVariables false
namespace Go.AI
open Go

def restF (s : Int × Int) (acc : Int × List (Int × Int)) (x : Int × Int) : Int × List (Int × Int) :=
  if x.2 < acc.1 then acc else if x.1 > s.2 then acc else (x.2 + 1, if x.1 > acc.1 then acc.2 ++ [(acc.1, x.1 - 1)] else acc.2)
def restEnd (s : Int × Int) (acc : Int × List (Int × Int)) : List (Int × Int) := if acc.1 ≤ s.2 then acc.2 ++ [(acc.1, s.2)] else acc.2
/-- what a span has besides others -/
def restL (s : Int × Int) (xs : List (Int × Int)) : List (Int × Int) := restEnd s (xs.foldl (restF s) (s.1, []))

def g22 (x : ap22.Pay) : Option rp22.Pay := if (short x.1.2.1.length && allOk x.1.2.1 && okS (x.1.1.1, x.1.1.2.1)) = true then some (restL (x.1.1.1, x.1.1.2.1) x.1.2.1, ()) else none
def p22 := objC ap22 rp22 g22

theorem t22_run (call : Call) (x : ap22.Pay) (y : rp22.Pay) (hy : g22 x = some y) : ∃ k, t22 call k x = some y := by
  obtain ⟨⟨⟨slo, shi, ⟨⟩⟩, xs, ⟨⟩⟩, ⟨⟩⟩ := x
  unfold g22 at hy
  simp only at hy
  split at hy
  case isFalse => cases hy
  rename_i hsh
  rw [Bool.and_eq_true, Bool.and_eq_true] at hsh
  have hn := short_iff.1 hsh.1.1
  have hok := allOk_iff.1 hsh.1.2
  have hs0 := okS_iff.1 hsh.2
  simp only at hs0
  refine ⟨xs.length + 1, ?_⟩
  unfold t22
  rw [← hy]
  refine (loopC_run (iter_list xs (fun i acc => (((), ((), (acc.1, (xs, ((xs.length : Int), ((i : Int), ())))))), (acc.2, ((slo, (shi, ())), ())))) (fun acc s _ => .inl (restF (slo, shi) acc s)) (fun acc => .inl (((), ((), (acc.1, ()))), (acc.2, ((slo, (shi, ())), ())))) (fun i acc => acc.2.length ≤ i ∧ 0 ≤ acc.1 ∧ acc.1 ≤ 60001) ?_ ?_ (xs.length + 1) 0 (slo, []) (Nat.zero_le _) ⟨Nat.le_refl _, by simp only; omega⟩ (by omega)) _).trans ?_
  · intro i acc s hi ⟨h1, h2, h2'⟩ hs
    obtain ⟨lo, out⟩ := acc
    have h3 : (i : Int) < (xs.length : Int) := by omega
    have hs' := okS_iff.1 (hok s (List.mem_of_getElem? hs))
    refine ⟨fun acc' ho => ?_, fun b hb => by cases hb⟩
    cases ho
    have hroom : (List.length out + List.length ((lo, s.1 - 1) :: ([] : List (Int × Int)))) * 16 ≤ 140737488355328 := by simp; simp only at h1; omega
    have hw1 : w64 (s.2 + 1) = s.2 + 1 := w_id (by omega) (by omega)
    have hw2 : w64 (s.1 - 1) = s.1 - 1 := w_id (by omega) (by omega)
    simp only at h1 h2 h2'
    simp only [brC_ite, h3, decide_true, if_true, guardC_ite, show (0 : Int) ≤ (i : Int) from by omega, and_self, eltC_nat (s := SpanS) hs, w_succ (n := xs.length) (by omega) hi, hw1, hw2, hroom, restF, decide_eq_true_eq]
    by_cases c1 : s.2 < lo
    · simp only [if_pos c1]
      exact ⟨trivial, by omega, h2, h2'⟩
    · by_cases c2 : s.1 > shi
      · simp only [if_neg c1, if_pos c2]
        exact ⟨trivial, by omega, h2, h2'⟩
      · by_cases c3 : s.1 > lo
        · simp only [if_neg c1, if_neg c2, if_pos c3]
          refine ⟨rfl, ?_, by omega, by omega⟩
          simp; omega
        · simp only [if_neg c1, if_neg c2, if_neg c3]
          exact ⟨trivial, by omega, by omega, by omega⟩
  · intro acc _
    simp [brC_ite]
  · rw [List.drop_zero, runL_fold, sumC_inl]
    have hlen : (xs.foldl (restF (slo, shi)) (slo, [])).2.length ≤ xs.length := by
      have : ∀ (ys : List (Int × Int)) (acc : Int × List (Int × Int)), (ys.foldl (restF (slo, shi)) acc).2.length ≤ acc.2.length + ys.length := by
        intro ys
        induction ys with
        | nil => intro acc; simp
        | cons s r ih =>
          intro acc
          rw [List.foldl_cons]
          refine Nat.le_trans (ih _) ?_
          have : (restF (slo, shi) acc s).2.length ≤ acc.2.length + 1 := by
            unfold restF
            split
            · simp
            · split
              · simp
              · simp only; split <;> simp
          simp only [List.length_cons]; omega
      simpa using this xs (slo, [])
    unfold restL restEnd
    generalize xs.foldl (restF (slo, shi)) (slo, []) = acc at hlen
    have hroom : (List.length acc.2 + List.length ((acc.1, shi) :: ([] : List (Int × Int)))) * 16 ≤ 140737488355328 := by simp; omega
    simp only [brC_ite, guardC_pos hroom, decide_eq_true_eq]
    split <;> rfl

theorem c19 {T : Tab} (hT : T 19 = some p19) {R : Type} (K : rp19.Pay → Option R) (xs : List (Int × Int)) (h : xs.length ≤ 100000) :
    callC rp19 (callT T 19 (C.one (L.v (.slice SpanS) xs) :: []) []) K = K (errS xs, ()) := by
  simp only [callT, hT, p19]
  refine (callC_obj rfl).trans ?_
  show ((some ((xs, ()), ()) : Option ap19.Pay).bind g19).bind K = _
  simp only [g19, short_iff.2 h, if_true, Option.bind_some]
theorem c20 {T : Tab} (hT : T 20 = some p20) {R : Type} (K : rp20.Pay → Option R) (xs : List (Int × Int)) (h : xs.length ≤ 100000) (hok : allOk xs = true) :
    callC rp20 (callT T 20 (C.one (L.v (.slice SpanS) xs) :: []) []) K = K (unitedL xs, ()) := by
  simp only [callT, hT, p20]
  refine (callC_obj rfl).trans ?_
  show ((some ((xs, ()), ()) : Option ap20.Pay).bind g20).bind K = _
  simp only [g20, short_iff.2 h, hok, Bool.and_self, if_true, Option.bind_some]
theorem c22 {T : Tab} (hT : T 22 = some p22) {R : Type} (K : rp22.Pay → Option R) (s : Int × Int) (xs : List (Int × Int)) (h : xs.length ≤ 100000) (hok : allOk xs = true) (hs : okS s = true) :
    callC rp22 (callT T 22 (C.agg [L.v I64 s.1, L.v I64 s.2] :: C.one (L.v (.slice SpanS) xs) :: []) []) K = K (restL s xs, ()) := by
  simp only [callT, hT, p22]
  refine (callC_obj rfl).trans ?_
  show ((some (((s.1, (s.2, ())), (xs, ())), ()) : Option ap22.Pay).bind g22).bind K = _
  simp only [g22, short_iff.2 h, hok, show okS (s.1, s.2) = true from hs, Bool.and_self, if_true, Option.bind_some]

theorem errS_ok {xs : List (Int × Int)} (h : errS xs = 0) : xs.length ≤ 60 ∧ allOk xs = true := by
  unfold errS at h
  split at h
  · cases h
  · split at h
    · cases h
    · rename_i h1 h2
      refine ⟨by omega, ?_⟩
      rw [allOk_iff]
      intro s hs
      cases hq : okS s with
      | true => rfl
      | false => exact absurd (List.any_eq_true.2 ⟨s, hs, by simp [hq]⟩) h2

noncomputable def unionP (xs : List (Int × Int)) : List (Int × Int) × Int := if errS xs = 0 then (unitedL xs, 0) else ([], errS xs)
noncomputable def g5 (x : ap5.Pay) : Option rp5.Pay := if short x.1.1.length = true then some ((((unionP x.1.1).1, ()), (((unionP x.1.1).2, ()), ())), ()) else none
noncomputable def p5 := objC ap5 rp5 g5
theorem t5_run {T : Tab} (h19 : T 19 = some p19) (h20 : T 20 = some p20) (k : Nat) (x : ap5.Pay) (y : rp5.Pay) (hy : g5 x = some y) : t5 (callT T) k x = some y := by
  obtain ⟨⟨xs, ⟨⟩⟩, ⟨⟩⟩ := x
  unfold g5 at hy
  simp only at hy
  split at hy
  case isFalse => cases hy
  rename_i hsh
  have hn := short_iff.1 hsh
  unfold t5
  rw [← hy, c19 h19 _ xs hn]
  simp only [brC_ite, unionP, bne_iff_ne, ne_eq]
  by_cases h0 : errS xs = 0
  · rw [if_neg (fun h => h h0), if_pos h0, c20 h20 _ xs hn (errS_ok h0).2]
  · rw [if_pos h0, if_neg h0]

theorem addS_len (out : List (Int × Int)) : ∀ xs : List (Int × Int), (xs.foldl addS out).length ≤ out.length + xs.length
  | [] => by simp
  | s :: r => by
    have h1 := addS_len (addS out s) r
    have h2 := addS_length out s
    simp only [List.foldl_cons, List.length_cons]; omega
theorem addS_foldok {out : List (Int × Int)} (h : ∀ t ∈ out, okS t = true) : ∀ {xs : List (Int × Int)}, (∀ t ∈ xs, okS t = true) → ∀ t ∈ xs.foldl addS out, okS t = true
  | [], _ => h
  | s :: r, hx => addS_foldok (out := addS out s) (addS_ok h (hx s List.mem_cons_self)) (xs := r) (fun t ht => hx t (List.mem_cons_of_mem _ ht))
theorem unitedL_ok {xs : List (Int × Int)} (h : allOk xs = true) : allOk (unitedL xs) = true :=
  allOk_iff.2 (addS_foldok (fun t ht => by cases ht) (sortA_ok xs (allOk_iff.1 h)))
theorem unitedL_len (xs : List (Int × Int)) : (unitedL xs).length ≤ xs.length := by
  have := addS_len [] (sortA xs)
  rw [sortA_length] at this
  show (List.foldl addS [] (sortA xs)).length ≤ _
  simpa using this

noncomputable def gapsP (s : Int × Int) (xs : List (Int × Int)) : List (Int × Int) × Int := if errS xs = 0 then (if okS s = true then (restL s (unitedL xs), 0) else ([], 1)) else ([], errS xs)
noncomputable def g6 (x : ap6.Pay) : Option rp6.Pay := if short x.1.2.1.length = true then some ((((gapsP (x.1.1.1, x.1.1.2.1) x.1.2.1).1, ()), (((gapsP (x.1.1.1, x.1.1.2.1) x.1.2.1).2, ()), ())), ()) else none
noncomputable def p6 := objC ap6 rp6 g6
theorem t6_run {T : Tab} (h19 : T 19 = some p19) (h20 : T 20 = some p20) (h21 : T 21 = some p21) (h22 : T 22 = some p22) (k : Nat) (x : ap6.Pay) (y : rp6.Pay) (hy : g6 x = some y) : t6 (callT T) k x = some y := by
  obtain ⟨⟨⟨slo, shi, ⟨⟩⟩, xs, ⟨⟩⟩, ⟨⟩⟩ := x
  unfold g6 at hy
  simp only at hy
  split at hy
  case isFalse => cases hy
  rename_i hsh
  have hn := short_iff.1 hsh
  unfold t6
  rw [← hy, c19 h19 _ xs hn]
  simp only [brC_ite, gapsP, bne_iff_ne, ne_eq, c21 h21]
  by_cases h0 : errS xs = 0
  · have h1 := errS_ok h0
    rw [if_neg (fun h => h h0), if_pos h0]
    cases hs : okS (slo, shi) with
    | false => rfl
    | true =>
      have h2 := unitedL_len xs
      have := c22 (R := rp6.Pay) h22 (K := fun y3 => some (((y3.1, ()), (((0 : Int), ()), ())), ())) (slo, shi) (unitedL xs) (by omega) (unitedL_ok h1.2) hs
      rw [c20 h20 _ xs hn h1.2]
      exact this
  · rw [if_pos h0, if_neg h0]

end Go.AI
