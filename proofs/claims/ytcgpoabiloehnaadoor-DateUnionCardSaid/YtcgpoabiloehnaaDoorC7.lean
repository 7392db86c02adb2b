/-
  Contracts of the specification's Union and Gaps.
-/
import Derived.Test.YtcgpoabiloehnaaDoorC6
set_option linter.unusedVariables false
namespace Go.AI
open Go

/-! ### edges are increasing -/
theorem edF_len (l : List (Int × Int)) : ∀ n last, (edF l n last).length ≤ n
  | 0, _ => Nat.le_refl _
  | n + 1, last => by
    unfold edF
    split
    · simp
    · have := edF_len l n (nextE l last)
      simp only [List.length_cons]; omega
/-- from a place on: all larger, increasing, below the end -/
theorem edF_inc (l : List (Int × Int)) : ∀ n last, last < 60002 → (edF l n last).Pairwise (· < ·) ∧ ∀ e ∈ edF l n last, last < e ∧ e ≤ 60001
  | 0, _, _ => ⟨List.Pairwise.nil, fun e h => by cases h⟩
  | n + 1, last, hl => by
    unfold edF
    have hgt := nextE_gt (l := l) hl
    have hle := nextE_le l last
    split
    · exact ⟨List.Pairwise.nil, fun e h => by cases h⟩
    · rename_i hne
      obtain ⟨h1, h2⟩ := edF_inc l n (nextE l last) (by omega)
      refine ⟨List.pairwise_cons.2 ⟨fun e he => (h2 e he).1, h1⟩, fun e he => ?_⟩
      rcases List.mem_cons.1 he with rfl | he
      · omega
      · have := h2 e he; omega
theorem edgesL_inc (l : List (Int × Int)) : (edgesL l).Pairwise (· < ·) ∧ ∀ e ∈ edgesL l, 0 ≤ e ∧ e ≤ 60001 := by
  obtain ⟨h1, h2⟩ := edF_inc l 60003 (-1) (by omega)
  exact ⟨h1, fun e he => by have := h2 e he; omega⟩
theorem edgesL_len (l : List (Int × Int)) : (edgesL l).length ≤ 60003 := edF_len l _ _

/-- neighbours -/
def pairsE (e : List Int) : List (Int × Int) := e.zip e.tail
theorem pairsE_len (e : List Int) : (pairsE e).length = e.length - 1 := by simp [pairsE]
theorem pairsE_get {e : List Int} {i : Nat} {p : Int × Int} (h : (pairsE e)[i]? = some p) : e[i]? = some p.1 ∧ e[i + 1]? = some p.2 := by
  unfold pairsE at h
  rw [List.getElem?_zip_eq_some] at h
  refine ⟨h.1, ?_⟩
  have := h.2
  rw [List.getElem?_tail] at this
  exact this
theorem pairsE_ok {l : List (Int × Int)} {i : Nat} {p : Int × Int} (h : (pairsE (edgesL l))[i]? = some p) : okS (p.1, p.2 - 1) = true := by
  obtain ⟨h1, h2⟩ := pairsE_get h
  obtain ⟨hp, hb⟩ := edgesL_inc l
  have hb1 := hb _ (List.mem_of_getElem? h1)
  have hb2 := hb _ (List.mem_of_getElem? h2)
  obtain ⟨hi1, e1⟩ := List.getElem?_eq_some_iff.1 h1
  obtain ⟨hi2, e2⟩ := List.getElem?_eq_some_iff.1 h2
  have hlt := List.pairwise_iff_getElem.1 hp i (i + 1) hi1 hi2 (by omega)
  rw [e1, e2] at hlt
  rw [okS_iff]
  simp only
  omega

def unF (l : List (Int × Int)) (out : List (Int × Int)) (p : Int × Int) : List (Int × Int) := if hasD l p.1 = true then putL out (p.1, p.2 - 1) else out
/-- the specification's union -/
def refUnionL (l : List (Int × Int)) : List (Int × Int) := (pairsE (edgesL l)).foldl (unF l) []
def gaF (s : Int × Int) (l : List (Int × Int)) (out : List (Int × Int)) (p : Int × Int) : List (Int × Int) := if (!hasD l p.1 && decide (s.1 ≤ p.1) && decide (p.1 ≤ s.2)) = true then putL out (p.1, p.2 - 1) else out
/-- the specification's gaps -/
def refGapsL (s : Int × Int) (l : List (Int × Int)) : List (Int × Int) := (pairsE (edgesL (l ++ [s]))).foldl (gaF s l) []

theorem c23 {T : Tab} (hT : T 23 = some p23) {R : Type} (K : rp23.Pay → Option R) (xs : List (Int × Int)) (h : xs.length ≤ 100000) (hok : allOk xs = true) :
    callC rp23 (callT T 23 (C.one (L.v (.slice SpanS) xs) :: []) []) K = K (edgesL xs, ()) := by
  simp only [callT, hT, p23]
  refine (callC_obj rfl).trans ?_
  show ((some ((xs, ()), ()) : Option ap23.Pay).bind g23).bind K = _
  simp only [g23, short_iff.2 h, hok, Bool.and_self, if_true, Option.bind_some]
theorem c24 {T : Tab} (hT : T 24 = some p24) {R : Type} (K : rp24.Pay → Option R) (xs : List (Int × Int)) (d : Int) (h : xs.length ≤ 100000) :
    callC rp24 (callT T 24 (C.one (L.v (.slice SpanS) xs) :: C.one (L.v I64 d) :: []) []) K = K (hasD xs d, ()) := by
  simp only [callT, hT, p24]
  refine (callC_obj rfl).trans ?_
  show ((some ((xs, (d, ())), ()) : Option ap24.Pay).bind g24).bind K = _
  simp only [g24, short_iff.2 h, if_true, Option.bind_some]
theorem c25 {T : Tab} (hT : T 25 = some p25) {R : Type} (K : rp25.Pay → Option R) (xs : List (Int × Int)) (lo hi : Int) (h : xs.length ≤ 100000) (hok : allOk xs = true) :
    callC rp25 (callT T 25 (C.one (L.v (.slice SpanS) xs) :: C.agg [L.v I64 lo, L.v I64 hi] :: []) []) K = K (putL xs (lo, hi), ()) := by
  simp only [callT, hT, p25]
  refine (callC_obj rfl).trans ?_
  show ((some ((xs, ((lo, (hi, ())), ())), ()) : Option ap25.Pay).bind g25).bind K = _
  simp only [g25, short_iff.2 h, hok, Bool.and_self, if_true, Option.bind_some]

def g9 (x : ap9.Pay) : Option rp9.Pay := if (short x.1.1.length && allOk x.1.1) = true then some (refUnionL x.1.1, ()) else none
def p9 := objC ap9 rp9 g9
theorem t9_run {T : Tab} (h23 : T 23 = some p23) (h24 : T 24 = some p24) (h25 : T 25 = some p25) (x : ap9.Pay) (y : rp9.Pay) (hy : g9 x = some y) : ∃ k, t9 (callT T) k x = some y := by
  obtain ⟨⟨l, ⟨⟩⟩, ⟨⟩⟩ := x
  unfold g9 at hy
  simp only at hy
  split at hy
  case isFalse => cases hy
  rename_i hsh
  rw [Bool.and_eq_true] at hsh
  have hn := short_iff.1 hsh.1
  refine ⟨70000, ?_⟩
  unfold t9
  rw [← hy, c23 h23 _ l hn hsh.2]
  have hel := edgesL_len l
  have hpl := pairsE_len (edgesL l)
  refine (loopC_run (iter_list (pairsE (edgesL l)) (fun i out => ((l, (edgesL l, (out, ((i : Int), ())))), ())) (fun out p _ => .inl (unF l out p)) (fun out => .inl ((out, ()), ())) (fun i out => out.length ≤ i ∧ allOk out = true) ?_ ?_ 70000 0 [] (Nat.zero_le _) ⟨Nat.le_refl _, rfl⟩ (by omega)) _).trans ?_
  · intro i out p hi ⟨h1, h2⟩ hp
    obtain ⟨hp1, hp2⟩ := pairsE_get hp
    have hpo := pairsE_ok hp
    have hpo' := okS_iff.1 hpo
    simp only at hpo'
    refine ⟨fun out' ho => ?_, fun b hb => by cases hb⟩
    cases ho
    have h4 : ((i + 1 : Nat) : Int) < ((edgesL l).length : Int) := by omega
    have h5 : (i : Int) < ((edgesL l).length : Int) := by omega
    have hw := w_succ (n := (edgesL l).length) (i := i) (by omega) (by omega)
    have hw2 : w64 (p.2 - 1) = p.2 - 1 := w_id (by omega) (by omega)
    refine ⟨?_, ?_⟩
    · simp only [brC_ite, hw, h4, h5, decide_true, if_true, guardC_ite, show (0 : Int) ≤ (i : Int) from by omega, show (0 : Int) ≤ ((i + 1 : Nat) : Int) from by omega, and_self, eltC_nat (s := I64) hp1, eltC_nat (s := I64) hp2, c24 h24 _ l _ hn, c25 h25 _ out _ _ (by omega) h2, hw2, unF]
      cases hasD l p.1 <;> simp
    · unfold unF
      split
      · exact ⟨by have := putL_length out (p.1, p.2 - 1); omega, allOk_iff.2 (putL_ok (allOk_iff.1 h2) hpo)⟩
      · exact ⟨by omega, h2⟩
  · intro out _
    have hw := w_id (n := ((pairsE (edgesL l)).length : Int) + 1) (by omega) (by omega)
    have hno : ¬ (((pairsE (edgesL l)).length : Int) + 1 < ((edgesL l).length : Int)) := by omega
    simp [brC_ite, hw, hno]
  · rw [List.drop_zero, runL_fold, sumC_inl]
    rfl

def g11 (x : ap11.Pay) : Option rp11.Pay := if (short (x.1.2.1.length + 1) && allOk x.1.2.1 && okS (x.1.1.1, x.1.1.2.1)) = true then some (refGapsL (x.1.1.1, x.1.1.2.1) x.1.2.1, ()) else none
def p11 := objC ap11 rp11 g11
theorem t11_run {T : Tab} (h23 : T 23 = some p23) (h24 : T 24 = some p24) (h25 : T 25 = some p25) (x : ap11.Pay) (y : rp11.Pay) (hy : g11 x = some y) : ∃ k, t11 (callT T) k x = some y := by
  obtain ⟨⟨⟨slo, shi, ⟨⟩⟩, l, ⟨⟩⟩, ⟨⟩⟩ := x
  unfold g11 at hy
  simp only at hy
  split at hy
  case isFalse => cases hy
  rename_i hsh
  rw [Bool.and_eq_true, Bool.and_eq_true] at hsh
  have hn := short_iff.1 hsh.1.1
  have hs0 := hsh.2
  refine ⟨70000, ?_⟩
  unfold t11
  rw [← hy]
  have r1 : (List.length ([] : List (Int × Int)) + List.length l) * 16 ≤ 140737488355328 := by simp; omega
  have r2 : (List.length (List.append ([] : List (Int × Int)) l) + List.length ((slo, shi) :: ([] : List (Int × Int)))) * 16 ≤ 140737488355328 := by simp; omega
  have hall : allOk (l ++ [(slo, shi)]) = true := by
    rw [allOk_iff]
    intro t ht
    rcases List.mem_append.1 ht with ht | ht
    · exact allOk_iff.1 hsh.1.2 t ht
    · rw [List.mem_singleton.1 ht]; exact hs0
  simp only [agreeC_same, guardC_pos r1, guardC_pos r2]
  have h0 := c23 (R := _) h23 (K := fun y0 => some ((l, ((), (y0.1, ()))), ((slo, (shi, ())), ()))) (l ++ [(slo, shi)]) (by simp; omega) hall
  refine (loopC_run h0 _).trans ?_
  have hel := edgesL_len (l ++ [(slo, shi)])
  have hpl := pairsE_len (edgesL (l ++ [(slo, shi)]))
  generalize he : edgesL (l ++ [(slo, shi)]) = e at hel hpl
  refine (loopC_run (iter_list (pairsE e) (fun i out => ((l, ((), (e, (out, ((i : Int), ()))))), ((slo, (shi, ())), ()))) (fun out p _ => .inl (gaF (slo, shi) l out p)) (fun out => .inl ((out, ()), ())) (fun i out => out.length ≤ i ∧ allOk out = true) ?_ ?_ 70000 0 [] (Nat.zero_le _) ⟨Nat.le_refl _, rfl⟩ (by omega)) _).trans ?_
  · intro i out p hi ⟨h1, h2⟩ hp
    obtain ⟨hp1, hp2⟩ := pairsE_get hp
    have hpo : okS (p.1, p.2 - 1) = true := by rw [← he] at hp; exact pairsE_ok hp
    have hpo' := okS_iff.1 hpo
    simp only at hpo'
    refine ⟨fun out' ho => ?_, fun b hb => by cases hb⟩
    cases ho
    have h4 : ((i + 1 : Nat) : Int) < (e.length : Int) := by omega
    have h5 : (i : Int) < (e.length : Int) := by omega
    have hw := w_succ (n := e.length) (i := i) (by omega) (by omega)
    have hw2 : w64 (p.2 - 1) = p.2 - 1 := w_id (by omega) (by omega)
    refine ⟨?_, ?_⟩
    · simp only [brC_ite, hw, h4, h5, decide_true, if_true, guardC_ite, show (0 : Int) ≤ (i : Int) from by omega, show (0 : Int) ≤ ((i + 1 : Nat) : Int) from by omega, and_self, eltC_nat (s := I64) hp1, eltC_nat (s := I64) hp2, c24 h24 _ l _ (show l.length ≤ 100000 by omega), c25 h25 _ out _ _ (by omega) h2, hw2, gaF, decide_eq_true_eq]
      cases hasD l p.1 with
      | true => simp
      | false =>
        by_cases c1 : slo ≤ p.1 <;> by_cases c2 : p.1 ≤ shi <;> simp [c1, c2]
    · unfold gaF
      split
      · exact ⟨by have := putL_length out (p.1, p.2 - 1); omega, allOk_iff.2 (putL_ok (allOk_iff.1 h2) hpo)⟩
      · exact ⟨by omega, h2⟩
  · intro out _
    have hw := w_id (n := ((pairsE e).length : Int) + 1) (by omega) (by omega)
    have hno : ¬ (((pairsE e).length : Int) + 1 < (e.length : Int)) := by omega
    simp [brC_ite, hw, hno]
  · rw [List.drop_zero, runL_fold, sumC_inl]
    unfold refGapsL
    rw [he]

end Go.AI
