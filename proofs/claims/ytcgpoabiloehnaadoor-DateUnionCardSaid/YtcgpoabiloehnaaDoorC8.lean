/-
  The statement's function, over its callees' contracts: it returns true.
-/
import Derived.Test.YtcgpoabiloehnaaDoorL2
import Derived.Test.YtcgpoabiloehnaaDoorTree3
set_option linter.unusedVariables false
namespace Go.AI
open Go

def g4 (x : ap4.Pay) : Option rp4.Pay := some (true, ())
def p4 := objC ap4 rp4 g4
theorem c4 {T : Tab} (hT : T 4 = some p4) {R : Type} (K : rp4.Pay → Option R) : callC rp4 (callT T 4 [] []) K = K (true, ()) := by
  simp only [callT, hT, p4]
  refine (callC_obj rfl).trans ?_
  rfl
theorem c5 {T : Tab} (hT : T 5 = some p5) {R : Type} (K : rp5.Pay → Option R) (xs : List (Int × Int)) (h : xs.length ≤ 100000) :
    callC rp5 (callT T 5 (C.one (L.v (.slice SpanS) xs) :: []) []) K = K ((((unionP xs).1, ()), (((unionP xs).2, ()), ())), ()) := by
  simp only [callT, hT, p5]
  refine (callC_obj rfl).trans ?_
  show ((some ((xs, ()), ()) : Option ap5.Pay).bind g5).bind K = _
  simp only [g5, short_iff.2 h, if_true, Option.bind_some]
theorem c6 {T : Tab} (hT : T 6 = some p6) {R : Type} (K : rp6.Pay → Option R) (lo hi : Int) (xs : List (Int × Int)) (h : xs.length ≤ 100000) :
    callC rp6 (callT T 6 (C.agg [L.v I64 lo, L.v I64 hi] :: C.one (L.v (.slice SpanS) xs) :: []) []) K = K ((((gapsP (lo, hi) xs).1, ()), (((gapsP (lo, hi) xs).2, ()), ())), ()) := by
  simp only [callT, hT, p6]
  refine (callC_obj rfl).trans ?_
  show ((some (((lo, (hi, ())), (xs, ())), ()) : Option ap6.Pay).bind g6).bind K = _
  simp only [g6, short_iff.2 h, if_true, Option.bind_some]
theorem c7 {T : Tab} (hT : T 7 = some p7) {R : Type} (K : rp7.Pay → Option R) (xs ys : List (Int × Int)) (h : xs.length ≤ 100000) :
    callC rp7 (callT T 7 (C.one (L.v (.slice SpanS) xs) :: C.one (L.v (.slice SpanS) ys) :: []) []) K = K (decide (xs = ys), ()) := by
  simp only [callT, hT, p7]
  refine (callC_obj rfl).trans ?_
  show ((some ((xs, (ys, ())), ()) : Option ap7.Pay).bind g7).bind K = _
  simp only [g7, short_iff.2 h, if_true, Option.bind_some]
theorem c8 {T : Tab} (hT : T 8 = some p8) {R : Type} (K : rp8.Pay → Option R) (xs : List (Int × Int)) (h : xs.length ≤ 100000) :
    callC rp8 (callT T 8 (C.one (L.v (.slice SpanS) xs) :: []) []) K = K (!xs.any (fun s => !okS s), ()) := by
  simp only [callT, hT, p8]
  refine (callC_obj rfl).trans ?_
  show ((some ((xs, ()), ()) : Option ap8.Pay).bind g8).bind K = _
  simp only [g8, short_iff.2 h, if_true, Option.bind_some]
theorem c9 {T : Tab} (hT : T 9 = some p9) {R : Type} (K : rp9.Pay → Option R) (xs : List (Int × Int)) (h : xs.length ≤ 100000) (hok : allOk xs = true) :
    callC rp9 (callT T 9 (C.one (L.v (.slice SpanS) xs) :: []) []) K = K (refUnionL xs, ()) := by
  simp only [callT, hT, p9]
  refine (callC_obj rfl).trans ?_
  show ((some ((xs, ()), ()) : Option ap9.Pay).bind g9).bind K = _
  simp only [g9, short_iff.2 h, hok, Bool.and_self, if_true, Option.bind_some]
theorem c11 {T : Tab} (hT : T 11 = some p11) {R : Type} (K : rp11.Pay → Option R) (lo hi : Int) (xs : List (Int × Int)) (h : xs.length + 1 ≤ 100000) (hok : allOk xs = true) (hs : okS (lo, hi) = true) :
    callC rp11 (callT T 11 (C.agg [L.v I64 lo, L.v I64 hi] :: C.one (L.v (.slice SpanS) xs) :: []) []) K = K (refGapsL (lo, hi) xs, ()) := by
  simp only [callT, hT, p11]
  refine (callC_obj rfl).trans ?_
  show ((some (((lo, (hi, ())), (xs, ())), ()) : Option ap11.Pay).bind g11).bind K = _
  simp only [g11, short_iff.2 h, hok, hs, Bool.and_self, if_true, Option.bind_some]

def g3 (x : ap3.Pay) : Option rp3.Pay := some (true, ())
def p3 := objC ap3 rp3 g3

theorem putL_ne (l : List (Int × Int)) (s : Int × Int) : (putL l s).length ≤ l.length + 1 := putL_length l s
theorem restL_len (s : Int × Int) (xs : List (Int × Int)) : (restL s xs).length ≤ xs.length + 1 := by
  have : ∀ (ys : List (Int × Int)) (acc : Int × List (Int × Int)), (ys.foldl (restF s) acc).2.length ≤ acc.2.length + ys.length := by
    intro ys
    induction ys with
    | nil => intro acc; simp
    | cons t r ih =>
      intro acc
      rw [List.foldl_cons]
      refine Nat.le_trans (ih _) ?_
      have : (restF s acc t).2.length ≤ acc.2.length + 1 := by
        unfold restF
        split
        · simp
        · split
          · simp
          · simp only; split <;> simp
      simp only [List.length_cons]; omega
  have h := this xs (s.1, [])
  unfold restL restEnd
  split
  · simp at h ⊢; omega
  · simp at h ⊢; omega

theorem t3_run {T : Tab} (h4 : T 4 = some p4) (h5 : T 5 = some p5) (h6 : T 6 = some p6) (h7 : T 7 = some p7) (h8 : T 8 = some p8) (h9 : T 9 = some p9) (h10 : T 10 = some p10) (h11 : T 11 = some p11) (k : Nat) (x : ap3.Pay) : t3 (callT T) k x = some (true, ()) := by
  obtain ⟨⟨⟨lo, hi, ⟨⟩⟩, l, ⟨⟩⟩, ⟨⟩⟩ := x
  unfold t3
  simp only [brC_ite, c4 h4, decide_eq_true_eq]
  by_cases c70 : (l.length : Int) > 70
  · rw [if_pos c70]
  · rw [if_neg c70]
    have hn : l.length ≤ 70 := by omega
    have hroom : (List.length ([] : List (Int × Int)) + List.length l) * 16 ≤ 140737488355328 := by simp; omega
    rw [guardC_pos hroom, c5 h5 _ l (by omega), c6 h6 _ lo hi l (by omega), c7 h7 _ l _ (by omega)]
    have happ : (List.append ([] : List (Int × Int)) l) = l := rfl
    simp only [happ, decide_true, Bool.not_true, Bool.false_eq_true, if_false, if_true]
    by_cases c60 : (l.length : Int) > 60
    · rw [if_pos c60]
      have he : errS l = 2 := by unfold errS; rw [if_pos (by omega)]
      simp [unionP, gapsP, he, w_id]
    · rw [if_neg c60, c8 h8 _ l (by omega)]
      cases hb : l.any (fun s => !okS s) with
      | true =>
        have he : errS l = 1 := by unfold errS; rw [if_neg (by omega), hb]; rfl
        simp [unionP, gapsP, he, w_id]
      | false =>
        have he : errS l = 0 := by unfold errS; rw [if_neg (by omega), hb]; rfl
        have hok := (errS_ok he).2
        have hu : unionP l = (unitedL l, 0) := by simp [unionP, he]
        have hul := unitedL_len l
        simp only [hu, Bool.not_false, Bool.not_true, Bool.false_eq_true, if_false]
        rw [c9 h9 _ l (by omega) hok, c7 h7 _ (unitedL l) _ (by omega), union_eq hok, c10 h10]
        simp only [decide_true, Bool.not_true, Bool.false_eq_true, if_false, bne_self_eq_false]
        cases hs : okS (lo, hi) with
        | false =>
          have hg : gapsP (lo, hi) l = ([], 1) := by simp [gapsP, he, hs]
          simp [hg]
        | true =>
          have hg : gapsP (lo, hi) l = (restL (lo, hi) (unitedL l), 0) := by simp [gapsP, he, hs]
          have hrl := restL_len (lo, hi) (unitedL l)
          simp only [hg, Bool.not_true, Bool.false_eq_true, if_false, if_true, beq_self_eq_true]
          rw [c11 h11 _ lo hi l (by omega) hok hs, c7 h7 _ (restL (lo, hi) (unitedL l)) _ (by omega), gaps_eq hok hs]
          simp

end Go.AI
