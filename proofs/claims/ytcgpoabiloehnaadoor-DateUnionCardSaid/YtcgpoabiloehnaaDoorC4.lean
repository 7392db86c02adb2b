/-
  Contracts: a span put to others, or joined with the last one; the fewest spans; what a span has besides.
-/
import Derived.Test.YtcgpoabiloehnaaDoorC3
import Derived.Test.YtcgpoabiloehnaaDoorS0
set_option linter.unusedVariables false
namespace Go.AI
open Go

theorem w_id {n : Int} (h0 : -9223372036854775808 ≤ n) (h1 : n ≤ 9223372036854775807) : w64 n = n := wrap_i64 h0 h1
def allOk (xs : List (Int × Int)) : Bool := xs.all okS
theorem allOk_iff {xs : List (Int × Int)} : allOk xs = true ↔ ∀ s ∈ xs, okS s = true := by simp [allOk]

/-- a span is put behind others, or joined with the last one -/
def addS (out : List (Int × Int)) (s : Int × Int) : List (Int × Int) := match out[out.length - 1]? with
  | some l => if s.1 ≤ l.2 + 1 then out.set (out.length - 1) (l.1, if s.2 > l.2 then s.2 else l.2) else out ++ [s]
  | none => out ++ [s]
theorem addS_ok {out : List (Int × Int)} {s : Int × Int} (h : ∀ t ∈ out, okS t = true) (hs : okS s = true) : ∀ t ∈ addS out s, okS t = true := by
  unfold addS
  split
  · rename_i l hl
    have hlo := h l (List.mem_of_getElem? hl)
    split
    · intro t ht
      rcases List.mem_or_eq_of_mem_set ht with ht | rfl
      · exact h t ht
      · rw [okS_iff] at *
        simp only
        split <;> omega
    · intro t ht
      rcases List.mem_append.1 ht with ht | ht
      · exact h t ht
      · rw [List.mem_singleton.1 ht]; exact hs
  · intro t ht
    rcases List.mem_append.1 ht with ht | ht
    · exact h t ht
    · rw [List.mem_singleton.1 ht]; exact hs
theorem addS_length (out : List (Int × Int)) (s : Int × Int) : (addS out s).length ≤ out.length + 1 := by
  unfold addS
  split
  · split <;> simp
  · simp

def g43 (x : ap43.Pay) : Option rp43.Pay := if (short x.2.2.1.length && allOk x.2.2.1) = true then some ((), (((), ()), (addS x.2.2.1 (x.1.1.1, x.1.1.2.1), ()))) else none
def p43 := objC ap43 rp43 g43
theorem t43_run (call : Call) (k : Nat) (x : ap43.Pay) (y : rp43.Pay) (hy : g43 x = some y) : t43 call k x = some y := by
  obtain ⟨⟨⟨lo, hi, ⟨⟩⟩, ⟨⟩, ⟨⟩⟩, ⟨⟨⟩, ⟨⟩⟩, out, ⟨⟩⟩ := x
  unfold g43 at hy
  simp only at hy
  split at hy
  case isFalse => cases hy
  rename_i hsh
  rw [Bool.and_eq_true] at hsh
  have hn := short_iff.1 hsh.1
  have hok := allOk_iff.1 hsh.2
  rw [← hy]
  unfold t43 addS
  have hroom : (List.length out + List.length ((lo, hi) :: ([] : List (Int × Int)))) * 16 ≤ 140737488355328 := by simp; omega
  have hw : w64 ((out.length : Int) - 1) = (out.length : Int) - 1 := w_id (by omega) (by omega)
  simp only [brC_ite, guardC_pos hroom, decide_eq_true_eq, hw]
  by_cases h0 : (out.length : Int) > 0
  · rw [if_pos h0]
    have hlt : out.length - 1 < out.length := by omega
    have hl : out[out.length - 1]? = some (out[out.length - 1]'hlt) := List.getElem?_eq_getElem hlt
    generalize out[out.length - 1]'hlt = l at hl
    have he : ((out.length : Int) - 1) = ((out.length - 1 : Nat) : Int) := by omega
    have hlo := okS_iff.1 (hok l (List.mem_of_getElem? hl))
    have hg : (0 : Int) ≤ (out.length : Int) - 1 ∧ (out.length : Int) - 1 < (out.length : Int) := by omega
    rw [guardC_pos hg, he, eltC_nat hl, w_id (by omega) (by omega), hl]
    simp only
    by_cases h1 : lo ≤ l.2 + 1
    · rw [he] at hg
      rw [if_pos h1, if_pos h1, guardC_pos hg, eltC_nat hl, guardC_pos hg, eltC_nat hl, Int.toNat_natCast]
      by_cases h2 : hi > l.2 <;> simp [h2]
    · rw [if_neg h1, if_neg h1]
      rfl
  · rw [if_neg h0]
    have : out = [] := by
      cases out with
      | nil => rfl
      | cons _ _ => simp at h0
    subst this
    rfl

/-- the fewest spans with the days of some spans -/
noncomputable def unitedL (xs : List (Int × Int)) : List (Int × Int) := (sortA xs).foldl addS []

noncomputable def g41 (x : ap41.Pay) : Option rp41.Pay := if (short x.2.1.length && allOk x.2.1) = true then some ((), (sortA x.2.1, ())) else none
noncomputable def p41 := objC ap41 rp41 g41
noncomputable def g20 (x : ap20.Pay) : Option rp20.Pay := if (short x.1.1.length && allOk x.1.1) = true then some (unitedL x.1.1, ()) else none
noncomputable def p20 := objC ap20 rp20 g20

theorem c40 {T : Tab} (hT : T 40 = some p40) {R : Type} (K : rp40.Pay → Option R) (xs : List (Int × Int)) (h : xs.length ≤ 100000) :
    callC rp40 (callT T 40 (C.one (L.v (.slice SpanS) xs) :: []) []) K = K ((), (xs, ())) := by
  simp only [callT, hT, p40]
  refine (callC_obj rfl).trans ?_
  show ((some ((xs, ()), ()) : Option ap40.Pay).bind g40).bind K = _
  simp only [g40, short_iff.2 h, if_true, Option.bind_some]
theorem c41 {T : Tab} (hT : T 41 = some p41) {R : Type} (K : rp41.Pay → Option R) (xs : List (Int × Int)) (h : xs.length ≤ 100000) (hok : allOk xs = true) :
    callC rp41 (callT T 41 (C.one (L.sl (Key.imp 0)) :: C.one (L.fn 42) :: []) ((Key.imp 0, Obj.slice SpanS xs) :: [])) K = K ((), (sortA xs, ())) := by
  simp only [callT, hT, p41]
  refine (callC_obj rfl).trans ?_
  show ((some (((), ((), ())), (xs, ())) : Option ap41.Pay).bind g41).bind K = _
  simp only [g41, short_iff.2 h, hok, Bool.and_self, if_true, Option.bind_some]
theorem c43 {T : Tab} (hT : T 43 = some p43) {R : Type} (K : rp43.Pay → Option R) (lo hi : Int) (out : List (Int × Int)) (h : out.length ≤ 100000) (hok : allOk out = true) :
    callC rp43 (callT T 43 (C.agg [L.v I64 lo, L.v I64 hi] :: C.one (L.box (Key.imp 0) 0) :: []) ((Key.imp 0, Obj.cells [L.sl (Key.fld (Key.imp 0) 0)]) :: (Key.fld (Key.imp 0) 0, Obj.slice SpanS out) :: [])) K = K ((), (((), ()), (addS out (lo, hi), ()))) := by
  simp only [callT, hT, p43]
  refine (callC_obj rfl).trans ?_
  show ((some (((lo, (hi, ())), ((), ())), (((), ()), (out, ()))) : Option ap43.Pay).bind g43).bind K = _
  simp only [g43, short_iff.2 h, hok, Bool.and_self, if_true, Option.bind_some]

theorem runL_fold {S B Acc : Type} (f : Acc → S → Acc) (fin : Acc → B) : ∀ (xs : List S) (i : Nat) (acc : Acc), runL (fun a s _ => .inl (f a s)) fin xs i acc = fin (xs.foldl f acc)
  | [], _, _ => rfl
  | s :: r, i, acc => by simp only [runL, List.foldl_cons]; exact runL_fold f fin r (i + 1) (f acc s)

theorem t20_run {T : Tab} (h40 : T 40 = some p40) (h41 : T 41 = some p41) (h43 : T 43 = some p43) (x : ap20.Pay) (y : rp20.Pay) (hy : g20 x = some y) : ∃ k, t20 (callT T) k x = some y := by
  obtain ⟨⟨xs, ⟨⟩⟩, ⟨⟩⟩ := x
  unfold g20 at hy
  simp only at hy
  split at hy
  case isFalse => cases hy
  rename_i hsh
  rw [Bool.and_eq_true] at hsh
  have hn := short_iff.1 hsh.1
  have hok := allOk_iff.1 hsh.2
  have hok2 : allOk (sortA xs) = true := allOk_iff.2 (sortA_ok xs hok)
  have hl2 := sortA_length xs
  refine ⟨xs.length + 1, ?_⟩
  unfold t20
  rw [c40 h40 _ xs hn, c41 h41 _ xs hn hsh.2, ← hy]
  refine (loopC_run (iter_list (sortA xs) (fun i out => (((), ((), ((), (((sortA xs).length : Int), ((i : Int), ()))))), (sortA xs, (((), ((), ())), (((), ()), (out, ())))))) (fun out s _ => .inl (addS out s)) (fun out => .inl (((), ()), (((), ()), (out, ())))) (fun i out => out.length ≤ i ∧ allOk out = true) ?_ ?_ (xs.length + 1) 0 [] (Nat.zero_le _) ⟨Nat.le_refl _, rfl⟩ (by omega)) _).trans ?_
  · intro i out s hi ⟨h1, h2⟩ hs
    have h3 : (i : Int) < ((sortA xs).length : Int) := by omega
    have hs' := allOk_iff.1 hok2 s (List.mem_of_getElem? hs)
    refine ⟨fun out' ho => ?_, fun b hb => by cases hb⟩
    cases ho
    refine ⟨?_, by have := addS_length out s; omega, allOk_iff.2 (addS_ok (allOk_iff.1 h2) hs')⟩
    simp only [brC_ite, h3, decide_true, if_true, guardC_ite, show (0 : Int) ≤ (i : Int) from by omega, and_self, eltC_nat (s := SpanS) hs, c43 h43 _ _ _ out (by omega) h2, w_succ (n := (sortA xs).length) (by omega) hi]
  · intro out _
    simp [brC_ite]
  · rw [List.drop_zero, runL_fold, sumC_inl]
    rfl

end Go.AI
