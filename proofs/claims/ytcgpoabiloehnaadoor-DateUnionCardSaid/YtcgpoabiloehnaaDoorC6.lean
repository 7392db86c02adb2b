/-
  Contracts of the specification: where something can begin; a span put behind others; its union and gaps.
-/
import Derived.Test.YtcgpoabiloehnaaDoorC5
set_option linter.unusedVariables false
namespace Go.AI
open Go

/-- a span put behind others, joined with the last one if they touch -/
def putL (l : List (Int × Int)) (s : Int × Int) : List (Int × Int) := match l[l.length - 1]? with
  | some t => if t.2 + 1 = s.1 then l.take (l.length - 1) ++ [(t.1, s.2)] else l ++ [s]
  | none => l ++ [s]
theorem putL_ok {l : List (Int × Int)} {s : Int × Int} (h : ∀ t ∈ l, okS t = true) (hs : okS s = true) : ∀ t ∈ putL l s, okS t = true := by
  unfold putL
  split
  · rename_i u hu
    have hu' := h u (List.mem_of_getElem? hu)
    split
    · intro t ht
      rcases List.mem_append.1 ht with ht | ht
      · exact h t (List.mem_of_mem_take ht)
      · rw [List.mem_singleton.1 ht]
        rw [okS_iff] at *
        simp only
        omega
    · intro t ht
      rcases List.mem_append.1 ht with ht | ht
      · exact h t ht
      · rw [List.mem_singleton.1 ht]; exact hs
  · intro t ht
    rcases List.mem_append.1 ht with ht | ht
    · exact h t ht
    · rw [List.mem_singleton.1 ht]; exact hs
theorem putL_length (l : List (Int × Int)) (s : Int × Int) : (putL l s).length ≤ l.length + 1 := by
  unfold putL
  split
  · split
    · simp
      try omega
    · simp
  · simp

def g25 (x : ap25.Pay) : Option rp25.Pay := if (short x.1.1.length && allOk x.1.1) = true then some (putL x.1.1 (x.1.2.1.1, x.1.2.1.2.1), ()) else none
def p25 := objC ap25 rp25 g25
theorem t25_run (call : Call) (k : Nat) (x : ap25.Pay) (y : rp25.Pay) (hy : g25 x = some y) : t25 call k x = some y := by
  obtain ⟨⟨l, ⟨lo, hi, ⟨⟩⟩, ⟨⟩⟩, ⟨⟩⟩ := x
  unfold g25 at hy
  simp only at hy
  split at hy
  case isFalse => cases hy
  rename_i hsh
  rw [Bool.and_eq_true] at hsh
  have hn := short_iff.1 hsh.1
  have hok := allOk_iff.1 hsh.2
  rw [← hy]
  unfold t25 putL
  have hw : w64 ((l.length : Int) - 1) = (l.length : Int) - 1 := w_id (by omega) (by omega)
  have r1 : (List.length ([] : List (Int × Int)) + List.length l) * 16 ≤ 140737488355328 := by simp; omega
  have r2 : (List.length (List.append ([] : List (Int × Int)) l) + List.length ((lo, hi) :: ([] : List (Int × Int)))) * 16 ≤ 140737488355328 := by simp; omega
  simp only [brC_ite, guardC_pos r1, guardC_pos r2, agreeC_same, decide_eq_true_eq, hw]
  by_cases h0 : (l.length : Int) > 0
  · rw [if_pos h0]
    have hlt : l.length - 1 < l.length := by omega
    have hl : l[l.length - 1]? = some (l[l.length - 1]'hlt) := List.getElem?_eq_getElem hlt
    generalize l[l.length - 1]'hlt = t at hl
    have he : ((l.length : Int) - 1) = ((l.length - 1 : Nat) : Int) := by omega
    have hlo := okS_iff.1 (hok t (List.mem_of_getElem? hl))
    have hg : (0 : Int) ≤ (l.length : Int) - 1 ∧ (l.length : Int) - 1 < (l.length : Int) := by omega
    have hg2 : (0 : Int) ≤ (0 : Int) ∧ (0 : Int) ≤ (l.length : Int) - 1 ∧ (l.length : Int) - 1 ≤ (l.length : Int) := by omega
    rw [guardC_pos hg, guardC_pos hg2, guardC_pos hg, he, eltC_nat hl, eltC_nat hl, w_id (by omega) (by omega), hl]
    simp only [beq_iff_eq, Int.toNat_natCast]
    have r3 : (List.length ([] : List (Int × Int)) + List.length (List.drop (Int.toNat (0 : Int)) (List.take (l.length - 1) l))) * 16 ≤ 140737488355328 := by simp; omega
    have r4 : (List.length (List.append ([] : List (Int × Int)) (List.drop (Int.toNat (0 : Int)) (List.take (l.length - 1) l))) + List.length ((t.1, hi) :: ([] : List (Int × Int)))) * 16 ≤ 140737488355328 := by simp; omega
    rw [guardC_pos r3, guardC_pos r4]
    by_cases h1 : t.2 + 1 = lo
    · rw [if_pos h1, if_pos h1, loopC_bind]
      simp
    · rw [if_neg h1, if_neg h1, loopC_bind]
      simp
  · rw [if_neg h0]
    have : l = [] := by
      cases l with
      | nil => rfl
      | cons _ _ => simp at h0
    subst this
    rw [loopC_bind]
    rfl

/-! ### where something can begin -/
def stepE (last : Int) (next : Int) (s : Int × Int) : Int :=
  let n1 := if s.1 > last then (if s.1 < next then s.1 else next) else next
  if s.2 + 1 > last then (if s.2 + 1 < n1 then s.2 + 1 else n1) else n1
/-- the next one -/
def nextE (l : List (Int × Int)) (last : Int) : Int := l.foldl (stepE last) 60002
def edF (l : List (Int × Int)) : Nat → Int → List Int
  | 0, _ => []
  | n + 1, last => if nextE l last = 60002 then [] else nextE l last :: edF l n (nextE l last)
def edgesL (l : List (Int × Int)) : List Int := edF l 60003 (-1)

theorem stepE_gt {last next : Int} {s : Int × Int} (h : next > last) : stepE last next s > last := by
  unfold stepE; simp only; split <;> split <;> (try split) <;> omega
theorem stepE_le {last next : Int} {s : Int × Int} : stepE last next s ≤ next := by
  unfold stepE; simp only; split <;> split <;> (try split) <;> omega
theorem fold_gt {last : Int} : ∀ {l : List (Int × Int)} {n : Int}, n > last → l.foldl (stepE last) n > last
  | [], _, h => h
  | s :: r, _, h => fold_gt (l := r) (stepE_gt h)
theorem fold_le {last : Int} : ∀ {l : List (Int × Int)} {n : Int}, l.foldl (stepE last) n ≤ n
  | [], _ => Int.le_refl _
  | s :: r, n => Int.le_trans (fold_le (l := r)) stepE_le
theorem nextE_gt {l : List (Int × Int)} {last : Int} (h : last < 60002) : nextE l last > last := fold_gt h
theorem nextE_le (l : List (Int × Int)) (last : Int) : nextE l last ≤ 60002 := fold_le

def g23 (x : ap23.Pay) : Option rp23.Pay := if (short x.1.1.length && allOk x.1.1) = true then some (edgesL x.1.1, ()) else none
def p23 := objC ap23 rp23 g23

theorem inner_run {A B : Type} {step : A → Option (A ⊕ B)} {l : List (Int × Int)} {mk : Nat → Int → A} {fin : Int → B} {last : Int} {k : Nat}
    (hs : ∀ i next s, i < l.length → l[i]? = some s → step (mk i next) = some (.inl (mk (i + 1) (stepE last next s)))) (he : ∀ next, step (mk l.length next) = some (.inr (fin next))) (hk : l.length < k) :
    iterC step k (mk 0 60002) = some (fin (nextE l last)) := by
  rw [iter_list l mk (fun n s _ => .inl (stepE last n s)) fin (fun _ _ => True) (fun i acc s hi _ h => ⟨fun acc' e => by cases e; exact ⟨hs i acc s hi h, trivial⟩, fun b e => by cases e⟩) (fun acc _ => he acc) k 0 60002 (Nat.zero_le _) trivial (by omega)]
  rw [runL_fold]
  rfl

theorem outer_run {A B : Type} {step : A → Option (A ⊕ B)} {l : List (Int × Int)} {mk : Int → List Int → A} {fin : List Int → B}
    (hs : ∀ last out, -1 ≤ last → last ≤ 60001 → (out.length : Int) ≤ last + 1 → step (mk last out) = if nextE l last = 60002 then some (.inr (fin out)) else some (.inl (mk (nextE l last) (out ++ [nextE l last])))) :
    ∀ (m k : Nat) (last : Int) (out : List Int), m < k → -1 ≤ last → last ≤ 60001 → (60002 - last).toNat ≤ m → (out.length : Int) ≤ last + 1 → iterC step k (mk last out) = some (fin (out ++ edF l m last))
  | 0, k, last, out, hk, h0, h1, h2, h3 => by omega
  | m + 1, 0, last, out, hk, h0, h1, h2, h3 => by omega
  | m + 1, k + 1, last, out, hk, h0, h1, h2, h3 => by
    have h := hs last out h0 h1 h3
    have hgt := nextE_gt (l := l) (last := last) (by omega)
    have hle := nextE_le l last
    by_cases hend : nextE l last = 60002
    · rw [if_pos hend] at h
      rw [iterC_inr h]
      simp [edF, hend]
    · rw [if_neg hend] at h
      rw [iterC_inl h, outer_run hs m k (nextE l last) (out ++ [nextE l last]) (by omega) (by omega) (by omega) (by omega) (by simp; omega)]
      simp [edF, hend]

theorem t23_run (call : Call) (x : ap23.Pay) (y : rp23.Pay) (hy : g23 x = some y) : ∃ k, t23 call k x = some y := by
  obtain ⟨⟨l, ⟨⟩⟩, ⟨⟩⟩ := x
  unfold g23 at hy
  simp only at hy
  split at hy
  case isFalse => cases hy
  rename_i hsh
  rw [Bool.and_eq_true] at hsh
  have hn := short_iff.1 hsh.1
  have hok := allOk_iff.1 hsh.2
  refine ⟨200000, ?_⟩
  unfold t23
  rw [← hy]
  generalize hK : (200000 : Nat) = K
  have hKl : l.length < K := by omega
  refine (loopC_run (outer_run (l := l) (mk := fun last out => ((l, ((), (last, ()))), (out, ()))) (fin := fun out => .inl (((), ()), (out, ()))) ?_ 60003 K (-1) [] (by omega) (by omega) (by omega) (by omega) (by simp)) _).trans ?_
  · intro last out h0 h1 h3
    refine (loopC_run (inner_run (l := l) (last := last) (k := K) (mk := fun i next => ((l, ((), (last, (next, ((i : Int), ()))))), (out, ()))) (fin := fun next => .inl ((l, ((), (next, ()))), (out, ()))) ?_ ?_ hKl) _).trans ?_
    · intro i next s hi hs
      have h3 : (i : Int) < (l.length : Int) := by omega
      have hs' := okS_iff.1 (hok s (List.mem_of_getElem? hs))
      have hw1 : w64 (s.2 + 1) = s.2 + 1 := w_id (by omega) (by omega)
      simp only [brC_ite, h3, decide_true, if_true, guardC_ite, show (0 : Int) ≤ (i : Int) from by omega, and_self, eltC_nat (s := SpanS) hs, w_succ (n := l.length) (by omega) hi, hw1, stepE, decide_eq_true_eq, cond_eq_ite]
      by_cases c1 : s.1 > last <;> by_cases c2 : s.2 + 1 > last <;> simp [c1, c2]
    · intro next
      simp [brC_ite]
    · have hroom : (List.length out + List.length (nextE l last :: ([] : List Int))) * 8 ≤ 140737488355328 := by simp; omega
      simp only [sumC_inl, brC_ite, beq_iff_eq, guardC_pos hroom]
      rfl
  · rw [sumC_inl]
    rfl

end Go.AI
