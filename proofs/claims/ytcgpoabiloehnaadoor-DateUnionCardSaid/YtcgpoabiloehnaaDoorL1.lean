/-
  The plain law of DateUnion: both ways to unite spans, and both ways to tell gaps, come to the same list: a list of spans that do not touch is told by its days.
-/
import Derived.Test.YtcgpoabiloehnaaDoorC7
set_option linter.unusedVariables false
namespace Go.AI
open Go

/-- has a list a day? -/
def memD (xs : List (Int × Int)) (d : Int) : Prop := ∃ s ∈ xs, s.1 ≤ d ∧ d ≤ s.2
theorem hasD_iff {xs : List (Int × Int)} {d : Int} : hasD xs d = true ↔ memD xs d := by simp [hasD, memD]
/-- spans in increasing order that do not touch -/
def Canon (xs : List (Int × Int)) : Prop := xs.Pairwise (fun a b => a.2 + 1 < b.1) ∧ ∀ s ∈ xs, s.1 ≤ s.2

theorem Canon.tail {s : Int × Int} {r : List (Int × Int)} (h : Canon (s :: r)) : Canon r ∧ s.1 ≤ s.2 ∧ ∀ t ∈ r, s.2 + 1 < t.1 :=
  ⟨⟨(List.pairwise_cons.1 h.1).2, fun t ht => h.2 t (List.mem_cons_of_mem _ ht)⟩, h.2 s List.mem_cons_self, (List.pairwise_cons.1 h.1).1⟩
theorem memD_cons {s : Int × Int} {r : List (Int × Int)} {d : Int} : memD (s :: r) d ↔ (s.1 ≤ d ∧ d ≤ s.2) ∨ memD r d := by simp [memD]
theorem memD_append {a b : List (Int × Int)} {d : Int} : memD (a ++ b) d ↔ memD a d ∨ memD b d := by
  simp only [memD, List.mem_append]
  constructor
  · rintro ⟨s, h | h, hd⟩
    · exact .inl ⟨s, h, hd⟩
    · exact .inr ⟨s, h, hd⟩
  · rintro (⟨s, h, hd⟩ | ⟨s, h, hd⟩)
    · exact ⟨s, .inl h, hd⟩
    · exact ⟨s, .inr h, hd⟩
theorem memD_one {s : Int × Int} {d : Int} : memD [s] d ↔ s.1 ≤ d ∧ d ≤ s.2 := by simp [memD]

/-- such a list is told by its days -/
theorem canon_eq : ∀ {a b : List (Int × Int)}, Canon a → Canon b → (∀ d, memD a d ↔ memD b d) → a = b
  | [], [], _, _, _ => rfl
  | [], s :: r, _, hb, h => by
    have := (h s.1).2 (memD_cons.2 (.inl ⟨Int.le_refl _, hb.tail.2.1⟩))
    obtain ⟨_, hm, _⟩ := this
    cases hm
  | s :: r, [], ha, _, h => by
    have := (h s.1).1 (memD_cons.2 (.inl ⟨Int.le_refl _, ha.tail.2.1⟩))
    obtain ⟨_, hm, _⟩ := this
    cases hm
  | s :: r, t :: q, ha, hb, h => by
    obtain ⟨ha1, ha2, ha3⟩ := ha.tail
    obtain ⟨hb1, hb2, hb3⟩ := hb.tail
    have lowA : ∀ d, memD (s :: r) d → s.1 ≤ d := fun d hd => by
      rcases memD_cons.1 hd with hd | ⟨x, hx, hd⟩
      · exact hd.1
      · have := ha3 x hx; omega
    have lowB : ∀ d, memD (t :: q) d → t.1 ≤ d := fun d hd => by
      rcases memD_cons.1 hd with hd | ⟨x, hx, hd⟩
      · exact hd.1
      · have := hb3 x hx; omega
    have e1 : s.1 = t.1 := by
      have h1 := lowB s.1 ((h s.1).1 (memD_cons.2 (.inl ⟨Int.le_refl _, ha2⟩)))
      have h2 := lowA t.1 ((h t.1).2 (memD_cons.2 (.inl ⟨Int.le_refl _, hb2⟩)))
      omega
    have e2 : s.2 = t.2 := by
      apply Classical.byContradiction
      intro hne
      by_cases hlt : s.2 < t.2
      · have h1 := (h (s.2 + 1)).2 (memD_cons.2 (.inl ⟨by omega, by omega⟩))
        rcases memD_cons.1 h1 with h1 | ⟨x, hx, h1⟩
        · omega
        · have := ha3 x hx; omega
      · have h1 := (h (t.2 + 1)).1 (memD_cons.2 (.inl ⟨by omega, by omega⟩))
        rcases memD_cons.1 h1 with h1 | ⟨x, hx, h1⟩
        · omega
        · have := hb3 x hx; omega
    have est : s = t := Prod.ext e1 e2
    subst est
    congr 1
    refine canon_eq ha1 hb1 fun d => ⟨fun hd => ?_, fun hd => ?_⟩
    · rcases memD_cons.1 ((h d).1 (memD_cons.2 (.inr hd))) with h1 | h1
      · obtain ⟨x, hx, h2⟩ := hd
        have := ha3 x hx; omega
      · exact h1
    · rcases memD_cons.1 ((h d).2 (memD_cons.2 (.inr hd))) with h1 | h1
      · obtain ⟨x, hx, h2⟩ := hd
        have := hb3 x hx; omega
      · exact h1

theorem Canon.snoc {a : List (Int × Int)} {s : Int × Int} (h : Canon a) (hs : s.1 ≤ s.2) (hl : ∀ t ∈ a, t.2 + 1 < s.1) : Canon (a ++ [s]) :=
  ⟨List.pairwise_append.2 ⟨h.1, List.pairwise_singleton _ _, fun t ht u hu => by rw [List.mem_singleton.1 hu]; exact hl t ht⟩, fun t ht => by
    rcases List.mem_append.1 ht with ht | ht
    · exact h.2 t ht
    · rw [List.mem_singleton.1 ht]; exact hs⟩
theorem Canon.init {a : List (Int × Int)} {s : Int × Int} (h : Canon (a ++ [s])) : Canon a ∧ s.1 ≤ s.2 ∧ ∀ t ∈ a, t.2 + 1 < s.1 := by
  obtain ⟨h1, h2⟩ := h
  obtain ⟨h3, _, h4⟩ := List.pairwise_append.1 h1
  exact ⟨⟨h3, fun t ht => h2 t (List.mem_append_left _ ht)⟩, h2 s (List.mem_append_right _ (List.mem_singleton.2 rfl)), fun t ht => h4 t ht s (List.mem_singleton.2 rfl)⟩

theorem snoc_cases {α : Type} (a : List α) : a = [] ∨ ∃ i l, a = i ++ [l] := by
  rcases List.eq_nil_or_concat a with h | ⟨i, l, h⟩
  · exact .inl h
  · exact .inr ⟨i, l, by rw [h, List.concat_eq_append]⟩
theorem last_of {α : Type} (i : List α) (l : α) : (i ++ [l])[(i ++ [l]).length - 1]? = some l := by simp

theorem addS_nil (s : Int × Int) : addS [] s = [s] := rfl
theorem addS_snoc (i : List (Int × Int)) (l s : Int × Int) : addS (i ++ [l]) s = if s.1 ≤ l.2 + 1 then i ++ [(l.1, if s.2 > l.2 then s.2 else l.2)] else i ++ [l] ++ [s] := by
  unfold addS
  rw [last_of]
  simp only
  split
  · have : (i ++ [l]).length - 1 = i.length := by simp
    rw [this, List.set_append_right _ _ (Nat.le_refl _)]
    simp
  · rfl
theorem putL_nil (s : Int × Int) : putL [] s = [s] := rfl
theorem putL_snoc (i : List (Int × Int)) (l s : Int × Int) : putL (i ++ [l]) s = if l.2 + 1 = s.1 then i ++ [(l.1, s.2)] else i ++ [l] ++ [s] := by
  unfold putL
  rw [last_of]
  simp only
  split
  · have : (i ++ [l]).length - 1 = i.length := by simp
    rw [this, List.take_left' rfl]
  · rfl

/-! ### uniting -/
theorem addS_canon {out : List (Int × Int)} {s : Int × Int} (h : Canon out) (hs : s.1 ≤ s.2) (hl : ∀ t ∈ out, t.1 ≤ s.1) :
    Canon (addS out s) ∧ (∀ d, memD (addS out s) d ↔ memD out d ∨ (s.1 ≤ d ∧ d ≤ s.2)) ∧ ∀ t ∈ addS out s, t.1 ≤ s.1 := by
  rcases snoc_cases out with rfl | ⟨i, l, rfl⟩
  · rw [addS_nil]
    refine ⟨⟨List.pairwise_singleton _ _, fun t ht => by rw [List.mem_singleton.1 ht]; exact hs⟩, fun d => ?_, fun t ht => by rw [List.mem_singleton.1 ht]; exact Int.le_refl _⟩
    rw [memD_one]
    simp [memD]
  · obtain ⟨h1, h2, h3⟩ := h.init
    have hl1 := hl l (List.mem_append_right _ (List.mem_singleton.2 rfl))
    rw [addS_snoc]
    split
    · rename_i hc
      have hm : l.2 ≤ (if s.2 > l.2 then s.2 else l.2) ∧ s.2 ≤ (if s.2 > l.2 then s.2 else l.2) ∧ ((if s.2 > l.2 then s.2 else l.2) = s.2 ∨ (if s.2 > l.2 then s.2 else l.2) = l.2) := by split <;> omega
      generalize (if s.2 > l.2 then s.2 else l.2) = m at hm
      refine ⟨h1.snoc (by simp only; omega) h3, fun d => ?_, fun t ht => ?_⟩
      · rw [memD_append, memD_append, memD_one, memD_one]
        simp only
        constructor
        · rintro (h | h)
          · exact .inl (.inl h)
          · by_cases hd : d ≤ l.2
            · exact .inl (.inr ⟨h.1, hd⟩)
            · exact .inr (by omega)
        · rintro ((h | h) | h)
          · exact .inl h
          · exact .inr (by omega)
          · exact .inr (by omega)
      · rcases List.mem_append.1 ht with ht | ht
        · exact hl t (List.mem_append_left _ ht)
        · rw [List.mem_singleton.1 ht]; exact hl1
    · rename_i hc
      refine ⟨h.snoc hs (fun t ht => ?_), fun d => ?_, fun t ht => ?_⟩
      · rcases List.mem_append.1 ht with ht | ht
        · have := h3 t ht; omega
        · rw [List.mem_singleton.1 ht]; omega
      · rw [memD_append (a := i ++ [l]), memD_one]
      · rcases List.mem_append.1 ht with ht | ht
        · exact hl t ht
        · rw [List.mem_singleton.1 ht]; exact Int.le_refl _

theorem addS_fold : ∀ {xs out : List (Int × Int)}, Canon out → (∀ s ∈ xs, s.1 ≤ s.2) → xs.Pairwise (fun a b => a.1 ≤ b.1) → (∀ t ∈ out, ∀ s ∈ xs, t.1 ≤ s.1) →
    Canon (xs.foldl addS out) ∧ ∀ d, memD (xs.foldl addS out) d ↔ memD out d ∨ memD xs d
  | [], out, h, _, _, _ => ⟨h, fun d => by simp [memD]⟩
  | s :: r, out, h, hs, hp, hl => by
    obtain ⟨hp1, hp2⟩ := List.pairwise_cons.1 hp
    obtain ⟨h1, h2, h3⟩ := addS_canon h (hs s List.mem_cons_self) (fun t ht => hl t ht s List.mem_cons_self)
    obtain ⟨h4, h5⟩ := addS_fold (xs := r) h1 (fun t ht => hs t (List.mem_cons_of_mem _ ht)) hp2 (fun t ht u hu => by have := h3 t ht; have := hp1 u hu; omega)
    refine ⟨h4, fun d => ?_⟩
    rw [List.foldl_cons, h5, h2, memD_cons, or_assoc]
theorem unitedL_canon {xs : List (Int × Int)} (h : allOk xs = true) : Canon (unitedL xs) ∧ ∀ d, memD (unitedL xs) d ↔ memD xs d := by
  have hok := allOk_iff.1 h
  obtain ⟨h1, h2⟩ := addS_fold (xs := sortA xs) (out := []) ⟨List.Pairwise.nil, fun s hs => by cases hs⟩ (fun s hs => (okS_iff.1 (sortA_ok xs hok s hs)).2.1) (sortA_sorted xs hok) (fun t ht => by cases ht)
  refine ⟨h1, fun d => (h2 d).trans ?_⟩
  constructor
  · rintro (⟨s, hs, _⟩ | ⟨s, hs, hd⟩)
    · cases hs
    · exact ⟨s, (sortA_perm xs).mem_iff.1 hs, hd⟩
  · rintro ⟨s, hs, hd⟩
    exact .inr ⟨s, (sortA_perm xs).mem_iff.2 hs, hd⟩

/-! ### what is left of a span -/
structure RestI (s : Int × Int) (P : List (Int × Int)) (acc : Int × List (Int × Int)) : Prop where
  lo : s.1 ≤ acc.1
  canon : Canon acc.2
  gap : ∀ t ∈ acc.2, t.2 + 1 < acc.1
  days : ∀ d, memD acc.2 d ↔ s.1 ≤ d ∧ d < acc.1 ∧ d ≤ s.2 ∧ ¬ memD P d
  past : ∀ p ∈ P, p.2 < acc.1 ∨ p.1 > s.2
  src : acc.1 = s.1 ∨ ∃ p ∈ P, acc.1 = p.2 + 1
theorem restF_step {s x : Int × Int} {P : List (Int × Int)} {acc : Int × List (Int × Int)} (h : RestI s P acc) (hx : x.1 ≤ x.2) (hP : ∀ p ∈ P, p.2 + 1 < x.1) : RestI s (P ++ [x]) (restF s acc x) := by
  obtain ⟨lo, out⟩ := acc
  have key : ∀ d, s.1 ≤ d → d < lo → ¬ (x.1 ≤ d ∧ d ≤ x.2) := fun d h1 h2 h3 => by
    rcases h.src with e | ⟨p, hp, e⟩
    · simp only at e; omega
    · have := hP p hp; simp only at e; omega
  have hnp : ∀ d, lo ≤ d → d ≤ s.2 → ¬ memD P d := fun d h1 h2 ⟨p, hp, h3⟩ => by
    rcases h.past p hp with h4 | h4
    · simp only at h4; omega
    · omega
  have hsnoc : ∀ d, memD (P ++ [x]) d ↔ memD P d ∨ (x.1 ≤ d ∧ d ≤ x.2) := fun d => by rw [memD_append, memD_one]
  have hlo := h.lo
  simp only at hlo
  unfold restF
  simp only
  split
  · rename_i c1
    refine ⟨h.lo, h.canon, h.gap, fun d => ?_, fun p hp => ?_, h.src.imp id fun ⟨p, hp, e⟩ => ⟨p, List.mem_append_left _ hp, e⟩⟩
    · rw [h.days, hsnoc]
      constructor
      · rintro ⟨h1, h2, h3, h4⟩
        exact ⟨h1, h2, h3, fun h5 => h5.elim h4 (key d h1 h2)⟩
      · rintro ⟨h1, h2, h3, h4⟩
        exact ⟨h1, h2, h3, fun h5 => h4 (.inl h5)⟩
    · rcases List.mem_append.1 hp with hp | hp
      · exact h.past p hp
      · rw [List.mem_singleton.1 hp]; exact .inl c1
  · rename_i c1
    split
    · rename_i c2
      refine ⟨h.lo, h.canon, h.gap, fun d => ?_, fun p hp => ?_, h.src.imp id fun ⟨p, hp, e⟩ => ⟨p, List.mem_append_left _ hp, e⟩⟩
      · rw [h.days, hsnoc]
        constructor
        · rintro ⟨h1, h2, h3, h4⟩
          exact ⟨h1, h2, h3, fun h5 => h5.elim h4 (key d h1 h2)⟩
        · rintro ⟨h1, h2, h3, h4⟩
          exact ⟨h1, h2, h3, fun h5 => h4 (.inl h5)⟩
      · rcases List.mem_append.1 hp with hp | hp
        · exact h.past p hp
        · rw [List.mem_singleton.1 hp]; exact .inr c2
    · rename_i c2
      have past' : ∀ p ∈ P ++ [x], p.2 < x.2 + 1 ∨ p.1 > s.2 := fun p hp => by
        rcases List.mem_append.1 hp with hp | hp
        · have := hP p hp; exact .inl (by omega)
        · rw [List.mem_singleton.1 hp]; exact .inl (by omega)
      split
      · rename_i c3
        refine ⟨by simp only; omega, h.canon.snoc (by simp only; omega) h.gap, fun t ht => ?_, fun d => ?_, past', .inr ⟨x, List.mem_append_right _ (List.mem_singleton.2 rfl), rfl⟩⟩
        · rcases List.mem_append.1 ht with ht | ht
          · have := h.gap t ht; simp only at this ⊢; omega
          · rw [List.mem_singleton.1 ht]; simp only; omega
        · rw [memD_append, memD_one, h.days, hsnoc]
          simp only
          constructor
          · rintro (⟨h1, h2, h3, h4⟩ | h1)
            · exact ⟨h1, by omega, h3, fun h5 => h5.elim h4 (key d h1 h2)⟩
            · exact ⟨by omega, by omega, by omega, fun h5 => h5.elim (hnp d (by omega) (by omega)) (by omega)⟩
          · rintro ⟨h1, h2, h3, h4⟩
            by_cases hd : d < lo
            · exact .inl ⟨h1, hd, h3, fun h5 => h4 (.inl h5)⟩
            · refine .inr ⟨by omega, ?_⟩
              apply Classical.byContradiction
              intro hn
              exact h4 (.inr ⟨by omega, by omega⟩)
      · rename_i c3
        refine ⟨by simp only; omega, h.canon, fun t ht => ?_, fun d => ?_, past', .inr ⟨x, List.mem_append_right _ (List.mem_singleton.2 rfl), rfl⟩⟩
        · have := h.gap t ht; simp only at this ⊢; omega
        · rw [h.days, hsnoc]
          simp only
          constructor
          · rintro ⟨h1, h2, h3, h4⟩
            exact ⟨h1, by omega, h3, fun h5 => h5.elim h4 (key d h1 h2)⟩
          · rintro ⟨h1, h2, h3, h4⟩
            refine ⟨h1, ?_, h3, fun h5 => h4 (.inl h5)⟩
            apply Classical.byContradiction
            intro hn
            exact h4 (.inr ⟨by omega, by omega⟩)
theorem restF_fold {s : Int × Int} : ∀ {Q P : List (Int × Int)} {acc : Int × List (Int × Int)}, RestI s P acc → Canon Q → (∀ p ∈ P, ∀ q ∈ Q, p.2 + 1 < q.1) → RestI s (P ++ Q) (Q.foldl (restF s) acc)
  | [], P, acc, h, _, _ => by simpa using h
  | x :: Q, P, acc, h, hQ, hPQ => by
    obtain ⟨h1, h2, h3⟩ := hQ.tail
    have := restF_fold (Q := Q) (P := P ++ [x]) (restF_step h h2 (fun p hp => hPQ p hp x List.mem_cons_self)) h1 (fun p hp q hq => by
      rcases List.mem_append.1 hp with hp | hp
      · exact hPQ p hp q (List.mem_cons_of_mem _ hq)
      · rw [List.mem_singleton.1 hp]; exact h3 q hq)
    simpa using this
theorem restL_canon {s : Int × Int} {U : List (Int × Int)} (hU : Canon U) (hs : s.1 ≤ s.2) : Canon (restL s U) ∧ ∀ d, memD (restL s U) d ↔ (s.1 ≤ d ∧ d ≤ s.2) ∧ ¬ memD U d := by
  have h0 : RestI s [] (s.1, []) := ⟨Int.le_refl _, ⟨List.Pairwise.nil, fun t ht => by cases ht⟩, fun t ht => (by cases ht), fun d => ⟨fun ⟨t, ht, _⟩ => (by cases ht), fun h => by simp only at h; omega⟩, fun p hp => (by cases hp), .inl rfl⟩
  have h := restF_fold (Q := U) h0 hU (fun p hp => by cases hp)
  rw [List.nil_append] at h
  unfold restL restEnd
  generalize U.foldl (restF s) (s.1, []) = acc at h
  have hnp : ∀ d, acc.1 ≤ d → d ≤ s.2 → ¬ memD U d := fun d h1 h2 ⟨p, hp, h3⟩ => by
    rcases h.past p hp with h4 | h4 <;> omega
  have hlo := h.lo
  split
  · rename_i hc
    refine ⟨h.canon.snoc hc h.gap, fun d => ?_⟩
    rw [memD_append, memD_one, h.days]
    simp only
    constructor
    · rintro (⟨h1, h2, h3, h4⟩ | h1)
      · exact ⟨⟨h1, h3⟩, h4⟩
      · exact ⟨⟨by omega, h1.2⟩, hnp d h1.1 h1.2⟩
    · rintro ⟨⟨h1, h2⟩, h3⟩
      by_cases hd : d < acc.1
      · exact .inl ⟨h1, hd, h2, h3⟩
      · exact .inr ⟨by omega, h2⟩
  · rename_i hc
    refine ⟨h.canon, fun d => ?_⟩
    rw [h.days]
    constructor
    · rintro ⟨h1, h2, h3, h4⟩
      exact ⟨⟨h1, h3⟩, h4⟩
    · rintro ⟨⟨h1, h2⟩, h3⟩
      exact ⟨h1, by omega, h2, h3⟩

end Go.AI
