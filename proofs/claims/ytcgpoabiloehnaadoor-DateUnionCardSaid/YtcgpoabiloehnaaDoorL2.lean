/-
  The plain law of DateUnion, whole: the specification's ways.
-/
import Derived.Test.YtcgpoabiloehnaaDoorL1
set_option linter.unusedVariables false
namespace Go.AI
open Go

/-! ### the places at which something can begin -/
theorem stepE_self {last next : Int} {s : Int × Int} : (s.1 > last → stepE last next s ≤ s.1) ∧ (s.2 + 1 > last → stepE last next s ≤ s.2 + 1) := by
  unfold stepE
  simp only
  constructor <;> intro h <;> split <;> (try split) <;> (try split) <;> omega
theorem fold_le_mem {last : Int} {s : Int × Int} : ∀ {l : List (Int × Int)} {n : Int}, s ∈ l → (s.1 > last → l.foldl (stepE last) n ≤ s.1) ∧ (s.2 + 1 > last → l.foldl (stepE last) n ≤ s.2 + 1)
  | [], _, h => by cases h
  | t :: r, n, h => by
    rw [List.foldl_cons]
    rcases List.mem_cons.1 h with rfl | h
    · exact ⟨fun h1 => Int.le_trans fold_le (stepE_self.1 h1), fun h1 => Int.le_trans fold_le (stepE_self.2 h1)⟩
    · exact fold_le_mem h
/-- a place at which something begins or has ended -/
def isEdge (l : List (Int × Int)) (v : Int) : Prop := ∃ s ∈ l, v = s.1 ∨ v = s.2 + 1
theorem nextE_edge {l : List (Int × Int)} {last v : Int} (h : isEdge l v) (hv : v > last) : nextE l last ≤ v := by
  obtain ⟨s, hs, rfl | rfl⟩ := h
  · exact (fold_le_mem hs).1 hv
  · exact (fold_le_mem hs).2 hv
theorem edF_mem {l : List (Int × Int)} {v : Int} (h : isEdge l v) (h1 : v ≤ 60001) : ∀ (n : Nat) (last : Int), v > last → (60002 - last).toNat ≤ n → v ∈ edF l n last
  | 0, last, hv, hn => by omega
  | n + 1, last, hv, hn => by
    have hle := nextE_edge h hv
    have hgt := nextE_gt (l := l) (last := last) (by omega)
    unfold edF
    rw [if_neg (by omega)]
    by_cases he : v = nextE l last
    · exact List.mem_cons.2 (.inl he)
    · exact List.mem_cons.2 (.inr (edF_mem h h1 n (nextE l last) (by omega) (by omega)))
theorem edgesL_mem {l : List (Int × Int)} (hok : allOk l = true) {s : Int × Int} (hs : s ∈ l) : s.1 ∈ edgesL l ∧ s.2 + 1 ∈ edgesL l := by
  have h := okS_iff.1 (allOk_iff.1 hok s hs)
  exact ⟨edF_mem ⟨s, hs, .inl rfl⟩ (by omega) _ _ (by omega) (by omega), edF_mem ⟨s, hs, .inr rfl⟩ (by omega) _ _ (by omega) (by omega)⟩

/-! ### neighbours in an increasing list -/
theorem pairsE_cons (a b : Int) (r : List Int) : pairsE (a :: b :: r) = (a, b) :: pairsE (b :: r) := rfl
theorem pairsE_lt : ∀ {E : List Int}, E.Pairwise (· < ·) → ∀ p ∈ pairsE E, p.1 < p.2 ∧ p.1 ∈ E ∧ p.2 ∈ E ∧ ∀ x ∈ E, x ≤ p.1 ∨ p.2 ≤ x
  | [], _, p, hp => by cases hp
  | [a], _, p, hp => by cases hp
  | a :: b :: r, h, p, hp => by
    obtain ⟨h1, h2⟩ := List.pairwise_cons.1 h
    rw [pairsE_cons] at hp
    rcases List.mem_cons.1 hp with rfl | hp
    · refine ⟨h1 b List.mem_cons_self, List.mem_cons_self, List.mem_cons_of_mem _ List.mem_cons_self, fun x hx => ?_⟩
      rcases List.mem_cons.1 hx with rfl | hx
      · exact .inl (Int.le_refl _)
      · rcases List.mem_cons.1 hx with rfl | hx
        · exact .inr (Int.le_refl _)
        · have := (List.pairwise_cons.1 h2).1 x hx; exact .inr (by simp only; omega)
    · obtain ⟨h3, h4, h5, h6⟩ := pairsE_lt h2 p hp
      refine ⟨h3, List.mem_cons_of_mem _ h4, List.mem_cons_of_mem _ h5, fun x hx => ?_⟩
      rcases List.mem_cons.1 hx with rfl | hx
      · have := h1 p.1 h4; exact .inl (by omega)
      · exact h6 x hx
theorem pairsE_find : ∀ {E : List Int} {d lo hi : Int}, E.Pairwise (· < ·) → lo ∈ E → hi ∈ E → lo ≤ d → d < hi → ∃ p ∈ pairsE E, p.1 ≤ d ∧ d < p.2
  | [], _, _, _, _, h, _, _, _ => by cases h
  | [a], d, lo, hi, _, h1, h2, h3, h4 => by
    rw [List.mem_singleton.1 h1] at h3
    rw [List.mem_singleton.1 h2] at h4
    omega
  | a :: b :: r, d, lo, hi, h, h1, h2, h3, h4 => by
    obtain ⟨h5, h6⟩ := List.pairwise_cons.1 h
    rw [pairsE_cons]
    by_cases hb : d < b
    · have ha : a ≤ d := by
        rcases List.mem_cons.1 h1 with rfl | h1
        · exact h3
        · have := h5 lo h1; omega
      exact ⟨(a, b), List.mem_cons_self, ha, hb⟩
    · have h2' : hi ∈ b :: r := by
        rcases List.mem_cons.1 h2 with rfl | h2
        · have := h5 b List.mem_cons_self; omega
        · exact h2
      obtain ⟨p, hp, h7⟩ := pairsE_find h6 (lo := b) List.mem_cons_self h2' (by omega) h4
      exact ⟨p, List.mem_cons_of_mem _ hp, h7⟩

/-! ### putting neighbours together -/
theorem putL_canon {out : List (Int × Int)} {s : Int × Int} (h : Canon out) (hs : s.1 ≤ s.2) (hl : ∀ t ∈ out, t.2 + 1 ≤ s.1) :
    Canon (putL out s) ∧ (∀ d, memD (putL out s) d ↔ memD out d ∨ (s.1 ≤ d ∧ d ≤ s.2)) ∧ ∀ t ∈ putL out s, t.2 ≤ s.2 := by
  rcases snoc_cases out with rfl | ⟨i, l, rfl⟩
  · rw [putL_nil]
    refine ⟨⟨List.pairwise_singleton _ _, fun t ht => by rw [List.mem_singleton.1 ht]; exact hs⟩, fun d => ?_, fun t ht => by rw [List.mem_singleton.1 ht]; exact Int.le_refl _⟩
    rw [memD_one]
    simp [memD]
  · obtain ⟨h1, h2, h3⟩ := h.init
    have hl1 := hl l (List.mem_append_right _ (List.mem_singleton.2 rfl))
    rw [putL_snoc]
    split
    · rename_i hc
      refine ⟨h1.snoc (by simp only; omega) h3, fun d => ?_, fun t ht => ?_⟩
      · rw [memD_append, memD_append, memD_one, memD_one]
        simp only
        constructor
        · rintro (h | h)
          · exact .inl (.inl h)
          · by_cases hd : d ≤ l.2
            · exact .inl (.inr ⟨h.1, hd⟩)
            · exact .inr (by omega)
        · rintro ((h | h) | h)
          · exact .inl h
          · exact .inr (by omega)
          · exact .inr (by omega)
      · rcases List.mem_append.1 ht with ht | ht
        · have := h3 t ht; omega
        · rw [List.mem_singleton.1 ht]; exact Int.le_refl _
    · rename_i hc
      refine ⟨h.snoc hs (fun t ht => ?_), fun d => ?_, fun t ht => ?_⟩
      · rcases List.mem_append.1 ht with ht | ht
        · have := h3 t ht; omega
        · rw [List.mem_singleton.1 ht]; omega
      · rw [memD_append (a := i ++ [l]), memD_one]
      · rcases List.mem_append.1 ht with ht | ht
        · have := hl t ht; omega
        · rw [List.mem_singleton.1 ht]; exact Int.le_refl _

theorem put_fold (q : Int → Bool) : ∀ {E : List Int} {out : List (Int × Int)}, E.Pairwise (· < ·) → Canon out → (∀ t ∈ out, ∀ e ∈ E, t.2 + 1 ≤ e) →
    Canon ((pairsE E).foldl (fun out p => if q p.1 = true then putL out (p.1, p.2 - 1) else out) out) ∧
    ∀ d, memD ((pairsE E).foldl (fun out p => if q p.1 = true then putL out (p.1, p.2 - 1) else out) out) d ↔ memD out d ∨ ∃ p ∈ pairsE E, q p.1 = true ∧ p.1 ≤ d ∧ d < p.2
  | [], out, _, h, _ => ⟨h, fun d => by simp [pairsE]⟩
  | [a], out, _, h, _ => ⟨h, fun d => by simp [pairsE]⟩
  | a :: b :: r, out, hE, h, hl => by
    obtain ⟨h5, h6⟩ := List.pairwise_cons.1 hE
    have hab := h5 b List.mem_cons_self
    rw [pairsE_cons, List.foldl_cons]
    simp only
    have step : ∀ out', Canon out' → (∀ t ∈ out', t.2 + 1 ≤ b) → (∀ d, memD out' d ↔ memD out d ∨ (q a = true ∧ a ≤ d ∧ d < b)) →
        Canon ((pairsE (b :: r)).foldl (fun out p => if q p.1 = true then putL out (p.1, p.2 - 1) else out) out') ∧
        ∀ d, memD ((pairsE (b :: r)).foldl (fun out p => if q p.1 = true then putL out (p.1, p.2 - 1) else out) out') d ↔ memD out d ∨ ∃ p ∈ (a, b) :: pairsE (b :: r), q p.1 = true ∧ p.1 ≤ d ∧ d < p.2 := by
      intro out' h1 h2 h3
      obtain ⟨h7, h8⟩ := put_fold q (E := b :: r) (out := out') h6 h1 (fun t ht e he => by
        have := h2 t ht
        rcases List.mem_cons.1 he with rfl | he
        · exact this
        · have := (List.pairwise_cons.1 h6).1 e he; omega)
      refine ⟨h7, fun d => ?_⟩
      rw [h8, h3, or_assoc]
      simp only [List.mem_cons, exists_eq_or_imp]
    by_cases hq : q a = true
    · rw [if_pos hq]
      obtain ⟨h1, h2, h3⟩ := putL_canon (s := (a, b - 1)) h (by simp only; omega) (fun t ht => hl t ht a List.mem_cons_self)
      refine step _ h1 (fun t ht => by have := h3 t ht; simp only at this; omega) (fun d => ?_)
      rw [h2]
      simp only [hq, true_and]
      constructor
      · rintro (h | h)
        · exact .inl h
        · exact .inr (by omega)
      · rintro (h | h)
        · exact .inl h
        · exact .inr (by omega)
    · rw [if_neg hq]
      refine step _ h (fun t ht => hl t ht b (List.mem_cons_of_mem _ List.mem_cons_self)) (fun d => ?_)
      simp [hq]

/-- between neighbours nothing begins and nothing ends -/
theorem same_between {E : List Int} (hE : E.Pairwise (· < ·)) {t : Int × Int} (h1 : t.1 ∈ E) (h2 : t.2 + 1 ∈ E) {p : Int × Int} (hp : p ∈ pairsE E) {d : Int} (hd : p.1 ≤ d ∧ d < p.2) :
    (t.1 ≤ p.1 ∧ p.1 ≤ t.2) ↔ (t.1 ≤ d ∧ d ≤ t.2) := by
  obtain ⟨_, _, _, h⟩ := pairsE_lt hE p hp
  have h3 := h _ h1
  have h4 := h _ h2
  constructor <;> intro h5 <;> omega

theorem refUnionL_canon {l : List (Int × Int)} (hok : allOk l = true) : Canon (refUnionL l) ∧ ∀ d, memD (refUnionL l) d ↔ memD l d := by
  have hE := (edgesL_inc l).1
  obtain ⟨h1, h2⟩ := put_fold (hasD l) (E := edgesL l) (out := []) hE ⟨List.Pairwise.nil, fun s hs => by cases hs⟩ (fun t ht => by cases ht)
  refine ⟨h1, fun d => (h2 d).trans ?_⟩
  constructor
  · rintro (⟨s, hs, _⟩ | ⟨p, hp, hq, hd⟩)
    · cases hs
    · obtain ⟨t, ht, hpt⟩ := hasD_iff.1 hq
      obtain ⟨h3, h4⟩ := edgesL_mem hok ht
      exact ⟨t, ht, (same_between hE h3 h4 hp hd).1 hpt⟩
  · rintro ⟨t, ht, hd⟩
    obtain ⟨h3, h4⟩ := edgesL_mem hok ht
    obtain ⟨p, hp, h5⟩ := pairsE_find hE h3 h4 hd.1 (by omega)
    exact .inr ⟨p, hp, hasD_iff.2 ⟨t, ht, (same_between hE h3 h4 hp h5).2 hd⟩, h5⟩
theorem union_eq {l : List (Int × Int)} (hok : allOk l = true) : unitedL l = refUnionL l := by
  obtain ⟨h1, h2⟩ := unitedL_canon hok
  obtain ⟨h3, h4⟩ := refUnionL_canon hok
  exact canon_eq h1 h3 fun d => (h2 d).trans (h4 d).symm

theorem refGapsL_canon {s : Int × Int} {l : List (Int × Int)} (hok : allOk l = true) (hs : okS s = true) : Canon (refGapsL s l) ∧ ∀ d, memD (refGapsL s l) d ↔ (s.1 ≤ d ∧ d ≤ s.2) ∧ ¬ memD l d := by
  have hall : allOk (l ++ [s]) = true := by
    rw [allOk_iff]
    intro t ht
    rcases List.mem_append.1 ht with ht | ht
    · exact allOk_iff.1 hok t ht
    · rw [List.mem_singleton.1 ht]; exact hs
  have hE := (edgesL_inc (l ++ [s])).1
  obtain ⟨h1, h2⟩ := put_fold (fun e => !hasD l e && decide (s.1 ≤ e) && decide (e ≤ s.2)) (E := edgesL (l ++ [s])) (out := []) hE ⟨List.Pairwise.nil, fun s hs => by cases hs⟩ (fun t ht => by cases ht)
  obtain ⟨hs1, hs2⟩ := edgesL_mem hall (List.mem_append_right l (List.mem_singleton.2 rfl))
  refine ⟨h1, fun d => (h2 d).trans ?_⟩
  have hmem : ∀ p ∈ pairsE (edgesL (l ++ [s])), (p.1 ≤ d ∧ d < p.2) → (memD l p.1 ↔ memD l d) := fun p hp hd => by
    constructor
    · rintro ⟨t, ht, hpt⟩
      obtain ⟨h3, h4⟩ := edgesL_mem hall (List.mem_append_left _ ht)
      exact ⟨t, ht, (same_between hE h3 h4 hp hd).1 hpt⟩
    · rintro ⟨t, ht, hpt⟩
      obtain ⟨h3, h4⟩ := edgesL_mem hall (List.mem_append_left _ ht)
      exact ⟨t, ht, (same_between hE h3 h4 hp hd).2 hpt⟩
  constructor
  · rintro (⟨s, hs, _⟩ | ⟨p, hp, hq, hd⟩)
    · cases hs
    · simp only [Bool.and_eq_true, Bool.not_eq_true', decide_eq_true_eq] at hq
      refine ⟨(same_between hE hs1 hs2 hp hd).1 ⟨hq.1.2, hq.2⟩, fun hm => ?_⟩
      have := hasD_iff.2 ((hmem p hp hd).2 hm)
      rw [hq.1.1] at this
      cases this
  · rintro ⟨hd, hn⟩
    obtain ⟨p, hp, h5⟩ := pairsE_find hE hs1 hs2 hd.1 (by omega)
    obtain ⟨h6, h7⟩ := (same_between hE hs1 hs2 hp h5).2 hd
    refine .inr ⟨p, hp, ?_, h5⟩
    simp only [Bool.and_eq_true, Bool.not_eq_true', decide_eq_true_eq]
    refine ⟨⟨?_, h6⟩, h7⟩
    cases hh : hasD l p.1 with
    | false => rfl
    | true => exact absurd ((hmem p hp h5).1 (hasD_iff.1 hh)) hn
theorem gaps_eq {s : Int × Int} {l : List (Int × Int)} (hok : allOk l = true) (hs : okS s = true) : restL s (unitedL l) = refGapsL s l := by
  obtain ⟨h1, h2⟩ := unitedL_canon hok
  obtain ⟨h3, h4⟩ := restL_canon h1 (okS_iff.1 hs).2.1
  obtain ⟨h5, h6⟩ := refGapsL_canon hok hs
  refine canon_eq h3 h5 fun d => (h4 d).trans (((and_congr_right fun _ => not_congr (h2 d))).trans (h6 d).symm)

end Go.AI
