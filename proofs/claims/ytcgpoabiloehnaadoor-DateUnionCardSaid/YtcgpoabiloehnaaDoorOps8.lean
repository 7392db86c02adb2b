/-
  What the operations do: structs, arrays and slices that are built, made, appended to, cut.
-/
import Derived.Test.YtcgpoabiloehnaaDoorOps7
import Derived.Laws.Tables
import Derived.Great.FillDense
import Derived.Great.BuildSlice
import Derived.Laws.MakeOwn
set_option linter.unusedVariables false
set_option linter.unusedSimpArgs false
namespace Go.AI
open Go

section
variable {P : Program} {E : Env} {pl : Pl} {st : St} {a : Act} {w : World} {objs : Objs} {ok : Nat → Prop}

/-- a part is laid over cells -/
theorem lay_cells (vs : List Value) (off : Nat) (cells : Array Value) (hle : off + vs.length ≤ cells.size) :
    ((vs.zipIdx 0).foldl (fun cs (x : Value × Nat) => cs.setIfInBounds (off + x.2) x.1) cells).toList = cells.toList.take off ++ vs ++ cells.toList.drop (off + vs.length) := by
  obtain ⟨h1, h2⟩ := Go.Great.foldl_set off vs 0 cells
  apply List.ext_getElem?
  intro k
  rw [splice_get cells.toList vs rfl (by simpa using hle) k]
  have := h2 k
  rw [Array.getElem?_toList, this]
  simp only [Nat.add_zero]
  by_cases hk : off ≤ k ∧ k < off + vs.length
  · rw [if_pos (by omega), if_pos hk]
  · rw [if_neg (by omega), if_neg hk, Array.getElem?_toList]

theorem fill_sound {place : Nat → Option (Nat × Nat)} : ∀ (ps : List (Nat × C)) (vs : List (Nat × Value)) {cs ls : List L} {cells : Array Value},
    All2 (fun (p : Nat × C) (q : Nat × Value) => p.1 = q.1 ∧ All2 (LR' pl objs w ok) p.2.cells q.2.cells.toList) ps vs → All2 (LR' pl objs w ok) cs cells.toList →
    fillL place cs (ps.map fun p => (p.1, p.2.cells)) = some ls → ∃ r, Instr.fill place cells vs = some r ∧ All2 (LR' pl objs w ok) ls r.toList
  | [], [], cs, ls, cells, _, hc, h => by
    simp only [List.map_nil, fillL, Option.some.injEq] at h
    subst h
    exact ⟨cells, rfl, hc⟩
  | [], _ :: _, _, _, _, hp, _, _ => by cases hp
  | _ :: _, [], _, _, _, hp, _, _ => by cases hp
  | p :: ps, v :: vs, cs, ls, cells, hp, hc, h => by
    obtain ⟨⟨e1, hv⟩, hp⟩ := hp
    simp only [List.map_cons, fillL] at h
    obtain ⟨vi, vv⟩ := v
    simp only at e1 hv
    unfold Instr.fill
    simp only
    rw [e1] at h
    cases hpl : place vi with
    | none => rw [hpl] at h; cases h
    | some os =>
      obtain ⟨off, size⟩ := os
      rw [hpl] at h
      simp only at h ⊢
      cases hcond : (Nat.beq p.2.cells.length size && Nat.ble (off + size) cs.length) with
      | false => rw [hcond] at h; cases h
      | true =>
        rw [hcond] at h
        simp only [cond_true] at h
        simp only [Bool.and_eq_true] at hcond
        have hsz := Nat.eq_of_beq_eq_true hcond.1
        have hle := Nat.le_of_ble_eq_true hcond.2
        have hvl : vv.cells.size = size := by rw [← hsz, hv.length]; simp
        have hcl : cells.size = cs.length := by rw [hc.length]; simp
        rw [if_neg (by simp [hvl]; omega)]
        refine fill_sound ps vs hp ?_ h
        rw [← Array.foldl_toList, Array.toList_zipIdx, lay_cells vv.cells.toList off cells (by simp [hvl]; omega)]
        exact All2.splice hc hv off

theorem parts_sound {parts : List (Nat × C)} {vs : List (Nat × Value)} (h : All2 (fun (p : Nat × C) (q : Nat × Value) => p.1 = q.1 ∧ CRel pl objs w ok p.2 q.2) parts vs) (hs : parts.all (fun p => p.2.solid) = true) :
    All2 (fun (p : Nat × C) (q : Nat × Value) => p.1 = q.1 ∧ All2 (LR' pl objs w ok) p.2.cells q.2.cells.toList) parts vs :=
  h.impMem fun p q hp hr => ⟨hr.1, solid_cells hr.2 (List.all_eq_true.1 hs p hp)⟩

theorem buildOp_sound {R : Type} {K : C → St → Option R} {r : R} (h : Rel E pl st a w) {dst : Nat} {t : TypeId} {parts : List (Nat × C)} {vs : Array (Nat × Value)}
    (hp : All2 (fun (p : Nat × C) (q : Nat × Value) => p.1 = q.1 ∧ CRel pl st.objs w (E.ok pl st.objs w) p.2 q.2) parts vs.toList) (hc : buildOp P dst t parts st K = some r) :
    ∃ v, (Instr.build t vs).run P w = .ok v w ∧ Out E K r a v w := by
  have zero : ∀ {z : Value} {ts : List TypeId}, zeroOf P t = some z → Nat.beq ts.length z.cells.size = true → All2 (LR' pl st.objs w (E.ok pl st.objs w)) (zeroCells P false dst 0 ts z.cells.toList).1 z.cells.toList := by
    intro z ts hz hl
    refine zeroCells_sound (by simpa using Nat.eq_of_beq_eq_true hl) (zeroOf_some hz).2 (fun q hq => ?_)
    exfalso
    have : ∀ (off : Nat) (ts : List TypeId) (vs : List Value), (zeroCells P false dst off ts vs).2 = [] := fun off ts => by
      induction ts generalizing off with
      | nil => intro vs; cases vs <;> rfl
      | cons t ts ih =>
        intro vs
        cases vs with
        | nil => rfl
        | cons v vs =>
          simp only [zeroCells, ih, List.append_nil]
          unfold zeroCell
          split <;> first
            | rfl
            | skip
          split
          · split <;> simp
          · rfl
    rw [this] at hq
    simp at hq
  unfold buildOp at hc
  split at hc
  · rename_i fs z ts hu hz hts
    cases hcond : (Nat.beq ts.length z.cells.size && parts.all (fun p => p.2.solid)) with
    | false => rw [hcond] at hc; cases hc
    | true =>
      rw [hcond] at hc
      simp only [cond_true] at hc
      simp only [Bool.and_eq_true] at hcond
      split at hc
      · rename_i places hpl
        split at hc
        · rename_i ls hls
          obtain ⟨cells, hf, hall⟩ := fill_sound _ _ (parts_sound hp hcond.2) (zero hz hcond.1) hls
          obtain ⟨⟨i, hi, hiz⟩, _⟩ := zeroOf_some hz
          refine ⟨.agg cells, run_build w t vs cells ?_, pl, _, _, hc, h, ⟨_, rfl, hall⟩⟩
          simp only [Program.built, hi, hu, hiz, hpl]
          exact hf
        · cases hc
      · cases hc
  · rename_i n e z ts hu hz hts
    split at hc
    · rename_i ie hie
      cases hcond : (Nat.beq ts.length z.cells.size && parts.all (fun p => p.2.solid)) with
      | false => rw [hcond] at hc; cases hc
      | true =>
        rw [hcond] at hc
        simp only [cond_true] at hc
        simp only [Bool.and_eq_true] at hcond
        split at hc
        · rename_i ls hls
          obtain ⟨cells, hf, hall⟩ := fill_sound _ _ (parts_sound hp hcond.2) (zero hz hcond.1) hls
          obtain ⟨⟨i, hi, hiz⟩, _⟩ := zeroOf_some hz
          refine ⟨.agg cells, run_build w t vs cells ?_, pl, _, _, hc, h, ⟨_, rfl, hall⟩⟩
          simp only [Program.built, hi, hu, hiz, hie]
          exact hf
        · cases hc
    · cases hc
  · cases hc

end
end Go.AI
