/-
  What the operations do: cells that are put into objects.
-/
import Derived.Test.YtcgpoabiloehnaaDoorOps5
set_option linter.unusedVariables false
set_option linter.unusedSimpArgs false
namespace Go.AI
open Go

section
variable {P : Program} {E : Env} {pl : Pl} {st : St} {a : Act} {w : World} {objs : Objs} {ok : Nat → Prop}

theorem set_self {A : Type} {l : List A} {i : Nat} {x : A} (h : l[i]? = some x) : l.set i x = l := by
  obtain ⟨hi, hx⟩ := List.getElem?_eq_some_iff.1 h
  rw [← hx]
  exact List.set_getElem_self hi
theorem blt_true {n m : Nat} (h : Nat.blt n m = true) : n < m := by
  unfold Nat.blt at h
  exact Nat.le_of_ble_eq_true h
theorem blt_false {n m : Nat} (h : Nat.blt n m = false) : m ≤ n := by
  unfold Nat.blt at h
  exact Nat.le_of_lt_succ (Nat.lt_of_not_le (Nat.not_le_of_not_ble_eq_true (by rw [h]; simp)))

/-- a leaf that is told otherwise -/
theorem CRel.setL {c : C} {y : Value} {n : Nat} {l l' : L} (h : CRel pl objs w ok c y) (hn : c.leaves[n]? = some l) (hl : ∀ v, LR' pl objs w ok l v → LR' pl objs w ok l' v) (hd : l ≠ .dead) : CRel pl objs w ok (setL n l' c) y := by
  cases c with
  | one l0 =>
    simp only [AI.setL]
    cases hb : Nat.beq n 0 with
    | false => exact h
    | true =>
      have := Nat.eq_of_beq_eq_true hb
      subst this
      simp only [C.leaves, List.getElem?_cons_zero, Option.some.injEq] at hn
      subst hn
      exact .inr (hl _ (h.resolve_left hd))
  | agg ls =>
    obtain ⟨vs, rfl, hv⟩ := h
    refine ⟨vs, rfl, ?_⟩
    simp only [C.leaves] at hn
    obtain ⟨v, hv1, hlv⟩ := hv.get n l hn
    have := hv.set n (hl v hlv)
    rwa [set_self hv1] at this
  | tup cs =>
    obtain ⟨vs, rfl, hv⟩ := h
    refine ⟨vs, rfl, ?_⟩
    simp only [C.leaves] at hn
    generalize vs.toList = us at hv
    clear vs
    induction cs generalizing n us with
    | nil => simp at hn
    | cons p r ih =>
      cases us with
      | nil => cases hv
      | cons u us =>
        simp only [AI.setL.setT]
        rw [List.flatMap_cons] at hn
        cases hb : Nat.blt n p.2.length with
        | true =>
          have hlt : n < p.2.length := blt_true hb
          rw [List.getElem?_append_left hlt] at hn
          refine ⟨?_, hv.2⟩
          have hp := hv.1
          unfold PR at hp ⊢
          split at hp
          · rename_i hb1
            rw [if_pos hb1]
            obtain ⟨vs, rfl, hvv⟩ := hp
            refine ⟨vs, rfl, ?_⟩
            obtain ⟨v, hv1, hlv⟩ := hvv.get n l hn
            have := hvv.set n (hl v hlv)
            rwa [set_self hv1] at this
          · rename_i hb1
            rw [if_neg hb1]
            obtain ⟨l0, hl0, hp⟩ := hp
            rw [hl0] at hn hlt ⊢
            have : n = 0 := by simp at hlt; omega
            subst this
            simp only [List.getElem?_cons_zero, Option.some.injEq] at hn
            subst hn
            exact ⟨l', rfl, .inr (hl _ (hp.resolve_left hd))⟩
        | false =>
          have hge : p.2.length ≤ n := blt_false hb
          rw [List.getElem?_append_right hge] at hn
          exact ⟨hv.1, ih hn us hv.2⟩

/-- a slot's leaf is told otherwise -/
theorem Rel.setLeaf (h : Rel E pl st a w) {i n : Nat} {l l' : L} (hn : (getS st.α i).leaves[n]? = some l) (hd : l ≠ .dead)
    (hl : ∀ v, LR' pl st.objs w (E.ok pl st.objs w) l v → LR' pl st.objs w (E.ok pl st.objs w) l' v) : Rel E pl ⟨st.α.set i (setL n l' (getS st.α i)), st.objs⟩ a w := by
  refine ⟨h.defers, ?_, h.heap⟩
  by_cases hi : i < st.α.length
  · have hg : st.α[i]? = some (getS st.α i) := by simp [getS, List.getD_eq_getElem?_getD, hi]
    obtain ⟨v, hv, hr⟩ := h.slots.get i _ hg
    have := h.slots.set i (hr.setL hn hl hd)
    rwa [set_self hv] at this
  · rw [List.set_eq_of_length_le (by omega)]
    exact h.slots

theorem getS_map_key {α : List C} {i n : Nat} {f : L → L} (hd : f .dead = .dead) : (getS (α.map (C.map f)) i).leaves[n]? = ((getS α i).leaves[n]?).map f := by
  unfold getS
  rw [List.getD_eq_getElem?_getD, List.getD_eq_getElem?_getD, List.getElem?_map]
  have hm : ∀ c : C, (c.map f).leaves = c.leaves.map f := fun c => by
    cases c with
    | one l => rfl
    | agg ls => rfl
    | tup cs => simp [C.map, C.leaves, List.flatMap_map, List.map_flatMap]
  cases α[i]? with
  | none => simp only [Option.map_none, Option.getD_none, C.leaves]; cases n <;> simp [hd]
  | some c => simp [hm]

/-- a nil slice in a slot gets a name -/
theorem Rel.ownNil (hE : E.Good) (h : Rel E pl st a w) {i n : Nat} {key : Key} (hkey : isImp key = false) {s : Sh} (hs : 0 < s.n) (hn : (getS st.α i).leaves[n]? = some .nils) :
    Rel E (pl.setB key none) ⟨(st.new key (.slice s [])).α.set i (setL n (.sl key) (getS (st.new key (.slice s [])).α i)), (st.new key (.slice s [])).objs⟩ a w := by
  refine (h.newNil hE hkey hs).setLeaf (l := .nils) ?_ (by simp) (fun v hv => ⟨hv.1, fun s' xs' _ => .inl ⟨by simp, none, hv.2⟩⟩)
  show (getS (st.α.map (C.map (L.kill (keyB key)))) i).leaves[n]? = _
  rw [getS_map_key rfl, hn]
  rfl

theorem settleL_sound (hE : E.Good) (h : Rel E pl st a w) {kb : Key} {off i n : Nat} {t : TypeId} : ∃ pl', Rel E pl' (settleL P kb off i n t st) a w ∧ ∀ k0, (∀ i, k0 ≠ .fld kb i) → pl'.blk k0 = pl.blk k0 := by
  unfold settleL
  split
  · rename_i k hk
    cases hcond : (isTemp k && !keyB k (.fld kb off)) with
    | false => exact ⟨pl, h, fun _ _ => rfl⟩
    | true =>
      have hne : k ≠ .fld kb off := fun e => by subst e; simp at hcond
      exact ⟨_, h.rename hE hne rfl, fun k0 hk0 => by simp [hk0 off]⟩
  · rename_i hk
    split
    · rename_i s hs
      cases hcond : Nat.blt 0 s.n with
      | false => exact ⟨pl, h, fun _ _ => rfl⟩
      | true => exact ⟨_, h.ownNil hE rfl (blt_true hcond) hk, fun k0 hk0 => pl.setB_other none (hk0 off)⟩
    · exact ⟨pl, h, fun _ _ => rfl⟩
  · exact ⟨pl, h, fun _ _ => rfl⟩

theorem settleLs_sound (hE : E.Good) {kb : Key} {i : Nat} : ∀ (ts : List TypeId) {off n : Nat} {pl : Pl} {st : St}, Rel E pl st a w → ∃ pl', Rel E pl' (settleLs P kb i off n ts st) a w ∧ ∀ k0, (∀ i, k0 ≠ .fld kb i) → pl'.blk k0 = pl.blk k0
  | [], off, n, pl, st, h => ⟨pl, h, fun _ _ => rfl⟩
  | t :: ts, off, n, pl, st, h => by
    obtain ⟨pl1, h1, h2⟩ := settleL_sound (P := P) hE h (kb := kb) (off := off) (i := i) (n := n) (t := t)
    obtain ⟨pl2, h3, h4⟩ := settleLs_sound hE ts (off := off + 1) (n := n + 1) h1
    exact ⟨pl2, h3, fun k0 hk => (h4 k0 hk).trans (h2 k0 hk)⟩

theorem new_len (st : St) (key : Key) (o : Obj) : (st.new key o).α.length = st.α.length := by simp [St.new, St.drop]
theorem rename_len (st : St) (k k' : Key) : (st.rename k k').α.length = st.α.length := by simp [St.rename, St.drop]
theorem settleL_len {kb : Key} {off i n : Nat} {t : TypeId} : (settleL P kb off i n t st).α.length = st.α.length := by
  unfold settleL
  split
  · cases (isTemp _ && !keyB _ (.fld kb off)) <;> simp [rename_len]
  · split
    · rename_i s hs
      cases Nat.blt 0 s.n <;> simp [new_len]
    · rfl
  · rfl
theorem settleLs_len {kb : Key} {i : Nat} : ∀ (ts : List TypeId) {off n : Nat} {st : St}, (settleLs P kb i off n ts st).α.length = st.α.length
  | [], off, n, st => rfl
  | t :: ts, off, n, st => by
    rw [settleLs, settleLs_len ts, settleL_len]

theorem settle_sound (hE : E.Good) (h : Rel E pl st a w) {kb : Key} {off : Nat} {ts : List TypeId} {ls : List L} {vs : List Value} (hv : All2 (LR' pl st.objs w (E.ok pl st.objs w)) ls vs) {z : List L × St} (hz : settle P kb off ts ls st = some z) :
    ∃ pl', Rel E pl' z.2 a w ∧ All2 (LR' pl' z.2.objs w (E.ok pl' z.2.objs w)) z.1 vs ∧ ∀ k0, (∀ i, k0 ≠ .fld kb i) → pl'.blk k0 = pl.blk k0 := by
  have h1 := h.push (c := .agg ls) (v := .agg vs.toArray) ⟨_, rfl, by simpa using hv⟩
  obtain ⟨pl', h2, hblk⟩ := settleLs_sound (P := P) hE (kb := kb) (i := st.α.length) ts (off := off) (n := 0) h1
  have hlen := settleLs_len (P := P) (kb := kb) (i := st.α.length) ts (off := off) (n := 0) (st := ⟨st.α ++ [.agg ls], st.objs⟩)
  unfold settle at hz
  simp only at hz
  generalize settleLs P kb st.α.length off 0 ts ⟨st.α ++ [.agg ls], st.objs⟩ = st2 at *
  split at hz
  · rename_i ls' hg
    cases hz
    have hd : st2.α = st2.α.take st.α.length ++ [.agg ls'] := by
      have hl : st2.α.length = st.α.length + 1 := by rw [hlen]; simp
      rw [← hg]
      apply List.ext_getElem?
      intro j
      by_cases hj : j < st.α.length
      · rw [List.getElem?_append_left (by simp; omega), List.getElem?_take, if_pos hj]
      · by_cases hj2 : j = st.α.length
        · subst hj2
          rw [List.getElem?_append_right (by simp; omega)]
          have : (st2.α.take st.α.length).length = st.α.length := by simp; omega
          rw [this]
          simp [getS, List.getD_eq_getElem?_getD, hl]
        · rw [List.getElem?_eq_none (by omega), List.getElem?_eq_none (by simp; omega)]
    have h3 : Rel E pl' ⟨st2.α.take st.α.length ++ [.agg ls'], st2.objs⟩ (Act.push a (.agg vs.toArray)) w := by rw [← hd]; exact h2
    obtain ⟨h4, h5⟩ := h3.pop
    refine ⟨pl', h4, ?_, hblk⟩
    obtain ⟨vs', e, h6⟩ := h5
    cases e
    simpa using h6
  · cases hz

theorem cells_sound {c : C} {v : Value} (h : CRel pl objs w ok c v) (hd : c ≠ .one .dead) (ht : ∀ cs, c ≠ .tup cs) : All2 (LR' pl objs w ok) c.cells v.cells.toList := by
  cases c with
  | one l =>
    have hl := h.resolve_left (fun e => hd (by rw [e]))
    rw [oneCell_cells hl.1]
    exact ⟨hl, trivial⟩
  | agg ls =>
    obtain ⟨vs, rfl, hv⟩ := h
    exact hv
  | tup cs => exact absurd rfl (ht cs)

theorem boxOp_sound (hE : E.Good) {R : Type} {K : C → St → Option R} {r : R} (h : Rel E pl st a w) {dst : Nat} {t : TypeId} {c : C} {v : Value} (hv : CRel pl st.objs w (E.ok pl st.objs w) c v) (hc : boxOp P dst t st c K = some r) :
    ∃ v' w', (Instr.box t v).run P w = .ok v' w' ∧ Out E K r a v' w' := by
  unfold boxOp at hc
  split at hc
  · cases hc
  · cases hc
  · rename_i c _ _ ts hnt hnd hts
    cases hlen : Nat.beq ts.length c.cells.length with
    | false => rw [hlen] at hc; cases hc
    | true =>
      rw [hlen] at hc
      simp only [cond_true] at hc
      split at hc
      · rename_i z hz
        have hcells := cells_sound hv hnd (fun cs e => hnt cs e)
        have h0 := (h.push (c := .agg c.cells) (v := .agg v.cells) ⟨_, rfl, hcells⟩).drop (.loc dst)
        have e : St.drop (.loc dst) ⟨st.α ++ [.agg c.cells], st.objs⟩ = ⟨(st.drop (.loc dst)).α ++ [.agg (c.cells.map (L.kill (keyB (.loc dst))))], (st.drop (.loc dst)).objs⟩ := by
          simp [St.drop, C.map]
        rw [e] at h0
        obtain ⟨h1, h2⟩ := h0.pop
        obtain ⟨vs, ev, h2⟩ := h2
        cases ev
        obtain ⟨pl', h3, h4, _⟩ := settle_sound (P := P) hE h1 h2 hz
        have h5 := h3.alloc hE (key := .loc dst) rfl (o := .cells (z.1.map (L.kill (keyB (.loc dst))))) (cells := v.cells) (e := t) (fun pl2 objs2 w2 ok2 hb hheap _ hleaf _ => ⟨_, _, _, hb, hheap, h4.mapL hleaf⟩)
        exact ⟨.pointer (some ⟨w.heap.size, 0, none⟩), w.alloc (.cells v.cells t), by simp [Instr.box, newVar, newRow], _, _, _, hc, h5, .inr ⟨rfl, w.heap.size, by simp, rfl⟩⟩
      · cases hc
  · cases hc

end
end Go.AI
