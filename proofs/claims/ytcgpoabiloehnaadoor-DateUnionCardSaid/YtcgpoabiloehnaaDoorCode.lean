/-
  Regions and code.
-/
import Derived.Test.YtcgpoabiloehnaaDoorCallOp
import Derived.Orders
set_option linter.unusedVariables false
set_option linter.unusedSimpArgs false
namespace Go.AI
open Go

section
variable {P : Program} {E : Env} {pl : Pl} {st : St} {a : Act} {w : World} {H : Hints} {call : Call}

/-- the machine's way of leaving code -/
def exM : Ex → Exit
  | .normal => .normal
  | .exit id => .exit id
  | .ret => .ret
  | .pan t => .panic (panV t)

/-- what stands behind code -/
def Post (E : Env) {R : Type} (K : Ex → St → Option R) (r : R) (e : Exit) (a' : Act) (w' : World) : Prop :=
  ∃ e' st' pl', e = exM e' ∧ K e' st' = some r ∧ Rel E pl' st' a' w'

theorem Oper.wp_mono2 {o : Oper} {K K' : Act → World → Prop} {Q Q' : Exit → Act → World → Prop} (h : ∀ a w, K a w → K' a w) (hq : ∀ e a w, Q e a w → Q' e a w) (hh : o.wp P a w K Q) : o.wp P a w K' Q' := by
  unfold Oper.wp at *
  generalize (execOp a.eval o).run P w = r at *
  cases r with
  | ok n w' =>
    cases n <;> simp only [Oper.upon] at hh ⊢ <;>
      first
        | exact h _ _ hh
        | exact Calls.mono hh (fun e w'' he => by
            cases e with
            | returned v => exact h _ _ he
            | panicked c => exact hq _ _ _ he
            | outgrown => obtain ⟨a0, w0, h0⟩ := he; exact ⟨a0, w0, hq _ _ _ h0⟩)
        | exact Go.Rows.mono hh (fun _ _ he => h _ _ he)
        | exact hh
  | halt x w' => cases x <;> simp only [Oper.upon] at hh ⊢ <;> first | exact hq _ _ _ hh | exact hh

/-- a slot is told better -/
theorem Rel.refine (h : Rel E pl st a w) {d : Nat} {c c' : C} (hd : getS st.α d = c) (hr : ∀ v, CRel pl st.objs w (E.ok pl st.objs w) c v → CRel pl st.objs w (E.ok pl st.objs w) c' v) : Rel E pl ⟨st.α.set d c', st.objs⟩ a w := by
  refine ⟨h.defers, ?_, h.heap⟩
  by_cases hi : d < st.α.length
  · have hg : st.α[d]? = some c := by rw [← hd]; simp [getS, List.getD_eq_getElem?_getD, hi]
    obtain ⟨v, hv, hrel⟩ := h.slots.get d _ hg
    have := h.slots.set d (hr v hrel)
    rwa [set_self hv] at this
  · rw [List.set_eq_of_length_le (by omega)]
    exact h.slots

/-- the answer in a slot -/
theorem Rel.answer (h : Rel E pl st a w) {d : Nat} {l : L} {b : Bool} (hd : getS st.α d = .one l) (hb : boolOf l = some b) : a.tmps[d]? = some (.bool b) := by
  have hi : d < st.α.length := by
    apply Classical.byContradiction
    intro hn
    have : getS st.α d = .one .dead := by simp [getS, List.getD_eq_getElem?_getD, List.getElem?_eq_none (Nat.le_of_not_lt hn)]
    rw [this] at hd
    cases hd
    cases hb
  have hg : st.α[d]? = some (.one l) := by rw [← hd]; simp [getS, List.getD_eq_getElem?_getD, hi]
  obtain ⟨v, hv, hrel⟩ := h.slots.get d _ hg
  rw [CRel.bool hrel hb] at hv
  simpa using hv

/-- what stands behind an operation in its place -/
def Next' (E : Env) {R : Type} (K : St → Option R) (r : R) (a' : Act) (w' : World) : Prop := ∃ st' pl', K st' = some r ∧ Rel E pl' st' a' w'

theorem stepWith_sound {R : Type} {run skip : St → Option R} {r : R} (h : Rel E pl st a w) {ops : Array Oper} {o : Oper} (hc : stepWith run skip ops.toList o st = some r) :
    ∃ st', Rel E pl st' a w ∧ ((Region.wanted o (yielded ops a.tmps) = true ∧ run st' = some r) ∨ (Region.wanted o (yielded ops a.tmps) = false ∧ skip st' = some r)) := by
  unfold stepWith at hc
  split at hc
  · rename_i hg
    exact ⟨st, h, .inl ⟨by simp [Region.wanted, hg], hc⟩⟩
  · rename_i gw hg
    obtain ⟨j, want⟩ := gw
    split at hc
    · cases hc
    · rename_i d want' hgo
      simp only [guardOf, hg] at hgo
      split at hgo
      · rename_i d' hd'
        cases hgo
        have hd2 : (ops[j]?).bind (·.dst) = some d := by simpa using hd'
        have hw : ∀ b, a.tmps[d]? = some (.bool b) → Region.wanted o (yielded ops a.tmps) = (b == want) := fun b hb => by
          simp [Region.wanted, hg, yielded, hd2, hb]
        have go : ∀ {st' : St} (b : Bool), Rel E pl st' a w → a.tmps[d]? = some (.bool b) → (if (b == want) = true then run st' else skip st') = some r →
            ∃ st', Rel E pl st' a w ∧ ((Region.wanted o (yielded ops a.tmps) = true ∧ run st' = some r) ∨ (Region.wanted o (yielded ops a.tmps) = false ∧ skip st' = some r)) := by
          intro st' b h' hb hk
          refine ⟨st', h', ?_⟩
          rw [hw b hb]
          split at hk
          · rename_i hbw
            exact .inl ⟨hbw, hk⟩
          · rename_i hbw
            exact .inr ⟨by simpa using hbw, hk⟩
        split at hc
        · rename_i hs
          exact go true h (h.answer hs rfl) (by cases want <;> exact hc)
        · rename_i hs
          exact go false h (h.answer hs rfl) (by cases want <;> exact hc)
        · rename_i hs
          have hno : Region.wanted o (yielded ops a.tmps) = false := by
            have hi : d < st.α.length := by
              apply Classical.byContradiction
              intro hn
              have : getS st.α d = .one .dead := by simp [getS, List.getD_eq_getElem?_getD, List.getElem?_eq_none (Nat.le_of_not_lt hn)]
              rw [this] at hs
              cases hs
            have hg2 : st.α[d]? = some (.tup []) := by rw [← hs]; simp [getS, List.getD_eq_getElem?_getD, hi]
            obtain ⟨v, hv, hrel⟩ := h.slots.get d _ hg2
            obtain ⟨us, rfl, _⟩ := hrel
            have hv' : a.tmps[d]? = some (.tuple us) := by simpa using hv
            simp [Region.wanted, hg, yielded, hd2, hv']
          exact ⟨st, h, .inr ⟨hno, hc⟩⟩
        · rename_i b hs
          rcases brC_some hc with ⟨hb, hk⟩ | ⟨hb, hk⟩
          · have hb' : b = true := hb
            have hr := h.refine (c' := .one .tt) hs (fun v hv => by rw [CRel.bool hv (b := b) rfl, hb']; exact .inr ⟨rfl, rfl⟩)
            exact go true hr (by rw [h.answer hs (b := b) rfl, hb']) (by cases want <;> exact hk)
          · have hb' : b = false := hb
            have hr := h.refine (c' := .one .ff) hs (fun v hv => by rw [CRel.bool hv (b := b) rfl, hb']; exact .inr ⟨rfl, rfl⟩)
            exact go false hr (by rw [h.answer hs (b := b) rfl, hb']) (by cases want <;> exact hk)
        · cases hc
      · cases hgo

theorem stepC_sound (hE : E.Good) (hcall : ∀ f, Snd P E.G E.lo f (call f)) {R : Type} {K : St → Option R} {X : TypeId → St → Option R} {r : R} (h : Rel E pl st a w) {f : FuncId} {ops : Array Oper} {o : Oper}
    (hc : stepC P H call f ops.toList o st K X = some r) :
    (if Region.wanted o (yielded ops a.tmps) then o.wp P a w (Next' E K r) (OpPan E X r) else Next' E K r (a.put o.dst undef) w) := by
  obtain ⟨st', h', hh⟩ := stepWith_sound h hc
  rcases hh with ⟨hw, hr⟩ | ⟨hw, hr⟩
  · rw [if_pos hw]
    exact Oper.wp_mono2 (fun a' w' ⟨v, e, pl', c, st', hk, hr, hv⟩ => by subst e; exact ⟨_, pl', hk, hr.put o.dst hv⟩) (fun e a w hq => hq) (opC_sound hE hcall h' hr)
  · rw [if_neg (by simp [hw])]
    exact ⟨_, pl, hr, h'.put o.dst ⟨#[], rfl, trivial⟩⟩

theorem opsC_sound (hE : E.Good) (hcall : ∀ f, Snd P E.G E.lo f (call f)) {R : Type} {K : St → Option R} {X : TypeId → St → Option R} {r : R} {f : FuncId} {ops : Array Oper} {Q : Exit → Act → World → Prop}
    (hK : ∀ st pl a w, K st = some r → Rel E pl st a w → Q .normal a w) (hX : ∀ e a w, OpPan E X r e a w → Q e a w) :
    ∀ (l : List Oper) (i : Nat) {pl : Pl} {st : St} {a : Act} {w : World}, ops.toList.drop i = l → Rel E pl st a w → opsC P H call f ops.toList l st K X = some r → wpOps P ops Q (List.range' i l.length) a w
  | [], i, pl, st, a, w, _, h, hc => by
    simp only [opsC] at hc
    exact hK st pl a w hc h
  | o :: l, i, pl, st, a, w, hl, h, hc => by
    simp only [opsC] at hc
    have hget : ops[i]? = some o := by
      have : (ops.toList.drop i)[0]? = some o := by rw [hl]; rfl
      rw [List.getElem?_drop] at this
      simpa using this
    have hdrop : ops.toList.drop (i + 1) = l := by
      rw [← List.drop_drop, hl]; rfl
    have hs := stepC_sound hE hcall h hc
    rw [List.length_cons, List.range'_succ]
    simp only [wpOps, hget]
    have next : ∀ a' w', Next' E (fun st' => opsC P H call f ops.toList l st' K X) r a' w' → wpOps P ops Q (List.range' (i + 1) l.length) a' w' := fun a' w' ⟨st', pl', hk, hr⟩ =>
      opsC_sound hE hcall hK hX l (i + 1) hdrop hr hk
    split
    · rename_i hw
      rw [if_pos hw] at hs
      exact .inl (Oper.wp_mono2 next hX hs)
    · rename_i hw
      rw [if_neg hw] at hs
      exact next _ _ hs

theorem least_of {J : Nat → Prop} : ∀ {n : Nat}, J n → ∃ m, J m ∧ ∀ j, j < m → ¬ J j := by
  intro n
  induction n using Nat.strongRecOn with
  | _ n ih =>
    intro h
    by_cases hlt : ∃ j, j < n ∧ J j
    · obtain ⟨j, hj, hJ⟩ := hlt
      exact ih j hj hJ
    · exact ⟨n, h, fun j hj hJ => hlt ⟨j, hj, hJ⟩⟩

open Classical in
theorem wp_loop_fuel {c : Code} {Q : Exit → Act → World → Prop} (J : Nat → Act → World → Prop) {n : Nat} (h0 : J n a w) (hz : ∀ a w, ¬ J 0 a w)
    (round : ∀ n a w, J (n + 1) a w → c.wp P (Exit.then (J n) Q) a w) : (Code.loop c).wp P Q a w := by
  refine wp_loop (fun a w => ∃ n, J n a w) (fun a w => if h : ∃ m, J m a w ∧ ∀ j, j < m → ¬ J j a w then Classical.choose h else 0) ⟨n, h0⟩ (fun a w hI => ?_)
  obtain ⟨n, hn⟩ := hI
  have hex := least_of (J := fun n => J n a w) hn
  simp only [dif_pos hex]
  generalize hm : Classical.choose hex = m
  have hspec := Classical.choose_spec hex
  rw [hm] at hspec
  cases m with
  | zero => exact absurd hspec.1 (hz a w)
  | succ m =>
    refine wp_mono (round m a w hspec.1) (fun e a' w' hq => ?_)
    cases e with
    | normal =>
      have hJ : J m a' w' := hq
      have hex' := least_of (J := fun n => J n a' w') hJ
      refine ⟨⟨m, hJ⟩, ?_⟩
      simp only [dif_pos hex']
      have hs' := Classical.choose_spec hex'
      rcases Nat.lt_or_ge m (Classical.choose hex') with hlt | hge
      · exact absurd hJ (hs'.2 m hlt)
      · omega
    | _ => exact hq

end
end Go.AI
