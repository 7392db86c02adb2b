/-
  s[:0:0].
-/
import Derived.Test.YtcgpoabiloehnaaDoorOps11
set_option linter.unusedVariables false
set_option linter.unusedSimpArgs false
namespace Go.AI
open Go

section
variable {P : Program} {E : Env} {pl : Pl} {st : St} {a : Act} {w : World}

theorem emptyOp_sound (hE : E.Good) {R : Type} {K : C → St → Option R} {r : R} (h : Rel E pl st a w) {dst : Nat} {t : TypeId} {c : C} {y : Value} {lo hi : Option Operand} {mx : Operand} {l u m : Option Int}
    (hy : CRel pl st.objs w (E.ok pl st.objs w) c y) (hl : optInt st.α lo = some l) (hu : optInt st.α hi = some u) (hm : optInt st.α (some mx) = some m) (hc : emptyOp P dst t st c l u m K = some r) :
    ∃ v, (Instr.sliceAt t y (lo.map a.eval) (hi.map a.eval) ((some mx).map a.eval)).run P w = .ok v w ∧ Out E K r a v w := by
  unfold emptyOp at hc
  split at hc
  · rename_i e he
    split at hc
    · rename_i s hs
      generalize hb : (Nat.blt 0 s.n && decide (sizeT P e = some s.n) && decide (l = none) && decide (u = some 0) && decide (m = some 0) && sliceLike st.objs c) = b at hc
      cases b with
      | false => cases hc
      | true =>
        simp only [cond_true] at hc
        simp only [Bool.and_eq_true, decide_eq_true_eq] at hb
        obtain ⟨⟨⟨⟨⟨hn, hsz⟩, rfl⟩, rfl⟩, rfl⟩, hsl⟩ := hb
        have hn' := blt_true hn
        have hyy : ∃ ad len cap, y = .slice ad len cap := by
          unfold sliceLike at hsl
          split at hsl
          · obtain ⟨ad, cap, h1, _⟩ := (LR.one' hy (by simp)).2
            simp only [List.cons.injEq, and_true] at h1
            exact ⟨_, _, _, h1⟩
          · exact ⟨none, 0, 0, (LR.one' hy (by simp)).2⟩
          · rename_i k
            split at hsl
            · rename_i s2 xs hlk
              obtain ⟨_, h1⟩ := h.heap.slice hlk (LR.one' hy (by simp)).2
              rcases h1 with ⟨_, ⟨ad, rfl⟩, _⟩ | ⟨b, cap, cur, e2, hb, rfl, _⟩
              · exact ⟨_, _, _, rfl⟩
              · exact ⟨_, _, _, rfl⟩
            · cases hsl
          · cases hsl
        obtain ⟨ad, len, cap, rfl⟩ := hyy
        rcases optInt_some h hl with ⟨rfl, _⟩ | ⟨o, k, n, _, h1, _⟩
        · rcases optInt_some h hu with ⟨_, h1⟩ | ⟨o2, k2, n2, rfl, h2, he2⟩
          · cases h1
          · rcases optInt_some h hm with ⟨h1, _⟩ | ⟨o3, k3, n3, h3, h4, he3⟩
            · cases h1
            · cases h3
              cases h2
              cases h4
              refine ⟨.slice ad 0 0, ?_, pl.setB (.loc dst) none, _, _, hc, h.newNil hE rfl hn', .inr ⟨rfl, fun s2 xs2 h3 => .inl ⟨by simp, ad, rfl⟩⟩⟩
              simp [Instr.sliceAt, run_underlying (elemT_some he), Instr.slice, Instr.sliceBounds, Instr.sliceBound, asIntOf, he2, he3, run_size hsz]
        · cases h1
    · cases hc
  · cases hc

end
end Go.AI
