/-
  Regions whose order is drawn: reads that are stable in growing memory may be taken first.
-/
import Derived.Test.YtcgpoabiloehnaaDoorCode
import Derived.Orders
set_option linter.unusedVariables false
set_option linter.unusedSimpArgs false
namespace Go.AI
open Go

section
variable {P : Program} {N : Nat} {ops : Array Oper} {Q : Exit → Act → World → Prop} {md : Region.Mode}

theorem Grown.refl (w : World) : Grown w w := fun _ _ => rfl
theorem Grows.refl (w : World) : Grows w w := ⟨Nat.le_refl _, Grown.refl w⟩
theorem Grows.trans {a b c : World} (h : Grows a b) (h' : Grows b c) : Grows a c :=
  ⟨Nat.le_trans h.1 h'.1, fun i hi => (h'.2 i (Nat.lt_of_lt_of_le hi h.1)).trans (h.2 i hi)⟩

/-- below a place nothing turns -/
def GN (N : Nat) (w w' : World) : Prop := N ≤ w.heap.size → N ≤ w'.heap.size ∧ ∀ b, b < N → w'.heap[b]? = w.heap[b]?
theorem GN.refl (N : Nat) (w : World) : GN N w w := fun h => ⟨h, fun _ _ => rfl⟩
theorem GN.trans {N : Nat} {a b c : World} (h : GN N a b) (h' : GN N b c) : GN N a c := fun hN =>
  ⟨(h' (h hN).1).1, fun i hi => ((h' (h hN).1).2 i hi).trans ((h hN).2 i hi)⟩
theorem Grows.gn {N : Nat} {a b : World} (h : Grows a b) : GN N a b := fun hN => ⟨Nat.le_trans hN h.1, fun i hi => h.2 i (Nat.lt_of_lt_of_le hi hN)⟩
/-- what a load asks of what comes ahead of it -/
def RL (N : Nat) (z : Bool) (w w' : World) : Prop := if z = true then GN N w w' else Grows w w'
theorem RL.refl (N : Nat) (z : Bool) (w : World) : RL N z w w := by cases z; exact Grows.refl w; exact GN.refl N w
theorem RL.trans {N : Nat} {z : Bool} {a b c : World} (h : RL N z a b) (h' : RL N z b c) : RL N z a c := by
  cases z
  · exact Grows.trans h h'
  · exact GN.trans h h'
def sel (z : Bool) (p : Bool × Bool) : Bool := bif z then p.1 else p.2
def Gr (N : Nat) (p : Bool × Bool) (w w' : World) : Prop := (p.1 = true → GN N w w') ∧ (p.2 = true → Grows w w')
theorem Gr.refl (N : Nat) (p : Bool × Bool) (w : World) : Gr N p w w := ⟨fun _ => GN.refl N w, fun _ => Grows.refl w⟩
theorem Gr.rl {N : Nat} {p : Bool × Bool} {w w' : World} (h : Gr N p w w') {z : Bool} (hz : sel z p = true) : RL N z w w' := by
  cases z
  · exact h.2 hz
  · exact h.1 hz

/-- an operation, of which growth may be wanted -/
def wpOpG (P : Program) (ops : Array Oper) (Q : Exit → Act → World → Prop) (N : Nat) (F : Nat → Bool × Bool) (i : Nat) (K : Act → World → Prop) (a : Act) (w : World) : Prop :=
  wpOp P ops Q i (fun a' w' => Gr N (F i) w w' ∧ K a' w') a w

def wpAnyF (P : Program) (md : Region.Mode) (ops : Array Oper) (Q : Exit → Act → World → Prop) (N : Nat) (F : Nat → Bool × Bool) : Nat → Array Bool → Act → World → Prop
  | 0, listed, a, w => Region.ready md ops listed = [] ∧ Q .normal a w
  | fuel + 1, listed, a, w =>
    (Region.ready md ops listed = [] → Q .normal a w) ∧
    ∀ i ∈ Region.ready md ops listed, wpOpG P ops Q N F i (wpAnyF P md ops Q N F fuel (listed.setIfInBounds i true)) a w

theorem wpAny_of_F {F : Nat → Bool × Bool} : ∀ (fuel : Nat) (listed : Array Bool) (a : Act) (w : World), wpAnyF P md ops Q N F fuel listed a w → wpAny P md ops Q fuel listed a w
  | 0, _, _, _, h => h
  | fuel + 1, listed, a, w, h => ⟨h.1, fun i hi => wpOp_mono (fun a' w' hk => wpAny_of_F fuel _ a' w' hk.2) (h.2 i hi)⟩

theorem wpAnyF_mono {Q' : Exit → Act → World → Prop} {F : Nat → Bool × Bool} (hQ : ∀ e a w, Q e a w → Q' e a w) : ∀ (fuel : Nat) (listed : Array Bool) (a : Act) (w : World), wpAnyF P md ops Q N F fuel listed a w → wpAnyF P md ops Q' N F fuel listed a w
  | 0, _, _, _, h => ⟨h.1, hQ _ _ _ h.2⟩
  | fuel + 1, listed, a, w, h => ⟨fun hr => hQ _ _ _ (h.1 hr), fun i hi => by
      have h1 := h.2 i hi
      unfold wpOpG Go.wpOp at *
      split
      · rename_i ho; simp only [ho] at h1; exact ⟨h1.1, wpAnyF_mono hQ fuel _ _ _ h1.2⟩
      · rename_i o ho
        simp only [ho] at h1
        split
        · rename_i hw
          rw [if_pos hw] at h1
          rcases h1 with h1 | ⟨h1, h2⟩
          · exact .inl (Oper.wp_mono2 (fun a' w' hh => ⟨hh.1, wpAnyF_mono hQ fuel _ _ _ hh.2⟩) hQ h1)
          · exact .inr ⟨h1, h2.imp fun a hh => hh.imp fun w hh => hQ _ _ _ hh⟩
        · rename_i hw
          rw [if_neg hw] at h1
          exact ⟨h1.1, wpAnyF_mono hQ fuel _ _ _ h1.2⟩⟩

/-- a read: the same value in every memory that grows -/
def Stable (N : Nat) (z : Bool) (P : Program) (ops : Array Oper) (o : Oper) (v : Value) (a : Act) (w : World) : Prop :=
  (Region.wanted o (yielded ops a.tmps) = true ∧ ∀ w', (isLoad o.op = true → RL N z w w') → (execOp a.eval o).run P w' = .ok (.value v) w') ∨
  (Region.wanted o (yielded ops a.tmps) = false ∧ v = undef)

theorem Stable.grows {z : Bool} {o : Oper} {v : Value} {a : Act} {w w' : World} (h : Stable N z P ops o v a w) (hg : isLoad o.op = true → RL N z w w') : Stable N z P ops o v a w' :=
  h.imp (fun ⟨h1, h2⟩ => ⟨h1, fun w2 hw => h2 w2 (fun hi => (hg hi).trans (hw hi))⟩) id

theorem Stable.wpOp {z : Bool} {i : Nat} {o : Oper} {v : Value} {a : Act} {w : World} (hi : ops[i]? = some o) (hy : Stable N z P ops o v a w)
    {K : Act → World → Prop} (h : K (a.put o.dst v) w) : wpOp P ops Q i K a w := by
  unfold Go.wpOp
  simp only [hi]
  rcases hy with ⟨hw, hv⟩ | ⟨hw, rfl⟩
  · simp only [hw, if_true, Oper.wp, hv w (fun _ => RL.refl N z w), Oper.upon]; exact .inl h
  · simp only [hw, Bool.false_eq_true, if_false]; exact h

theorem Stable.of_same {z : Bool} {o : Oper} {v : Value} {a a' : Act} {w : World} (hy : Stable N z P ops o v a w) (he : execOp a'.eval o = execOp a.eval o)
    (hw : Region.wanted o (yielded ops a'.tmps) = Region.wanted o (yielded ops a.tmps)) : Stable N z P ops o v a' w := by
  unfold Stable at *
  rw [he, hw]
  exact hy

theorem wpOpG_put {z : Bool} {F : Nat → Bool × Bool} {j : Nat} {oi oj : Oper} {v : Value} (hj : ops[j]? = some oj) (hF : isLoad oi.op = true → sel z (F j) = true) (hap : oi.apart ops oj = true)
    (hsi : ∀ cs b, oi.op ≠ .select cs b) (hsj : ∀ cs b, oj.op ≠ .select cs b)
    (hQ : ∀ c a w, Q (.panic c) (a.put oi.dst v) w → Q (.panic c) a w) {K : Act → World → Prop} {a : Act} {w : World}
    (hy : Stable N z P ops oi v a w) (h : wpOpG P ops Q N F j K (a.put oi.dst v) w) :
    wpOpG P ops Q N F j (fun a' w' => Stable N z P ops oi v a' w' ∧ K (a'.put oi.dst v) w') a w := by
  obtain ⟨h1, h2, h3⟩ := Oper.apart_spec hap
  have keep : ∀ (w' : World), (isLoad oi.op = true → RL N z w w') → ∀ u, Stable N z P ops oi v (a.put oj.dst u) w' := fun w' hg u =>
    (hy.grows hg).of_same (execOp_put oi hsi a oj.dst u h3) (wanted_put oi a oj.dst u h3)
  have keepD : ∀ (w' : World), (isLoad oi.op = true → RL N z w w') → ∀ d u, Stable N z P ops oi v ({ a with defers := d :: a.defers }.put oj.dst u) w' := fun w' hg d u =>
    ((hy.grows hg).of_same (a' := { a with defers := d :: a.defers }) rfl rfl).of_same (execOp_put oi hsi _ oj.dst u h3) (wanted_put oi _ oj.dst u h3)
  unfold wpOpG at h ⊢
  unfold Go.wpOp at *
  simp only [hj] at *
  rw [wanted_put oj a oi.dst v h1] at h
  split
  · rename_i hw
    simp only [hw, if_true] at h
    rcases h with h | ⟨hasks, hlets⟩
    case inr => exact .inr ⟨by unfold Oper.asks at *; rw [execOp_put oj hsj a oi.dst v h1] at hasks; exact hasks, hlets⟩
    refine .inl ?_
    unfold Oper.wp at *
    rw [execOp_put oj hsj a oi.dst v h1] at h
    generalize (execOp a.eval oj).run P w = r at *
    cases r with
    | ok n w' =>
      cases n <;> simp only [Oper.upon] at h ⊢
      case value u => exact ⟨h.1, keep _ (fun hi => h.1.rl (hF hi)) u, by rw [← Act.put_comm a v u h2]; exact h.2⟩
      case skip => exact ⟨h.1, keep _ (fun hi => h.1.rl (hF hi)) _, by rw [← Act.put_comm a v undef h2]; exact h.2⟩
      case defer d =>
        refine ⟨h.1, keepD _ (fun hi => h.1.rl (hF hi)) d _, ?_⟩
        rw [← Act.put_comm _ v undef h2, ← Act.put_defers]
        exact h.2
      case enter f args =>
        refine Calls.mono h fun e w'' he => ?_
        cases e with
        | returned u => exact ⟨he.1, keep _ (fun hi => he.1.rl (hF hi)) u, by rw [← Act.put_comm a v u h2]; exact he.2⟩
        | panicked c => exact hQ _ _ _ he
        | outgrown => exact he
      case row row args => exact Go.Rows.mono h fun u w'' he => ⟨he.1, keep _ (fun hi => he.1.rl (hF hi)) u, by rw [← Act.put_comm a v u h2]; exact he.2⟩
    | halt x w' =>
      cases x <;> simp only [Oper.upon] at h ⊢
      case panic u => exact hQ _ _ _ h
  · rename_i hw
    simp only [hw] at h
    exact ⟨h.1, keep _ (fun hi => h.1.rl (hF hi)) _, by rw [← Act.put_comm a v undef h2]; exact h.2⟩

theorem wpAnyF_first {z : Bool} {F : Nat → Bool × Bool} {B : Nat → Bool} {i : Nat} {oi : Oper} {v : Value} (hi : ops[i]? = some oi) (hsel : ∀ (j : Nat) (o : Oper) cs b, ops[j]? = some o → o.op ≠ .select cs b)
    (hQ : ∀ c a w, Q (.panic c) (a.put oi.dst v) w → Q (.panic c) a w) :
    ∀ (fuel : Nat) (listed : Array Bool) (a : Act) (w : World),
      (∀ j oj, ops[j]? = some oj → j ≠ i → listed.getD j true = false → if B j then ∃ e ∈ oj.after, Region.binds md e = true ∧ (e.on = i ∨ B e.on = true) else oi.apart ops oj = true ∧ (isLoad oi.op = true → sel z (F j) = true)) →
      (∀ j, B j = true → listed.getD j false = false) →
      i ∈ Region.ready md ops listed → Stable N z P ops oi v a w →
      wpAnyF P md ops Q N F fuel (listed.setIfInBounds i true) (a.put oi.dst v) w → wpAnyF P md ops Q N F (fuel + 1) listed a w := by
  intro fuel
  induction fuel with
  | zero =>
    intro listed a w _ _ hr hy H
    refine ⟨fun h => (by rw [h] at hr; cases hr), fun j hj => ?_⟩
    by_cases hji : j = i
    · subst hji; exact hy.wpOp hi ⟨Gr.refl N _ w, H⟩
    · have := ready_mono hj hji
      rw [H.1] at this
      cases this
  | succ fuel ih =>
    intro listed a w hfree hB hr hy H
    refine ⟨fun h => (by rw [h] at hr; cases hr), fun j hj => ?_⟩
    by_cases hji : j = i
    · subst hji; exact hy.wpOp hi ⟨Gr.refl N _ w, H⟩
    · have h1 := H.2 j (ready_mono hj hji)
      obtain ⟨hjun, oj, hoj, hall⟩ := mem_ready.1 hj
      have hfj := hfree j oj hoj hji hjun
      have hBj : B j = false := by
        cases hb : B j with
        | false => rfl
        | true =>
          rw [hb] at hfj
          obtain ⟨e, he, hbi, hon⟩ := hfj
          have h1 := hall e he hbi
          rcases hon with heq | hBe
          · have h0 := (mem_ready.1 hr).1
            rw [heq] at h1
            rcases Nat.lt_or_ge i listed.size with h' | h'
            · simp [h'] at h0 h1; rw [h0] at h1; cases h1
            · simp [Array.getElem?_eq_none h'] at h1
          · rw [hB _ hBe] at h1
            cases h1
      rw [hBj] at hfj
      obtain ⟨hap, hF⟩ := hfj
      have h2 := wpOpG_put hoj hF hap (fun cs b => hsel i oi cs b hi) (fun cs b => hsel j oj cs b hoj) hQ hy h1
      have hfree' : ∀ k ok, ops[k]? = some ok → k ≠ i → (listed.setIfInBounds j true).getD k true = false →
          if B k then ∃ e ∈ ok.after, Region.binds md e = true ∧ (e.on = i ∨ B e.on = true) else oi.apart ops ok = true ∧ (isLoad oi.op = true → sel z (F k) = true) := fun k ok hk hki hun => by
        refine hfree k ok hk hki ?_
        by_cases hjk : j = k
        · subst hjk; exact hjun
        · rw [getD_set_ne true hjk] at hun; exact hun
      have hB' : ∀ k, B k = true → (listed.setIfInBounds j true).getD k false = false := fun k hk => by
        have hjk : j ≠ k := fun e => by rw [e, hk] at hBj; cases hBj
        rw [getD_set_ne false hjk]
        exact hB k hk
      refine wpOp_mono (fun a' w' h3 => ⟨h3.1, ih (listed.setIfInBounds j true) a' w' hfree' hB' (ready_mono hr (Ne.symm hji)) h3.2.1 ?_⟩) h2
      rw [Array.setIfInBounds_comm _ _ hji]
      exact h3.2.2

theorem wpAnyF_all {F : Nat → Bool × Bool} {rs : List Nat} {fuel : Nat} {listed : Array Bool} {a : Act} {w : World} (hr : Region.ready md ops listed = rs) (hne : rs ≠ [])
    (h : ∀ i ∈ rs, wpOpG P ops Q N F i (wpAnyF P md ops Q N F fuel (listed.setIfInBounds i true)) a w) : wpAnyF P md ops Q N F (fuel + 1) listed a w :=
  ⟨fun h0 => absurd (hr ▸ h0) hne, hr ▸ h⟩
theorem wpAnyF_done {F : Nat → Bool × Bool} {listed : Array Bool} {a : Act} {w : World} (hr : Region.ready md ops listed = []) (h : Q .normal a w) :
    ∀ fuel, wpAnyF P md ops Q N F fuel listed a w
  | 0 => ⟨hr, h⟩
  | _ + 1 => ⟨fun _ => h, by rw [hr]; simp⟩

end
end Go.AI
