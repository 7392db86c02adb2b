/-
  A name becomes another one: a slice that a variable takes over.
-/
import Derived.Test.YtcgpoabiloehnaaDoorFreeze
set_option linter.unusedVariables false
namespace Go.AI
open Go

theorem lookO_rename {k K' : Key} : ∀ {objs : Objs}, lookO objs K' = none → ∀ k0, lookO (objs.map fun p => (bif keyB k p.1 then K' else p.1, p.2)) k0 =
    if k0 = K' then lookO objs k else if k0 = k then none else lookO objs k0
  | [], _, k0 => by simp [lookO]
  | (k2, o2) :: r, hn, k0 => by
    have hne : k2 ≠ K' := fun e => by subst e; simp [lookO] at hn
    have hr : lookO r K' = none := by simpa [lookO, keyB_ne hne] using hn
    simp only [List.map_cons, lookO]
    have ih := lookO_rename (k := k) hr k0
    by_cases h2 : k2 = k
    · subst h2
      simp only [keyB_self, cond_true]
      by_cases h0 : k0 = K'
      · subst h0; simp
      · rw [keyB_ne (Ne.symm h0)]
        simp only [cond_false]
        rw [ih, if_neg h0, if_neg h0]
        by_cases h1 : k0 = k2
        · rw [if_pos h1, if_pos h1]
        · rw [if_neg h1, if_neg h1, keyB_ne (Ne.symm h1)]; rfl
    · rw [keyB_ne (Ne.symm h2)]
      simp only [cond_false]
      by_cases h0 : k0 = K'
      · subst h0
        rw [keyB_ne hne, keyB_ne h2]
        simp only [cond_false]
        rw [ih]; simp
      · rw [if_neg h0]
        by_cases h1 : k2 = k0
        · subst h1
          simp [h2]
        · rw [keyB_ne h1]
          simp only [cond_false]
          rw [ih, if_neg h0]

section
variable {E : Env} {pl : Pl} {st : St} {a : Act} {w : World}

theorem Rel.rename (hE : E.Good) (h0 : Rel E pl st a w) {k K' : Key} (hne : k ≠ K') (hkey : isImp K' = false) :
    Rel E ⟨fun k0 => if k0 = K' then pl.blk k else pl.blk k0, fun k0 => if k0 = K' then pl.fn k else pl.fn k0⟩ (st.rename k K') a w := by
  have h := h0.drop K'
  unfold St.rename
  simp only
  generalize hst1 : st.drop K' = st1 at *
  have hno : lookO st1.objs K' = none := by rw [← hst1, lookO_drop, if_pos rfl]
  generalize hρ : (fun k' => bif keyB k k' then some K' else some k' : Key → Option Key) = ρ
  have hno' : lookO (mapO (L.ren ρ) st1.objs) K' = none := by rw [lookO_mapO, hno]; rfl
  generalize hobjs : (mapO (L.ren ρ) st1.objs).map (fun p => (bif keyB k p.1 then K' else p.1, p.2)) = objs'
  have hl : ∀ k0, lookO objs' k0 = if k0 = K' then (lookO st1.objs k).map (Obj.map (L.ren ρ)) else if k0 = k then none else (lookO st1.objs k0).map (Obj.map (L.ren ρ)) := fun k0 => by
    rw [← hobjs, lookO_rename hno', lookO_mapO, lookO_mapO]
  generalize hpl : (⟨fun k0 => if k0 = K' then pl.blk k else pl.blk k0, fun k0 => if k0 = K' then pl.fn k else pl.fn k0⟩ : Pl) = pl'
  have hplK : pl'.blk K' = pl.blk k ∧ pl'.fn K' = pl.fn k := by rw [← hpl]; simp
  have hplO : ∀ k0, k0 ≠ K' → pl'.blk k0 = pl.blk k0 ∧ pl'.fn k0 = pl.fn k0 := fun k0 e => by rw [← hpl]; simp [e]
  have hmut : ∀ b, Mut pl' objs' b → Mut pl st1.objs b := by
    rintro b ⟨k0, o', ho', hb⟩
    rw [hl] at ho'
    by_cases e : k0 = K'
    · rw [if_pos e] at ho'
      obtain ⟨o, ho, _⟩ := Option.map_eq_some_iff.1 ho'
      exact ⟨k, o, ho, by rw [← hplK.1, ← e]; exact hb⟩
    · rw [if_neg e] at ho'
      split at ho'
      · cases ho'
      · obtain ⟨o, ho, _⟩ := Option.map_eq_some_iff.1 ho'
        exact ⟨k0, o, ho, by rw [← (hplO k0 e).1]; exact hb⟩
  have hok : ∀ b, E.ok pl st1.objs w b → E.ok pl' objs' w b ∧ w.heap[b]? = w.heap[b]? := fun b hb => ⟨⟨hb.1, hb.2.1, fun e => hb.2.2 (hmut b e)⟩, rfl⟩
  have hobj : ∀ k0 o', k0 ≠ K' → lookO objs' k0 = some o' → k0 ≠ k ∧ ∃ o, lookO st1.objs k0 = some o ∧ o' = o.map (L.ren ρ) := fun k0 o' e ho' => by
    rw [hl, if_neg e] at ho'
    split at ho'
    · cases ho'
    · rename_i e2
      obtain ⟨o, ho, rfl⟩ := Option.map_eq_some_iff.1 ho'
      exact ⟨e2, o, ho, rfl⟩
  have hobjK : ∀ o', lookO objs' K' = some o' → ∃ o, lookO st1.objs k = some o ∧ o' = o.map (L.ren ρ) := fun o' ho' => by
    rw [hl, if_pos rfl] at ho'
    obtain ⟨o, ho, rfl⟩ := Option.map_eq_some_iff.1 ho'
    exact ⟨o, ho, rfl⟩
  have hs2 : ∀ k1 k2, ρ k1 = some k2 → k1 ≠ K' → Same2 pl st1.objs w k1 pl' objs' w k2 := by
    intro k1 k2 hr hk1
    rw [← hρ] at hr
    simp only at hr
    by_cases e : k = k1
    · subst e
      simp only [keyB_self, cond_true, Option.some.injEq] at hr
      subst hr
      refine ⟨hplK.1, hplK.2, fun s xs hs => ?_, fun g f c hs => ?_⟩
      · obtain ⟨o, ho, e⟩ := hobjK _ hs
        cases o with
        | slice s' xs' => cases e; exact ⟨xs, ho, rfl, fun b cur e _ hw => ⟨cur, e, hw, rfl⟩⟩
        | cells ls => cases e
        | clo g f c => cases e
      · obtain ⟨o, ho, e⟩ := hobjK _ hs
        cases o with
        | slice s' xs' => cases e
        | cells ls => cases e
        | clo g' f' c' => cases e; exact ⟨_, _, ho⟩
    · rw [keyB_ne e] at hr
      simp only [cond_false, Option.some.injEq] at hr
      subst hr
      refine ⟨(hplO k1 hk1).1, (hplO k1 hk1).2, fun s xs hs => ?_, fun g f c hs => ?_⟩
      · obtain ⟨_, o, ho, e⟩ := hobj k1 _ hk1 hs
        cases o with
        | slice s' xs' => cases e; exact ⟨xs, ho, rfl, fun b cur e _ hw => ⟨cur, e, hw, rfl⟩⟩
        | cells ls => cases e
        | clo g f c => cases e
      · obtain ⟨_, o, ho, e⟩ := hobj k1 _ hk1 hs
        cases o with
        | slice s' xs' => cases e
        | cells ls => cases e
        | clo g' f' c' => cases e; exact ⟨_, _, ho⟩
  -- no cell refers to the dropped name
  have hf : ∀ l y, l.key ≠ some K' → LR' pl st1.objs w (E.ok pl st1.objs w) l y → LR' pl' objs' w (E.ok pl' objs' w) (l.ren ρ) y := fun l y hk hly =>
    hly.ren hok (fun k1 k2 e1 e2 => hs2 k1 k2 e2 (fun e => hk (by rw [e1, e])))
  -- every cell of the dropped state
  have hkilled : ∀ l : L, (l.kill (keyB K')).key ≠ some K' := fun l => by
    cases hk : l.key with
    | none => rw [kill_none hk, hk]; simp
    | some k1 =>
      rw [kill_key hk]
      split
      · simp [L.key]
      · rename_i e
        rw [hk]
        intro e'
        cases e'
        exact e (keyB_self _)
  have hf0 : ∀ l y, LR' pl st.objs w (E.ok pl st.objs w) l y → LR' pl st1.objs w (E.ok pl st1.objs w) (l.kill (keyB K')) y := by
    intro l y hl0
    rw [← hst1]
    refine hl0.kill (fun b hb => ⟨⟨hb.1, hb.2.1, ?_⟩, rfl⟩) (fun k1 hk1 => Same.map (f := L.kill (keyB K')) (fun o' ho' => ?_) rfl rfl (fun _ _ _ => rfl))
    · rw [lookO_drop] at ho'
      split at ho'
      · cases ho'
      · obtain ⟨o, ho, e⟩ := Option.map_eq_some_iff.1 ho'
        exact ⟨o, ho, e.symm⟩
    · rintro ⟨k1, o', ho', hb'⟩
      rw [lookO_drop] at ho'
      split at ho'
      · cases ho'
      · obtain ⟨o, ho, _⟩ := Option.map_eq_some_iff.1 ho'
        exact hb.2.2 ⟨k1, o, ho, hb'⟩
  -- both at once, from the state before the drop
  have hg : ∀ l y, LR' pl st.objs w (E.ok pl st.objs w) l y → LR' pl' objs' w (E.ok pl' objs' w) ((l.kill (keyB K')).ren ρ) y := fun l y hl0 => hf _ y (hkilled l) (hf0 l y hl0)
  have hok0 : ∀ b, E.ok pl st.objs w b → E.ok pl' objs' w b ∧ w.heap[b]? = w.heap[b]? := fun b hb => hok b (by
    rw [← hst1]
    refine ⟨hb.1, hb.2.1, ?_⟩
    rintro ⟨k1, o', ho', hb'⟩
    rw [lookO_drop] at ho'
    split at ho'
    · cases ho'
    · obtain ⟨o, ho, _⟩ := Option.map_eq_some_iff.1 ho'
      exact hb.2.2 ⟨k1, o, ho, hb'⟩)
  have hcomp : ∀ o : Obj, (o.map (L.kill (keyB K'))).map (L.ren ρ) = o.map (fun l => (l.kill (keyB K')).ren ρ) := fun o => by
    cases o <;> simp [Obj.map, Function.comp_def]
  have hcompC : ∀ c : C, (c.map (L.kill (keyB K'))).map (L.ren ρ) = c.map (fun l => (l.kill (keyB K')).ren ρ) := fun c => by
    cases c <;> simp [C.map, Function.comp_def]
  have hα : st1.α.map (C.map (L.ren ρ)) = st.α.map (C.map (fun l => (l.kill (keyB K')).ren ρ)) := by
    rw [← hst1]; simp [St.drop, Function.comp_def, hcompC]
  have hlk1 : ∀ k1 o, lookO st1.objs k1 = some o → ∃ o0, lookO st.objs k1 = some o0 ∧ o = o0.map (L.kill (keyB K')) := fun k1 o ho => by
    rw [← hst1, lookO_drop] at ho
    split at ho
    · cases ho
    · obtain ⟨o0, ho0, e⟩ := Option.map_eq_some_iff.1 ho
      exact ⟨o0, ho0, e.symm⟩
  refine ⟨h.defers, ?_, ?_⟩
  · simp only
    rw [hα]
    exact h0.slots.mapL fun c y hc => hc.map hg rfl
  · refine HeapR.stepF (objs := st.objs) (pl := pl) (fun l => (l.kill (keyB K')).ren ρ) K' h0.heap rfl (fun k0 o' e ho' => ?_) (fun k0 e _ => hplO k0 e) (fun _ _ _ _ _ => rfl) hok0 hg (fun o' ho' => ?_) (fun k1 hk1 hn h1 => by
      have hne1 : k1 ≠ K' := fun e => by rw [e, hkey] at hk1; cases hk1
      obtain ⟨o', ho'⟩ := Option.isSome_iff_exists.1 h1
      obtain ⟨_, o, ho, _⟩ := hobj k1 o' hne1 ho'
      obtain ⟨o0, ho0, _⟩ := hlk1 k1 o ho
      rw [hn] at ho0; cases ho0) (fun e => by rw [hkey] at e; cases e) h.heap.keep (Nat.le_refl _) h.heap.glob
    · obtain ⟨_, o, ho, rfl⟩ := hobj k0 o' e ho'
      obtain ⟨o0, ho0, rfl⟩ := hlk1 k0 o ho
      exact ⟨o0, ho0, hcomp o0⟩
    · obtain ⟨o, ho, rfl⟩ := hobjK o' ho'
      obtain ⟨o0, ho0, rfl⟩ := hlk1 k o ho
      rw [hcomp]
      refine ⟨?_, fun b hb => ?_⟩
      · have h00 := h0.heap.obj k o0 ho0
        cases o0 with
        | cells ls =>
          obtain ⟨b, cur, e, h1, h2, h3⟩ := h00
          exact ⟨b, cur, e, by rw [hplK.1]; exact h1, h2, h3.mapL hg⟩
        | slice s xs =>
          obtain ⟨hn, h00⟩ := h00
          refine ⟨hn, ?_⟩
          rcases h00 with ⟨h1, h2⟩ | ⟨b, cur, e, cap, h1, h2, h3, h4, h5, h6⟩
          · exact .inl ⟨by rw [hplK.1]; exact h1, h2⟩
          · exact .inr ⟨b, cur, e, cap, by rw [hplK.1]; exact h1, h2, h3, h4, h5, h6.mono hok0⟩
        | clo g f c =>
          obtain ⟨h1, fs, cs, h2, h3, h4⟩ := h00
          exact ⟨by rw [hplK.1]; exact h1, fs, cs, by rw [hplK.2]; exact h2, All2.mapL (g := fun p => (p.1, p.2.map (fun l => (l.kill (keyB K')).ren ρ))) (fun _ _ h => PR.map hg rfl h) h3, h4.mapL hg⟩
      · rw [hplK.1] at hb
        obtain ⟨g1, g2, g3⟩ := h0.heap.own k b (by rw [ho0]; rfl) hb
        refine ⟨g1, g2, g3, fun k0 e h1 h2 => ?_⟩
        obtain ⟨o1, ho1⟩ := Option.isSome_iff_exists.1 h1
        obtain ⟨hk0, o2, ho2, _⟩ := hobj k0 o1 e ho1
        obtain ⟨o3, ho3, _⟩ := hlk1 k0 o2 ho2
        rw [(hplO k0 e).1] at h2
        exact hk0 (h0.heap.inj k0 k b (by rw [ho3]; rfl) (by rw [ho0]; rfl) h2 hb)

end
end Go.AI
