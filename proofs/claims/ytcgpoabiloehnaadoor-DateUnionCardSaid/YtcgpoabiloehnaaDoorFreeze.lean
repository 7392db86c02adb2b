/-
  Moves: a slice of the function's own becomes a plain list; a name becomes another one.
-/
import Derived.Test.YtcgpoabiloehnaaDoorTurn
set_option linter.unusedVariables false
namespace Go.AI
open Go

section
variable {E : Env} {pl pl' : Pl} {st : St} {objs objs' : Objs} {a : Act} {w w' : World} {ok ok' : Nat → Prop}

/-- a slice in memory that is a plain list from now on -/
theorem rowR_of_obj {s : Sh} {xs : List (Val s)} {b : Nat} {cur : Array Value} {e : TypeId} (hw : w.heap[b]? = some (.cells cur e (0, 0)))
    (hr : Rows w ok s xs cur.toList) (hok : ok b) : RowR w ok s xs b 0 :=
  ⟨hok, fun i hi => by
    obtain ⟨c, hc, hj⟩ := hr i hi
    refine ⟨c, hc, fun j hjl => ?_⟩
    rw [cell_of_row w b _ cur e _ hw, ← hj j hjl]
    simp⟩

theorem Env.ok_of_own (hE : E.Good) (h : HeapR E pl objs w) {key : Key} {b : Nat} (hlk : (lookO objs key).isSome) (hb : pl.blk key = some b) (hm : ¬ Mut pl' objs' b) : E.ok pl' objs' w b := by
  obtain ⟨g1, g2, g3⟩ := h.own key b hlk hb
  exact ⟨g1, g3.imp (hE.sub b) id, hm⟩

theorem Rel.freeze (hE : E.Good) (h : Rel E pl st a w) (key : Key) : Rel E pl (st.freeze key) a w := by
  unfold St.freeze
  cases hlk : lookO st.objs key with
  | none => exact h
  | some o =>
    cases o with
    | cells ls => exact h
    | clo g f c => exact h
    | slice s xs =>
      simp only
      have hl : ∀ k, lookO (mapO (L.frz key s xs) (delO st.objs key)) k = if k = key then none else (lookO st.objs k).map (Obj.map (L.frz key s xs)) := fun k => by
        rw [lookO_mapO, lookO_delO]; split <;> simp
      have hmut : ∀ b, Mut pl (mapO (L.frz key s xs) (delO st.objs key)) b → Mut pl st.objs b ∧ pl.blk key ≠ some b := by
        rintro b ⟨k, o', ho', hb⟩
        rw [hl] at ho'
        split at ho'
        · cases ho'
        · rename_i hne
          obtain ⟨o, ho, _⟩ := Option.map_eq_some_iff.1 ho'
          exact ⟨⟨k, o, ho, hb⟩, fun e => hne (h.heap.inj k key b (by rw [ho]; rfl) (by rw [hlk]; rfl) hb e)⟩
      have hok : ∀ b, E.ok pl st.objs w b → E.ok pl (mapO (L.frz key s xs) (delO st.objs key)) w b ∧ w.heap[b]? = w.heap[b]? := fun b hb =>
        ⟨⟨hb.1, hb.2.1, fun e => hb.2.2 (hmut b e).1⟩, rfl⟩
      have hokK : ∀ b, pl.blk key = some b → E.ok pl (mapO (L.frz key s xs) (delO st.objs key)) w b := fun b hb =>
        Env.ok_of_own hE h.heap (by rw [hlk]; rfl) hb (fun e => (hmut b e).2 hb)
      have hsame : ∀ k, k ≠ key → Same pl st.objs w pl (mapO (L.frz key s xs) (delO st.objs key)) w k := fun k hk =>
        Same.map (f := L.frz key s xs) (fun o' ho' => by
          rw [hl, if_neg hk] at ho'
          obtain ⟨o, ho, rfl⟩ := Option.map_eq_some_iff.1 ho'
          exact ⟨o, ho, rfl⟩) rfl rfl (fun _ _ _ => rfl)
      have hrow : (pl.blk key = none ∧ xs = []) ∨ ∃ b cur e cap, pl.blk key = some b ∧ w.heap[b]? = some (.cells cur e (0, 0)) ∧ cap ≤ maxLen ∧ xs.length ≤ cap ∧ cur.size = cap * s.n ∧ Rows w (E.ok pl st.objs w) s xs cur.toList :=
        (h.heap.obj key _ hlk).2
      have hf : ∀ l y, LR' pl st.objs w (E.ok pl st.objs w) l y → LR' pl (mapO (L.frz key s xs) (delO st.objs key)) w (E.ok pl (mapO (L.frz key s xs) (delO st.objs key)) w) (L.frz key s xs l) y := by
        intro l y hly
        by_cases hlkey : l.key = some key
        · cases l with
          | box k off => cases hlkey; exact hly.step hok (fun k e => by cases e; exact ⟨rfl, rfl, (fun s2 xs2 hs => by rw [hl, if_pos rfl] at hs; cases hs), (fun g f c hs => by rw [hl, if_pos rfl] at hs; cases hs)⟩)
          | clo k => cases hlkey; exact hly.step hok (fun k e => by cases e; exact ⟨rfl, rfl, (fun s2 xs2 hs => by rw [hl, if_pos rfl] at hs; cases hs), (fun g f c hs => by rw [hl, if_pos rfl] at hs; cases hs)⟩)
          | sl k =>
            cases hlkey
            refine ⟨hly.1, ?_⟩
            simp only [L.frz, keyB_self, cond_true]
            rcases hly.2 s xs hlk with ⟨h0, ad, rfl⟩ | ⟨b, cap, cur, e, hb, rfl, hw, hc⟩
            · rcases hrow with ⟨_, rfl⟩ | ⟨b, cur, e, cap, hb, _⟩
              · exact ⟨ad, 0, rfl, Nat.le_refl _, fun h => absurd h (Nat.lt_irrefl 0)⟩
              · rw [h0] at hb; cases hb
            · rcases hrow with ⟨h0, _⟩ | ⟨b2, cur2, e2, cap2, hb2, hw2, _, hlc, hc2, hr⟩
              · rw [h0] at hb; cases hb
              · rw [hb] at hb2; cases hb2
                rw [hw] at hw2; cases hw2
                have hcap : cap = cap2 := Nat.eq_of_mul_eq_mul_right (h.heap.obj _ _ hlk).1 (hc.symm.trans hc2)
                exact ⟨some ⟨b, 0, none⟩, cap, rfl, by rw [hcap]; exact hlc, fun _ => ⟨b, 0, rfl, (rowR_of_obj hw (hr.mono hok) (hokK b hb)).1, (rowR_of_obj hw (hr.mono hok) (hokK b hb)).2⟩⟩
          | elt k i off =>
            cases hlkey
            refine ⟨hly.1, ?_⟩
            simp only [L.frz, keyB_self, cond_true]
            obtain ⟨b, p, hb, hi, rfl⟩ := hly.2 s xs hlk
            rcases hrow with ⟨h0, _⟩ | ⟨b2, cur2, e2, cap2, hb2, hw2, _, _, _, hr⟩
            · rw [h0] at hb; cases hb
            · rw [hb] at hb2; cases hb2
              exact ⟨b, 0, p, hi, rowR_of_obj hw2 (hr.mono hok) (hokK b hb), rfl⟩
          | _ => cases hlkey
        · have hsm : L.frz key s xs l = l := by
            cases l with
            | sl k => simp only [L.frz]; rw [keyB_ne (fun e => hlkey (by rw [e]; rfl))]; rfl
            | elt k i off => simp only [L.frz]; rw [keyB_ne (fun e => hlkey (by rw [e]; rfl))]; rfl
            | _ => rfl
          rw [hsm]
          exact hly.step hok (fun k e => hsame k (fun e' => hlkey (by rw [e, e'])))
      refine ⟨h.defers, h.slots.mapL fun c y hc => hc.map hf rfl, ?_⟩
      refine HeapR.stepF (L.frz key s xs) key h.heap rfl (fun k o' e ho' => ?_) (fun _ _ _ => ⟨rfl, rfl⟩) (fun _ _ _ _ _ => rfl) hok hf (fun o' ho' => by rw [hl, if_pos rfl] at ho'; cases ho') (fun k _ hn => by
        rw [hl]; split
        · simp
        · rw [hn]; simp) (fun _ h1 => by rw [hl, if_pos rfl] at h1; cases h1) h.heap.keep (Nat.le_refl _) h.heap.glob
      rw [hl, if_neg e] at ho'
      obtain ⟨o, ho, rfl⟩ := Option.map_eq_some_iff.1 ho'
      exact ⟨o, ho, rfl⟩

theorem Rel.freezes (hE : E.Good) : ∀ (ks : List Key) {st : St}, Rel E pl st a w → Rel E pl (st.freezes ks) a w
  | [], _, h => h
  | k :: r, st, h => Rel.freezes hE r (st := st.freeze k) (h.freeze hE k)

end
end Go.AI
