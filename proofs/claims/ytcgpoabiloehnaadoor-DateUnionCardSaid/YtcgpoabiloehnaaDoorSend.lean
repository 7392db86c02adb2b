/-
  Calls: what goes along.
-/
import Derived.Test.YtcgpoabiloehnaaDoorOps12
set_option linter.unusedVariables false
set_option linter.unusedSimpArgs false
namespace Go.AI
open Go

section
variable {P : Program} {E : Env} {pl : Pl} {st : St} {a : Act} {w : World} {objs : Objs} {ok : Nat → Prop}

theorem idxK_get : ∀ {ks : List Key} {k : Key} {j i : Nat}, idxK ks k j = some i → j ≤ i ∧ ks[i - j]? = some k
  | [], _, _, _, h => by cases h
  | k' :: r, k, j, i, h => by
    simp only [idxK] at h
    by_cases e : k' = k
    · subst e
      simp only [keyB_self, cond_true, Option.some.injEq] at h
      subst h
      exact ⟨Nat.le_refl _, by simp⟩
    · rw [keyB_ne e] at h
      obtain ⟨h1, h2⟩ := idxK_get (ks := r) h
      refine ⟨by omega, ?_⟩
      have : i - j = (i - (j + 1)) + 1 := by omega
      rw [this, List.getElem?_cons_succ]
      exact h2

theorem imp_of_idx {ks : List Key} {k k' : Key} (h : (idxK ks k).map .imp = some k') : decK ks k' = some k := by
  obtain ⟨i, hi, rfl⟩ := Option.map_eq_some_iff.1 h
  have := (idxK_get hi).2
  simpa [decK] using this

theorem decK_sendK (ks : List Key) : ∀ {k k' : Key}, sendK ks k = some k' → decK ks k' = some k
  | .loc s, k', h => imp_of_idx h
  | .imp s, k', h => imp_of_idx h
  | .sub d s, k', h => imp_of_idx h
  | .res j, k', h => imp_of_idx h
  | .fld k off, k', h => by
    simp only [sendK] at h
    split at h
    · rename_i k2 h2
      cases h
      simp only [decK, decK_sendK ks h2]
    · exact imp_of_idx h

/-- the callee's places -/
def Pl.sent (pl : Pl) (ks : List Key) : Pl := ⟨fun k => (decK ks k).bind pl.blk, fun k => (decK ks k).bind pl.fn⟩

theorem sent_look {ks : List Key} {k' : Key} {o' : Obj} : ∀ {l : List Key}, lookO (l.filterMap fun k => match sendK ks k, lookO objs k with
      | some k', some o => some (k', o.map (L.ren (sendK ks)))
      | _, _ => none) k' = some o' → ∃ k o, k ∈ l ∧ sendK ks k = some k' ∧ lookO objs k = some o ∧ o' = o.map (L.ren (sendK ks))
  | [], h => by simp [lookO] at h
  | k :: r, h => by
    rw [List.filterMap_cons] at h
    cases h1 : sendK ks k with
    | none =>
      simp only [h1] at h
      obtain ⟨k2, o, hm, h2⟩ := sent_look h
      exact ⟨k2, o, List.mem_cons_of_mem _ hm, h2⟩
    | some k1 =>
      cases h2 : lookO objs k with
      | none =>
        simp only [h1, h2] at h
        obtain ⟨k2, o, hm, h2⟩ := sent_look h
        exact ⟨k2, o, List.mem_cons_of_mem _ hm, h2⟩
      | some o =>
        simp only [h1, h2, lookO] at h
        by_cases e : k1 = k'
        · subst e
          simp only [keyB_self, cond_true, Option.some.injEq] at h
          exact ⟨k, o, List.mem_cons_self, h1, h2, h.symm⟩
        · rw [keyB_ne e] at h
          obtain ⟨k2, o, hm, h2⟩ := sent_look h
          exact ⟨k2, o, List.mem_cons_of_mem _ hm, h2⟩

/-- what stands around a callee -/
def Env.callee (E : Env) (pl : Pl) (st : St) (w : World) (s : Sent) : Env where
  w0 := w
  M := fun b => ∃ k o, k ∈ s.keys ∧ lookO st.objs k = some o ∧ pl.blk k = some b
  A := fun b => E.ok pl st.objs w b ∨ (∃ k o, k ∈ s.keys ∧ lookO st.objs k = some o ∧ pl.blk k = some b) ∨ ∃ k, k ∈ s.lent ∧ pl.blk k = some b ∧ ∃ s xs, lookO st.objs k = some (.slice s xs)
  G := E.G
  lo := E.lo
  pl0 := pl.sent s.keys
  objs0 := s.objs

theorem Env.callee_good (hE : E.Good) (h : Rel E pl st a w) (s : Sent) : (E.callee pl st w s).Good where
  glob := hE.glob
  lo := Nat.le_trans hE.lo h.heap.keep.size
  sub := fun b hb => .inr (.inl hb)

theorem zipRef_all {byRef : List Nat} {R : C → Value → Prop} : ∀ {cs : List C} {vs : List Value} {i : Nat}, All2 R cs vs → All2 (fun p v => R p.2 v) (zipRef byRef i cs) vs
  | [], [], _, _ => trivial
  | _ :: _, _ :: _, _, h => ⟨h.1, zipRef_all h.2⟩
  | [], _ :: _, _, h => by cases h
  | _ :: _, [], _, h => by cases h

theorem CRel.mapMem {pl' : Pl} {objs' : Objs} {w' : World} {ok' : Nat → Prop} {f : L → L} {c : C} {y : Value} (hf : ∀ l y, l ∈ c.leaves → LR' pl objs w ok l y → LR' pl' objs' w' ok' (f l) y) (hd : f .dead = .dead)
    (h : CRel pl objs w ok c y) : CRel pl' objs' w' ok' (c.map f) y := by
  cases c with
  | one l =>
    rcases h with rfl | h
    · exact .inl hd
    · exact .inr (hf _ _ (by simp [C.leaves]) h)
  | agg ls =>
    obtain ⟨vs, rfl, hv⟩ := h
    exact ⟨vs, rfl, All2.mapL (R := fun l y => l ∈ ls ∧ LR' pl objs w ok l y) (fun l y ⟨hm, hl⟩ => hf l y hm hl) (hv.impMem fun l y hm hl => ⟨hm, hl⟩)⟩
  | tup cs =>
    obtain ⟨vs, rfl, hv⟩ := h
    refine ⟨vs, rfl, All2.mapL (g := fun p => (p.1, p.2.map f)) (R := fun p y => p ∈ cs ∧ PR pl objs w ok p y) (fun p y ⟨hm, hp⟩ => ?_) (hv.impMem fun p y hm hp => ⟨hm, hp⟩)⟩
    have hmem : ∀ l, l ∈ p.2 → l ∈ (C.tup cs).leaves := fun l hl => List.mem_flatMap.2 ⟨p, hm, hl⟩
    unfold PR at *
    split at hp
    · rename_i hb
      obtain ⟨vs, rfl, hv⟩ := hp
      rw [if_pos hb]
      exact ⟨vs, rfl, All2.mapL (R := fun l y => l ∈ p.2 ∧ LR' pl objs w ok l y) (fun l y ⟨hm, hl⟩ => hf l y (hmem l hm) hl) (hv.impMem fun l y hm hl => ⟨hm, hl⟩)⟩
    · rename_i hb
      obtain ⟨l, hl, hp⟩ := hp
      rw [if_neg hb]
      refine ⟨f l, by rw [hl]; rfl, ?_⟩
      rcases hp with rfl | hp
      · exact .inl hd
      · exact .inr (hf _ _ (hmem l (by rw [hl]; simp)) hp)

theorem C.map_map (f g : L → L) (c : C) : (c.map g).map f = c.map fun l => f (g l) := by
  cases c <;> simp [C.map, Function.comp_def]

theorem send_sound (hE : E.Good) (h : Rel E pl st a w) {args : List C} {vs : List Value} (hv : All2 (CRel pl st.objs w (E.ok pl st.objs w)) args vs) {byRef : List Nat} {s : Sent} (hs : send st.objs byRef args = s)
    (hdis : s.lent.any (fun k => s.keys.any (keyB k)) = false) :
    HeapR (E.callee pl st w s) (pl.sent s.keys) s.objs w ∧ All2 (CRel (pl.sent s.keys) s.objs w ((E.callee pl st w s).ok (pl.sent s.keys) s.objs w)) s.args vs := by
  have hobjs : s.objs = s.keys.filterMap fun k => match sendK s.keys k, lookO st.objs k with
      | some k', some o => some (k', o.map (L.ren (sendK s.keys)))
      | _, _ => none := by rw [← hs]; rfl
  have hlk : ∀ {k' o'}, lookO s.objs k' = some o' → ∃ k o, k ∈ s.keys ∧ sendK s.keys k = some k' ∧ lookO st.objs k = some o ∧ o' = o.map (L.ren (sendK s.keys)) := fun hk => by
    rw [hobjs] at hk
    exact sent_look hk
  have hmut : ∀ b, Mut (pl.sent s.keys) s.objs b → ∃ k o, k ∈ s.keys ∧ lookO st.objs k = some o ∧ pl.blk k = some b := by
    rintro b ⟨k', o', ho', hb⟩
    obtain ⟨k, o, hm, hk, ho, _⟩ := hlk ho'
    simp only [Pl.sent, decK_sendK _ hk, Option.bind_some] at hb
    exact ⟨k, o, hm, ho, hb⟩
  have hok : ∀ b, E.ok pl st.objs w b → (E.callee pl st w s).ok (pl.sent s.keys) s.objs w b ∧ w.heap[b]? = w.heap[b]? := fun b hb =>
    ⟨⟨hb.1, .inl (.inl hb), fun e => by
      obtain ⟨k, o, _, ho, hkb⟩ := hmut b e
      exact hb.2.2 ⟨k, o, ho, hkb⟩⟩, rfl⟩
  have hS2 : ∀ k k', sendK s.keys k = some k' → Same2 pl st.objs w k (pl.sent s.keys) s.objs w k' := fun k k' hk => by
    have hd := decK_sendK _ hk
    have hone : ∀ o', lookO s.objs k' = some o' → ∃ o, lookO st.objs k = some o ∧ o' = o.map (L.ren (sendK s.keys)) := fun o' ho' => by
      obtain ⟨k2, o, _, hk2, ho, e⟩ := hlk ho'
      have := decK_sendK _ hk2
      rw [hd] at this
      cases this
      exact ⟨o, ho, e⟩
    refine ⟨by simp [Pl.sent, hd], by simp [Pl.sent, hd], fun s2 xs hs2 => ?_, fun g f c hc => ?_⟩
    · obtain ⟨o, ho, e⟩ := hone _ hs2
      exact ⟨xs, by rw [ho, Obj.map_slice e.symm], rfl, fun b cur e _ hw => ⟨cur, e, hw, rfl⟩⟩
    · obtain ⟨o, ho, e⟩ := hone _ hc
      cases o with
      | slice _ _ => cases e
      | cells _ => cases e
      | clo g' f' c' => cases e; exact ⟨_, _, ho⟩
  have hleaf : ∀ l y, LR' pl st.objs w (E.ok pl st.objs w) l y → LR' (pl.sent s.keys) s.objs w ((E.callee pl st w s).ok (pl.sent s.keys) s.objs w) (l.ren (sendK s.keys)) y := fun l y hl =>
    hl.ren hok (fun k k' _ hk => hS2 k k' hk)
  refine ⟨⟨fun k1 k2 b h1 h2 h3 h4 => ?_, fun k b h1 h2 => ?_, fun k o' ho' => ?_, Keeps.refl _ w, fun k _ _ => Same.rfl' k _, h.heap.glob⟩, ?_⟩
  · obtain ⟨o1, ho1⟩ := Option.isSome_iff_exists.1 h1
    obtain ⟨o2, ho2⟩ := Option.isSome_iff_exists.1 h2
    obtain ⟨q1, p1, _, e1, l1, _⟩ := hlk ho1
    obtain ⟨q2, p2, _, e2, l2, _⟩ := hlk ho2
    simp only [Pl.sent, decK_sendK _ e1, Option.bind_some] at h3
    simp only [Pl.sent, decK_sendK _ e2, Option.bind_some] at h4
    have := h.heap.inj q1 q2 b (by rw [l1]; rfl) (by rw [l2]; rfl) h3 h4
    subst this
    rw [e1] at e2
    exact Option.some.inj e2
  · obtain ⟨o1, ho1⟩ := Option.isSome_iff_exists.1 h1
    obtain ⟨q1, p1, m1, e1, l1, _⟩ := hlk ho1
    simp only [Pl.sent, decK_sendK _ e1, Option.bind_some] at h2
    obtain ⟨g1, g2, _⟩ := h.heap.own q1 b (by rw [l1]; rfl) h2
    exact ⟨g1, g2, .inl ⟨q1, p1, m1, l1, h2⟩⟩
  · obtain ⟨k0, o, _, hk, ho, rfl⟩ := hlk ho'
    have hd := decK_sendK _ hk
    have hb : (pl.sent s.keys).blk k = pl.blk k0 := by simp [Pl.sent, hd]
    have hf : (pl.sent s.keys).fn k = pl.fn k0 := by simp [Pl.sent, hd]
    have h0 := h.heap.obj k0 o ho
    cases o with
    | cells ls =>
      obtain ⟨b, cur, e, h1, h2, h3⟩ := h0
      exact ⟨b, cur, e, by rw [hb]; exact h1, h2, h3.mapL hleaf⟩
    | slice s2 xs =>
      obtain ⟨hn, h0⟩ := h0
      refine ⟨hn, ?_⟩
      rcases h0 with ⟨h1, h2⟩ | ⟨b, cur, e, cap, h1, h2, h3, h4, h5, h6⟩
      · exact .inl ⟨by rw [hb]; exact h1, h2⟩
      · exact .inr ⟨b, cur, e, cap, by rw [hb]; exact h1, h2, h3, h4, h5, h6.mono hok⟩
    | clo g f c =>
      obtain ⟨h1, fs, cs, h2, h3, h4⟩ := h0
      exact ⟨by rw [hb]; exact h1, fs, cs, by rw [hf]; exact h2, All2.mapL (g := fun p => (p.1, p.2.map (L.ren (sendK s.keys)))) (fun _ _ h => PR.map hleaf rfl h) h3, h4.mapL hleaf⟩
  · have hargs : s.args = (zipRef byRef 0 args).map fun p => (p.2.map (argL st.objs p.1)).map (L.ren (sendK s.keys)) := by
      rw [← hs]; simp [send, Function.comp_def]
    have hlent : s.lent = (zipRef byRef 0 args).flatMap fun p => p.2.leaves.flatMap (lentL p.1) := by rw [← hs]; rfl
    rw [hargs]
    have hz := zipRef_all (byRef := byRef) (i := 0) hv
    refine All2.mapL (R := fun (p : Bool × C) v => p ∈ zipRef byRef 0 args ∧ CRel pl st.objs w (E.ok pl st.objs w) p.2 v) (fun p v ⟨hm, hc⟩ => ?_) (hz.impMem fun p v hm hc => ⟨hm, hc⟩)
    rw [C.map_map]
    refine hc.mapMem (fun l y hlm hl => ?_) rfl
    cases l with
    | tt => rw [show y = _ from hl.2]; exact ⟨rfl, rfl⟩
    | ff => rw [show y = _ from hl.2]; exact ⟨rfl, rfl⟩
    | velt s2 xs i off => exact ⟨hl.1, trivial⟩
    | elt k i off => exact ⟨hl.1, trivial⟩
    | sl k =>
      simp only [argL]
      cases hb : p.1 with
      | true => exact hleaf _ _ hl
      | false =>
        simp only [cond_false]
        split
        · rename_i s2 xs hlk2
          have hkl : k ∈ s.lent := by
            rw [hlent]
            exact List.mem_flatMap.2 ⟨p, hm, List.mem_flatMap.2 ⟨_, hlm, by simp [lentL, hb]⟩⟩
          have hkn : ¬ k ∈ s.keys := fun hk => by
            have := List.any_eq_false.1 hdis k hkl
            exact this (List.any_eq_true.2 ⟨k, hk, keyB_self k⟩)
          obtain ⟨hn, h1⟩ := h.heap.slice hlk2 hl.2
          refine ⟨hl.1, ?_⟩
          rcases h1 with ⟨_, ⟨ad, rfl⟩, rfl⟩ | ⟨b, cap, cur, e, hbk, rfl, hw, hm2, hlc, hc2, hr⟩
          · exact ⟨ad, 0, rfl, Nat.le_refl _, fun h => absurd h (Nat.lt_irrefl 0)⟩
          · have hokb : (E.callee pl st w s).ok (pl.sent s.keys) s.objs w b := ⟨lt_of_heap hw, .inl (.inr (.inr ⟨k, hkl, hbk, s2, xs, hlk2⟩)), fun e => by
              obtain ⟨k2, o2, hk2, ho2, hb2⟩ := hmut b e
              have := h.heap.inj k2 k b (by rw [ho2]; rfl) (by rw [hlk2]; rfl) hb2 hbk
              subst this
              exact hkn hk2⟩
            have hrow := rowR_of_obj (ok := (E.callee pl st w s).ok (pl.sent s.keys) s.objs w) hw (hr.mono hok) hokb
            exact ⟨_, cap, rfl, hlc, fun _ => ⟨b, 0, rfl, hrow.1, hrow.2⟩⟩
        · exact ⟨hl.1, trivial⟩
    | _ => exact hleaf _ _ hl

end
end Go.AI
