/-
  Calls: what comes back.
-/
import Derived.Test.YtcgpoabiloehnaaDoorSend
set_option linter.unusedVariables false
set_option linter.unusedSimpArgs false
namespace Go.AI
open Go

section
variable {P : Program} {E E' : Env} {pl pl'' : Pl} {st : St} {a : Act} {w w'' : World} {objs o : Objs} {ok okc : Nat → Prop} {ks : List Key} {dst : Nat}

theorem find_apart {α : Type} {f : α → Key} : ∀ {l : List α}, apartK (l.map f) = true → ∀ p, p ∈ l → l.find? (fun q => keyB (f q) (f p)) = some p
  | [], _, p, h => by simp at h
  | q :: r, h, p, hp => by
    simp only [List.map_cons, apartK, Bool.and_eq_true, Bool.not_eq_true'] at h
    rcases List.mem_cons.1 hp with rfl | hp
    · simp
    · have hne : keyB (f q) (f p) = false := by
        have := List.any_eq_false.1 h.1 (f p) (List.mem_map.2 ⟨p, hp, rfl⟩)
        simpa using this
      rw [List.find?_cons, hne]
      exact find_apart h.2 p hp

theorem look_apart {f : Key → Key} : ∀ {l : Objs}, apartK (l.map fun p => f p.1) = true → ∀ p, p ∈ l → lookO l p.1 = some p.2
  | [], _, p, h => by simp at h
  | (k, ob) :: r, h, p, hp => by
    simp only [List.map_cons, apartK, Bool.and_eq_true, Bool.not_eq_true'] at h
    rcases List.mem_cons.1 hp with rfl | hp
    · simp [lookO]
    · have hne : k ≠ p.1 := fun e => by
        have := List.any_eq_false.1 h.1 (f p.1) (List.mem_map.2 ⟨p, hp, rfl⟩)
        rw [e] at this
        simp at this
      simp only [lookO, keyB_ne hne, cond_false]
      exact look_apart h.2 p hp

theorem look_map {f : Key → Key} {g : Obj → Obj} {k : Key} {ob : Obj} : ∀ {l : Objs}, lookO (l.map fun p => (f p.1, g p.2)) k = some ob → ∃ p, p ∈ l ∧ f p.1 = k ∧ ob = g p.2
  | [], h => by simp [lookO] at h
  | (k', o') :: r, h => by
    simp only [List.map_cons, lookO] at h
    by_cases e : f k' = k
    · subst e
      simp only [keyB_self, cond_true, Option.some.injEq] at h
      exact ⟨_, List.mem_cons_self, rfl, h.symm⟩
    · rw [keyB_ne e] at h
      obtain ⟨p, hm, h2⟩ := look_map h
      exact ⟨p, List.mem_cons_of_mem _ hm, h2⟩

theorem mem_of_look {k : Key} {ob : Obj} : ∀ {l : Objs}, lookO l k = some ob → (k, ob) ∈ l
  | [], h => by cases h
  | (k', o') :: r, h => by
    simp only [lookO] at h
    by_cases e : k' = k
    · subst e
      simp only [keyB_self, cond_true, Option.some.injEq] at h
      subst h
      exact List.mem_cons_self
    · rw [keyB_ne e] at h
      exact List.mem_cons_of_mem _ (mem_of_look h)

/-- the places behind a call -/
def Pl.back (pl pl'' : Pl) (ks : List Key) (dst : Nat) (o : Objs) : Pl :=
  ⟨fun k => match o.find? (fun p => keyB (backK ks dst p.1) k) with | some p => pl''.blk p.1 | none => pl.blk k,
   fun k => match o.find? (fun p => keyB (backK ks dst p.1) k) with | some p => pl''.fn p.1 | none => pl.fn k⟩

theorem look_receive (k : Key) : lookO (receive st dst ks o).objs k =
    if goneK ks dst o k = true then lookO (o.map fun p => (backK ks dst p.1, p.2.map (L.ren (backR ks dst o)))) k else (lookO st.objs k).map (Obj.map (L.kill (killK ks dst o))) := by
  simp only [receive, lookO_append, lookO_mapO]
  rw [lookO_filter st.objs (fun k => !goneK ks dst o k)]
  cases hg : goneK ks dst o k with
  | true => simp
  | false =>
    simp only [Bool.not_false, if_true, Bool.false_eq_true, if_false]
    cases lookO st.objs k with
    | some ob => simp
    | none =>
      simp only [Option.map_none, Option.none_or]
      cases h : lookO (o.map fun p => (backK ks dst p.1, p.2.map (L.ren (backR ks dst o)))) k with
      | none => rfl
      | some ob =>
        obtain ⟨p, hm, e, _⟩ := look_map (f := backK ks dst) (g := Obj.map (L.ren (backR ks dst o))) h
        exfalso
        unfold goneK at hg
        simp only [Bool.or_eq_false_iff] at hg
        have := List.any_eq_false.1 hg.2 p hm
        rw [e] at this
        simp at this

theorem receive_sound (hE : E.Good) (h : Rel E pl st a w) {objsc : Objs} (e0 : E'.w0 = w) (eG : E'.G = E.G) (eL : E'.lo = E.lo) (eP : E'.pl0 = pl.sent ks) (eO : E'.objs0 = objsc)
    (hM : ∀ b, E'.M b → ∃ k ob, k ∈ ks ∧ lookO st.objs k = some ob ∧ pl.blk k = some b)
    (hsl : ∀ k' s xs, lookO objsc k' = some (.slice s xs) → ∃ k, decK ks k' = some k ∧ lookO st.objs k = some (.slice s xs))
    (hcl : ∀ k' g f c, lookO objsc k' = some (.clo g f c) → ∃ k f' c', decK ks k' = some k ∧ lookO st.objs k = some (.clo g f' c'))
    (hksome : ∀ k, k ∈ ks → (lookO st.objs k).isSome)
    (hap : apartK (o.map fun p => backK ks dst p.1) = true) (hc : HeapR E' pl'' o w'')
    (hokc : ∀ b, okc b → b < w''.heap.size ∧ (E.ok pl st.objs w b ∨ E'.M b ∨ w.heap.size ≤ b) ∧ ¬ Mut pl'' o b)
    (hobj : ∀ k ob, lookO o k = some ob → ObjR pl'' o w'' okc k ob) :
    Rel E (pl.back pl'' ks dst o) (receive st dst ks o) a w'' ∧ ∀ c v, CRel pl'' o w'' okc c v →
      CRel (pl.back pl'' ks dst o) (receive st dst ks o).objs w'' (E.ok (pl.back pl'' ks dst o) (receive st dst ks o).objs w'') (c.map (L.ren (backR ks dst o))) v := by
  generalize hpl3 : pl.back pl'' ks dst o = pl3
  generalize hob3 : (receive st dst ks o).objs = objs3
  have hlk : ∀ k, lookO objs3 k = if goneK ks dst o k = true then lookO (o.map fun p => (backK ks dst p.1, p.2.map (L.ren (backR ks dst o)))) k else (lookO st.objs k).map (Obj.map (L.kill (killK ks dst o))) := fun k => by
    rw [← hob3]; exact look_receive k
  have hP : ∀ p, p ∈ o → pl3.blk (backK ks dst p.1) = pl''.blk p.1 ∧ pl3.fn (backK ks dst p.1) = pl''.fn p.1 := fun p hp => by
    have := find_apart (f := fun q : Key × Obj => backK ks dst q.1) hap p hp
    rw [← hpl3]
    simp only [Pl.back, this, and_self]
  have hgone : ∀ k, goneK ks dst o k = false → (∀ p, p ∈ o → backK ks dst p.1 ≠ k) ∧ ¬ k ∈ ks := fun k hg => by
    unfold goneK at hg
    simp only [Bool.or_eq_false_iff] at hg
    refine ⟨fun p hp e => ?_, fun hk => ?_⟩
    · have := List.any_eq_false.1 hg.2 p hp
      rw [e] at this
      simp at this
    · have := List.any_eq_false.1 hg.1.2 k hk
      simp at this
  have hN : ∀ k, goneK ks dst o k = false → pl3.blk k = pl.blk k ∧ pl3.fn k = pl.fn k := fun k hg => by
    have : o.find? (fun p => keyB (backK ks dst p.1) k) = none := List.find?_eq_none.2 fun p hp => by
      rw [keyB_ne ((hgone k hg).1 p hp)]; simp
    rw [← hpl3]
    simp only [Pl.back, this, and_self]
  -- what is looked up
  have hlkN : ∀ k ob, goneK ks dst o k = false → lookO objs3 k = some ob → ∃ ob0, lookO st.objs k = some ob0 ∧ ob = ob0.map (L.kill (killK ks dst o)) := fun k ob hg ho => by
    rw [hlk, if_neg (by rw [hg]; simp)] at ho
    obtain ⟨ob0, h1, h2⟩ := Option.map_eq_some_iff.1 ho
    exact ⟨ob0, h1, h2.symm⟩
  have hlkP : ∀ k ob, goneK ks dst o k = true → lookO objs3 k = some ob → ∃ p, p ∈ o ∧ backK ks dst p.1 = k ∧ ob = p.2.map (L.ren (backR ks dst o)) := fun k ob hg ho => by
    rw [hlk, if_pos hg] at ho
    exact look_map (f := backK ks dst) (g := Obj.map (L.ren (backR ks dst o))) ho
  have hlo : ∀ p, p ∈ o → lookO o p.1 = some p.2 := look_apart (f := backK ks dst) hap
  have hks : Keeps (fun b => Mut pl st.objs b) w w'' := by
    have hk := hc.keep
    rw [e0] at hk
    exact hk.mono fun b _ hb => by
      obtain ⟨k, ob, _, ho, hkb⟩ := hM b hb
      exact ⟨k, ob, ho, hkb⟩
  have hkeepE : ∀ b, b < w.heap.size → ¬ E'.M b → w''.heap[b]? = w.heap[b]? := fun b hb hn => by
    have hk := hc.keep
    rw [e0] at hk
    exact hk.block b hb hn
  -- blocks of what was not sent
  have hown : ∀ k b, goneK ks dst o k = false → (lookO st.objs k).isSome → pl.blk k = some b → w''.heap[b]? = w.heap[b]? := fun k b hg h1 h2 =>
    hkeepE b (h.heap.own k b h1 h2).1 fun hb => by
      obtain ⟨k2, ob, hm, ho, hkb⟩ := hM b hb
      have := h.heap.inj k k2 b h1 (by rw [ho]; rfl) h2 hkb
      subst this
      exact (hgone k hg).2 hm
  have hmut3 : ∀ b, Mut pl3 objs3 b → Mut pl st.objs b ∨ w.heap.size ≤ b := by
    rintro b ⟨k, ob, ho, hb⟩
    cases hg : goneK ks dst o k with
    | false =>
      obtain ⟨ob0, h1, _⟩ := hlkN k ob hg ho
      rw [(hN k hg).1] at hb
      exact .inl ⟨k, ob0, h1, hb⟩
    | true =>
      obtain ⟨p, hp, rfl, _⟩ := hlkP k ob hg ho
      rw [(hP p hp).1] at hb
      have := (hc.own p.1 b (by rw [hlo p hp]; rfl) hb).2.2
      rcases this with hm | hge
      · obtain ⟨k2, ob2, _, ho2, hkb⟩ := hM b hm
        exact .inl ⟨k2, ob2, ho2, hkb⟩
      · rw [e0] at hge
        exact .inr hge
  have hok : ∀ b, E.ok pl st.objs w b → E.ok pl3 objs3 w'' b ∧ w''.heap[b]? = w.heap[b]? := fun b hb =>
    ⟨Env.ok_mono hks.size hmut3 hb, hks.block b hb.1 hb.2.2⟩
  have hokb : ∀ b, okc b → E.ok pl3 objs3 w'' b ∧ w''.heap[b]? = w''.heap[b]? := fun b hb => by
    obtain ⟨h1, h2, h3⟩ := hokc b hb
    refine ⟨?_, rfl⟩
    rcases h2 with h2 | h2
    · exact (hok b h2).1
    · refine ⟨h1, ?_, ?_⟩
      · rcases h2 with h2 | h2
        · obtain ⟨k2, ob2, _, ho2, hkb⟩ := hM b h2
          exact (h.heap.own k2 b (by rw [ho2]; rfl) hkb).2.2.imp (hE.sub b) id
        · exact .inr (Nat.le_trans h.heap.keep.size h2)
      · rintro ⟨k, ob, ho, hb3⟩
        cases hg : goneK ks dst o k with
        | false =>
          obtain ⟨ob0, h4, _⟩ := hlkN k ob hg ho
          rw [(hN k hg).1] at hb3
          rcases h2 with h2 | h2
          · obtain ⟨k2, ob2, hm, ho2, hkb⟩ := hM b h2
            have := h.heap.inj k k2 b (by rw [h4]; rfl) (by rw [ho2]; rfl) hb3 hkb
            subst this
            exact (hgone k hg).2 hm
          · have := (h.heap.own k b (by rw [h4]; rfl) hb3).1
            omega
        | true =>
          obtain ⟨p, hp, rfl, _⟩ := hlkP k ob hg ho
          rw [(hP p hp).1] at hb3
          exact h3 ⟨p.1, p.2, hlo p hp, hb3⟩
  -- names that are kept
  have huniq : ∀ p p2, p ∈ o → p2 ∈ o → backK ks dst p.1 = backK ks dst p2.1 → p = p2 := fun p p2 h1 h2 e => by
    have f1 := find_apart (f := fun q : Key × Obj => backK ks dst q.1) hap p h1
    have f2 := find_apart (f := fun q : Key × Obj => backK ks dst q.1) hap p2 h2
    have f1' : o.find? (fun q => keyB (backK ks dst q.1) (backK ks dst p.1)) = some p := f1
    have f2' : o.find? (fun q => keyB (backK ks dst q.1) (backK ks dst p2.1)) = some p2 := f2
    rw [← e, f1'] at f2'
    exact Option.some.inj f2'
  have hgoneP : ∀ p, p ∈ o → goneK ks dst o (backK ks dst p.1) = true := fun p hp => by
    unfold goneK
    rw [Bool.or_eq_true]
    exact .inr (List.any_eq_true.2 ⟨p, hp, keyB_self _⟩)
  have hslP : ∀ p s xs, p ∈ o → lookO objs3 (backK ks dst p.1) = some (.slice s xs) → p.2 = .slice s xs := fun p s xs hp hl => by
    obtain ⟨p2, hp2, e, hm⟩ := hlkP _ _ (hgoneP p hp) hl
    have := huniq p2 p hp2 hp e
    subst this
    exact Obj.map_slice hm.symm
  have hclP : ∀ p g f c, p ∈ o → lookO objs3 (backK ks dst p.1) = some (.clo g f c) → ∃ f' c', p.2 = .clo g f' c' := fun p g f c hp hl => by
    obtain ⟨p2, hp2, e, hm⟩ := hlkP _ _ (hgoneP p hp) hl
    have := huniq p2 p hp2 hp e
    subst this
    cases h2 : p2.2 with
    | cells ls => rw [h2] at hm; cases hm
    | slice s xs => rw [h2] at hm; cases hm
    | clo g' f' c' => rw [h2] at hm; cases hm; exact ⟨_, _, rfl⟩
  have hsame : ∀ k, killK ks dst o k = false → Same pl st.objs w pl3 objs3 w'' k := by
    intro k hk
    cases hg : goneK ks dst o k with
    | false => exact Same.map (f := L.kill (killK ks dst o)) (fun ob ho => hlkN k ob hg ho) (hN k hg).1 (hN k hg).2 (hown k · hg)
    | true =>
      unfold killK at hk
      rw [hg] at hk
      simp only [Bool.true_and, Bool.not_eq_false'] at hk
      obtain ⟨p, hp, hpk⟩ := List.any_eq_true.1 hk
      simp only [Bool.and_eq_true] at hpk
      obtain ⟨hpi, hpd⟩ := hpk
      split at hpd
      · rename_i k' hd
        have hkk := keyB_iff.1 hpd
        subst hkk
        have hb : backK ks dst p.1 = k' := by simp [backK, hd]
        have hs := hc.imp p.1 hpi (by rw [hlo p hp]; rfl)
        rw [eP, eO, e0] at hs
        refine ⟨?_, ?_, fun s xs hl => ?_, fun g f c hl => ?_⟩
        · rw [← hb, (hP p hp).1, hs.blk, hb]; simp [Pl.sent, hd]
        · rw [← hb, (hP p hp).2, hs.fn, hb]; simp [Pl.sent, hd]
        · rw [← hb] at hl
          have h2 := hslP p s xs hp hl
          obtain ⟨xs', h3, h4, h5⟩ := hs.sl s xs (by rw [hlo p hp, h2])
          obtain ⟨k3, hd3, hl3⟩ := hsl _ _ _ h3
          rw [hd] at hd3
          cases hd3
          exact ⟨xs', hl3, h4, fun b cur e hb3 hw => h5 b cur e (by simp [Pl.sent, hd, hb3]) hw⟩
        · rw [← hb] at hl
          obtain ⟨f1, c1, h2⟩ := hclP p g f c hp hl
          obtain ⟨f2, c2, h3⟩ := hs.clo g f1 c1 (by rw [hlo p hp, h2])
          obtain ⟨k3, f3, c3, hd3, hl3⟩ := hcl _ _ _ _ h3
          rw [hd] at hd3
          cases hd3
          exact ⟨f3, c3, hl3⟩
      · cases hpd
  have hS2 : ∀ k1 k2, backR ks dst o k1 = some k2 → Same2 pl'' o w'' k1 pl3 objs3 w'' k2 := by
    intro k1 k2 hb
    unfold backR at hb
    cases hany : o.any (fun p => keyB p.1 k1) with
    | false => rw [hany] at hb; cases hb
    | true =>
      rw [hany] at hb
      simp only [cond_true, Option.some.injEq] at hb
      obtain ⟨p, hp, hpk⟩ := List.any_eq_true.1 hany
      have e1 := keyB_iff.1 hpk
      subst e1
      subst hb
      refine ⟨(hP p hp).1, (hP p hp).2, fun s xs hl => ⟨xs, by rw [hlo p hp, hslP p s xs hp hl], rfl, fun b cur e _ hw => ⟨cur, e, hw, rfl⟩⟩, fun g f c hl => ?_⟩
      obtain ⟨f1, c1, h2⟩ := hclP p g f c hp hl
      exact ⟨f1, c1, by rw [hlo p hp, h2]⟩
  have hleafC : ∀ l y, LR' pl st.objs w (E.ok pl st.objs w) l y → LR' pl3 objs3 w'' (E.ok pl3 objs3 w'') (l.kill (killK ks dst o)) y := fun l y hl => hl.kill hok hsame
  have hleafB : ∀ l y, LR' pl'' o w'' okc l y → LR' pl3 objs3 w'' (E.ok pl3 objs3 w'') (l.ren (backR ks dst o)) y := fun l y hl => hl.ren hokb (fun k k' _ e => hS2 k k' e)
  refine ⟨⟨h.defers, ?_, ?_⟩, fun c v hcv => hcv.map hleafB rfl⟩
  · have := h.slots.mapL (S := CRel pl3 objs3 w'' (E.ok pl3 objs3 w'')) (g := C.map (L.kill (killK ks dst o))) fun c y hcy => hcy.map hleafC rfl
    rw [hob3]
    exact this
  · rw [hob3]
    refine ⟨fun k k' b h1 h2 h3 h4 => ?_, fun k b h1 h2 => ?_, fun k ob ho => ?_, h.keepStep hks, fun k hk h1 => ?_, by rw [← eG]; exact hc.glob⟩
    · obtain ⟨ob1, ho1⟩ := Option.isSome_iff_exists.1 h1
      obtain ⟨ob2, ho2⟩ := Option.isSome_iff_exists.1 h2
      have cross : ∀ k k' ob1 ob2, goneK ks dst o k = false → goneK ks dst o k' = true → lookO objs3 k = some ob1 → lookO objs3 k' = some ob2 → pl3.blk k = some b → pl3.blk k' = some b → False := by
        intro k k' ob1 ob2 g1 g2 l1 l2 b1 b2
        obtain ⟨ob0, h5, _⟩ := hlkN k ob1 g1 l1
        obtain ⟨p, hp, rfl, _⟩ := hlkP k' ob2 g2 l2
        rw [(hN k g1).1] at b1
        rw [(hP p hp).1] at b2
        have hlt := (h.heap.own k b (by rw [h5]; rfl) b1).1
        rcases (hc.own p.1 b (by rw [hlo p hp]; rfl) b2).2.2 with hm | hge
        · obtain ⟨k2, ob3, hm2, ho3, hkb⟩ := hM b hm
          have := h.heap.inj k k2 b (by rw [h5]; rfl) (by rw [ho3]; rfl) b1 hkb
          subst this
          exact (hgone k g1).2 hm2
        · rw [e0] at hge
          omega
      cases g1 : goneK ks dst o k with
      | false =>
        cases g2 : goneK ks dst o k' with
        | false =>
          obtain ⟨ob3, h5, _⟩ := hlkN k ob1 g1 ho1
          obtain ⟨ob4, h6, _⟩ := hlkN k' ob2 g2 ho2
          rw [(hN k g1).1] at h3
          rw [(hN k' g2).1] at h4
          exact h.heap.inj k k' b (by rw [h5]; rfl) (by rw [h6]; rfl) h3 h4
        | true => exact (cross k k' ob1 ob2 g1 g2 ho1 ho2 h3 h4).elim
      | true =>
        cases g2 : goneK ks dst o k' with
        | false => exact (cross k' k ob2 ob1 g2 g1 ho2 ho1 h4 h3).elim
        | true =>
          obtain ⟨p, hp, rfl, _⟩ := hlkP k ob1 g1 ho1
          obtain ⟨p2, hp2, rfl, _⟩ := hlkP k' ob2 g2 ho2
          rw [(hP p hp).1] at h3
          rw [(hP p2 hp2).1] at h4
          rw [hc.inj p.1 p2.1 b (by rw [hlo p hp]; rfl) (by rw [hlo p2 hp2]; rfl) h3 h4]
    · obtain ⟨ob1, ho1⟩ := Option.isSome_iff_exists.1 h1
      cases g1 : goneK ks dst o k with
      | false =>
        obtain ⟨ob3, h5, _⟩ := hlkN k ob1 g1 ho1
        rw [(hN k g1).1] at h2
        obtain ⟨q1, q2, q3⟩ := h.heap.own k b (by rw [h5]; rfl) h2
        exact ⟨Nat.lt_of_lt_of_le q1 hks.size, q2, q3⟩
      | true =>
        obtain ⟨p, hp, rfl, _⟩ := hlkP k ob1 g1 ho1
        rw [(hP p hp).1] at h2
        obtain ⟨q1, q2, q3⟩ := hc.own p.1 b (by rw [hlo p hp]; rfl) h2
        refine ⟨q1, by rw [← eL]; exact q2, ?_⟩
        rcases q3 with hm | hge
        · obtain ⟨k2, ob3, hm2, ho3, hkb⟩ := hM b hm
          exact (h.heap.own k2 b (by rw [ho3]; rfl) hkb).2.2
        · rw [e0] at hge
          exact .inr (Nat.le_trans h.heap.keep.size hge)
    · cases g1 : goneK ks dst o k with
      | false =>
        obtain ⟨ob0, h5, rfl⟩ := hlkN k ob g1 ho
        exact (h.heap.obj k ob0 h5).map hok hleafC rfl (hN k g1).1 (hN k g1).2 (fun b hb => hown k b g1 (by rw [h5]; rfl) hb)
      | true =>
        obtain ⟨p, hp, rfl, rfl⟩ := hlkP k ob g1 ho
        have hb := (hP p hp).1
        have hf := (hP p hp).2
        have h0 := hobj p.1 p.2 (hlo p hp)
        cases h2 : p.2 with
        | cells ls =>
          rw [h2] at h0
          obtain ⟨b, cur, e, q1, q2, q3⟩ := h0
          exact ⟨b, cur, e, by rw [hb]; exact q1, q2, q3.mapL hleafB⟩
        | slice s2 xs =>
          rw [h2] at h0
          obtain ⟨hn, h0⟩ := h0
          refine ⟨hn, ?_⟩
          rcases h0 with ⟨q1, q2⟩ | ⟨b, cur, e, cap, q1, q2, q3, q4, q5, q6⟩
          · exact .inl ⟨by rw [hb]; exact q1, q2⟩
          · exact .inr ⟨b, cur, e, cap, by rw [hb]; exact q1, q2, q3, q4, q5, q6.mono hokb⟩
        | clo g f c =>
          rw [h2] at h0
          obtain ⟨q1, fs, cs, q2, q3, q4⟩ := h0
          exact ⟨by rw [hb]; exact q1, fs, cs, by rw [hf]; exact q2, All2.mapL (g := fun p => (p.1, p.2.map (L.ren (backR ks dst o)))) (fun _ _ h => PR.map hleafB rfl h) q3, q4.mapL hleafB⟩
    · obtain ⟨ob1, ho1⟩ := Option.isSome_iff_exists.1 h1
      cases g1 : goneK ks dst o k with
      | false =>
        obtain ⟨ob3, h5, _⟩ := hlkN k ob1 g1 ho1
        exact (h.heap.imp k hk (by rw [h5]; rfl)).trans (hsame k (by unfold killK; rw [g1]; rfl))
      | true =>
        obtain ⟨p, hp, hbk, _⟩ := hlkP k ob1 g1 ho1
        -- an imported name comes back under an imported name
        cases hd : decK ks p.1 with
        | none =>
          simp only [backK, hd] at hbk
          subst hbk
          cases hk
        | some k' =>
          simp only [backK, hd] at hbk
          subst hbk
          have hpi : isImp p.1 = true := by
            cases hp1 : p.1 with
            | imp i => rfl
            | fld k2 off =>
              rw [hp1] at hd
              simp only [decK] at hd
              split at hd
              · cases hd; cases hk
              · cases hd
            | loc s => rw [hp1] at hd; cases hd
            | sub d k2 => rw [hp1] at hd; cases hd
            | res j => rw [hp1] at hd; cases hd
          have hmem : k' ∈ ks := by
            cases hp1 : p.1 with
            | imp i => rw [hp1] at hd; exact List.mem_of_getElem? hd
            | _ => rw [hp1] at hpi; cases hpi
          refine (h.heap.imp k' hk (hksome k' hmem)).trans (hsame k' ?_)
          unfold killK
          rw [Bool.and_eq_false_iff]
          refine .inr ?_
          rw [Bool.not_eq_false']
          exact List.any_eq_true.2 ⟨p, hp, by rw [hpi, hd]; simp⟩

end
end Go.AI
