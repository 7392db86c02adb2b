/-
  Calls: contracts, and what a call does to the caller's state.
-/
import Derived.Test.YtcgpoabiloehnaaDoorReceive
set_option linter.unusedVariables false
set_option linter.unusedSimpArgs false
namespace Go.AI
open Go

section
variable {P : Program} {E : Env} {pl : Pl} {st : St} {a : Act} {w : World} {objs : Objs} {ok ok' : Nat → Prop}

/-- the value of a panic -/
def panV (t : TypeId) : List PanicEntry := [{ v := .iface t (.agg #[]), recovered := false }]

/-- how a call ends, as it is told -/
def EndR (E : Env) : Res → Ending → World → Prop
  | .ret c o, e, w' => ∃ v pl', e = .returned v ∧ HeapR E pl' o w' ∧ CRel pl' o w' (E.ok pl' o w') c v
  | .pan t o, e, w' => ∃ pl', e = .panicked (panV t) ∧ HeapR E pl' o w'

/-- a function that is entered -/
def Enters (P : Program) (f : FuncId) : Prop := ∃ fn, P.funcs[f]? = some fn ∧ fn.body.isNone = false ∧ (fn.name == "runtime.NumGoroutine") = false

/-- THE CONTRACT of a function -/
def Snd (P : Program) (G : World → Prop) (lo : Nat) (f : FuncId) (p : List C → Objs → Option Res) : Prop :=
  ∀ (E : Env) (pl : Pl) (w : World) (args : List C) (objs : Objs) (vs : Array Value) (r : Res), E.Good → E.G = G → E.lo = lo → E.w0 = w → E.pl0 = pl → E.objs0 = objs →
    HeapR E pl objs w → All2 (CRel pl objs w (E.ok pl objs w)) args vs.toList → p args objs = some r → Enters P f ∧ Calls P f vs w (EndR E r)

theorem reach_some : ∀ (d : Nat) {todo seen : List Key} {k : Key}, k ∈ reach objs d todo seen → k ∈ seen ∨ (lookO objs k).isSome
  | 0, _, _, _, h => .inl h
  | _ + 1, [], _, _, h => .inl h
  | d + 1, k0 :: todo, seen, k, h => by
    simp only [reach] at h
    cases hs : seen.any (keyB k0) with
    | true => rw [hs] at h; exact reach_some d h
    | false =>
      rw [hs] at h
      simp only [cond_false] at h
      split at h
      · rename_i o ho
        rcases reach_some d h with h | h
        · rcases List.mem_append.1 h with h | h
          · exact .inl h
          · rw [List.mem_singleton.1 h]; exact .inr (by rw [ho]; rfl)
        · exact .inr h
      · exact reach_some d h

theorem send_keys {byRef : List Nat} {args : List C} {k : Key} (h : k ∈ (send objs byRef args).keys) : (lookO objs k).isSome := by
  rcases reach_some 64 (show k ∈ reach objs 64 _ [] from h) with h | h
  · simp at h
  · exact h

/-! ### no lists, no memory that is read -/
theorem LR'.noImm {l : L} {y : Value} (hi : l.imm = false) (h : LR' pl objs w ok l y) : LR' pl objs w ok' l y := by
  refine ⟨h.1, ?_⟩
  have h := h.2
  cases l with
  | v s x => exact CR.noSl hi h
  | velt s xs i off => cases hi
  | _ => exact h
theorem All2.noImm {ls : List L} {vs : List Value} (hi : ls.any L.imm = false) (h : All2 (LR' pl objs w ok) ls vs) : All2 (LR' pl objs w ok') ls vs :=
  h.impMem fun l y hm hl => hl.noImm (by have := List.any_eq_false.1 hi l hm; simpa using this)
theorem PR.noImm {p : Bool × List L} {y : Value} (hi : p.2.any L.imm = false) (h : PR pl objs w ok p y) : PR pl objs w ok' p y := by
  unfold PR at *
  split at h
  · rename_i hb
    obtain ⟨vs, rfl, hv⟩ := h
    rw [if_pos hb]
    exact ⟨vs, rfl, All2.noImm hi hv⟩
  · rename_i hb
    obtain ⟨l, hl, h⟩ := h
    rw [if_neg hb]
    refine ⟨l, hl, ?_⟩
    rcases h with h | h
    · exact .inl h
    · refine .inr (h.noImm ?_)
      rw [hl] at hi
      simpa using hi
theorem CRel.noImm {c : C} {y : Value} (hi : c.imm = false) (h : CRel pl objs w ok c y) : CRel pl objs w ok' c y := by
  cases c with
  | one l =>
    rcases h with h | h
    · exact .inl h
    · exact .inr (h.noImm hi)
  | agg ls =>
    obtain ⟨vs, rfl, hv⟩ := h
    exact ⟨vs, rfl, All2.noImm hi hv⟩
  | tup cs =>
    obtain ⟨vs, rfl, hv⟩ := h
    exact ⟨vs, rfl, hv.impMem fun p y hm hp => hp.noImm (by have := List.any_eq_false.1 hi p hm; simpa using this)⟩
theorem ObjR.noImm {k : Key} {o : Obj} (hi : o.imm = false) (h : ObjR pl objs w ok k o) : ObjR pl objs w ok' k o := by
  cases o with
  | cells ls =>
    obtain ⟨b, cur, e, h1, h2, h3⟩ := h
    exact ⟨b, cur, e, h1, h2, All2.noImm hi h3⟩
  | slice s xs =>
    obtain ⟨hn, h⟩ := h
    refine ⟨hn, ?_⟩
    rcases h with h | ⟨b, cur, e, cap, h1, h2, h3, h4, h5, h6⟩
    · exact .inl h
    · exact .inr ⟨b, cur, e, cap, h1, h2, h3, h4, h5, fun i hi' => by
        obtain ⟨c, hc, hj⟩ := h6 i hi'
        exact ⟨c, CR.noSl hi hc, hj⟩⟩
  | clo g f c =>
    obtain ⟨h1, fs, cs, h2, h3, h4⟩ := h
    simp only [Obj.imm, Bool.or_eq_false_iff] at hi
    exact ⟨h1, fs, cs, h2, h3.impMem fun p y hm hp => hp.noImm (by have := List.any_eq_false.1 hi.1 p hm; simpa using this), All2.noImm hi.2 h4⟩

/-! ### what freezing leaves -/
theorem freeze_keep {key k : Key} {o : Obj} (hne : k ≠ key) (h : lookO st.objs k = some o) : ∃ f : L → L, lookO (st.freeze key).objs k = some (o.map f) := by
  unfold St.freeze
  split
  · rename_i s xs hlk
    exact ⟨L.frz key s xs, by simp only [lookO_mapO, lookO_delO, if_neg hne, h]; rfl⟩
  · exact ⟨fun l => l, by rw [h]; simp⟩
theorem freezes_keep {k : Key} : ∀ (ks : List Key) {st : St} {o : Obj}, ¬ k ∈ ks → lookO st.objs k = some o → ∃ f : L → L, lookO (st.freezes ks).objs k = some (o.map f)
  | [], st, o, _, h => ⟨fun l => l, by rw [show St.freezes [] st = st from rfl, h]; simp⟩
  | k1 :: ks, st, o, hn, h => by
    simp only [List.mem_cons, not_or] at hn
    obtain ⟨f, h1⟩ := freeze_keep (key := k1) hn.1 h
    obtain ⟨g, h2⟩ := freezes_keep ks (st := st.freeze k1) hn.2 h1
    refine ⟨fun l => g (f l), ?_⟩
    rw [show St.freezes (k1 :: ks) st = St.freezes ks (st.freeze k1) from rfl, h2]
    cases o <;> simp [Obj.map, Function.comp_def]

/-- the caller's state behind a call -/
theorem back_sound (hE : E.Good) (h : Rel E pl st a w) {byRef : List Nat} {args : List C} {s : Sent} (hs : send st.objs byRef args = s) (hdis : s.lent.any (fun k => s.keys.any (keyB k)) = false)
    {o : Objs} {pl'' : Pl} {w'' : World} {dst : Nat} {c : C} {v : Value} (hap : apartK ((o.map (·.1)).map (backK s.keys dst)) = true)
    (hc : HeapR (E.callee pl st w s) pl'' o w'') (hcv : CRel pl'' o w'' ((E.callee pl st w s).ok pl'' o w'') c v) :
    ∃ pl3, Rel E pl3 (receive (bif c.imm || o.any (fun q => q.2.imm) then st.freezes s.lent else st) dst s.keys o) a w'' ∧
      CRel pl3 (receive (bif c.imm || o.any (fun q => q.2.imm) then st.freezes s.lent else st) dst s.keys o).objs w''
        (E.ok pl3 (receive (bif c.imm || o.any (fun q => q.2.imm) then st.freezes s.lent else st) dst s.keys o).objs w'') (c.map (L.ren (backR s.keys dst o))) v := by
  have hobjs : s.objs = s.keys.filterMap fun k => match sendK s.keys k, lookO st.objs k with
      | some k', some o => some (k', o.map (L.ren (sendK s.keys)))
      | _, _ => none := by rw [← hs]; rfl
  have hlk : ∀ {k' o'}, lookO s.objs k' = some o' → ∃ k o, k ∈ s.keys ∧ decK s.keys k' = some k ∧ lookO st.objs k = some o ∧ o' = o.map (L.ren (sendK s.keys)) := fun hk => by
    rw [hobjs] at hk
    obtain ⟨k, o, h1, h2, h3⟩ := sent_look hk
    exact ⟨k, o, h1, decK_sendK _ h2, h3⟩
  have hks : ∀ k, k ∈ s.keys → (lookO st.objs k).isSome := fun k hk => by rw [← hs] at hk; exact send_keys hk
  have hnl : ∀ k, k ∈ s.keys → ¬ k ∈ s.lent := fun k hk hl => by
    have := List.any_eq_false.1 hdis k hl
    exact this (List.any_eq_true.2 ⟨k, hk, keyB_self k⟩)
  have hap' : apartK (o.map fun p => backK s.keys dst p.1) = true := by rw [List.map_map] at hap; exact hap
  cases himm : (c.imm || o.any (fun q => q.2.imm)) with
  | true =>
    simp only [cond_true]
    have h0 := Rel.freezes hE s.lent h
    have keep : ∀ k ob, k ∈ s.keys → lookO st.objs k = some ob → ∃ f : L → L, lookO (st.freezes s.lent).objs k = some (ob.map f) := fun k ob hk ho => freezes_keep s.lent (hnl k hk) ho
    obtain ⟨h1, h2⟩ := receive_sound (E' := E.callee pl st w s) (okc := (E.callee pl st w s).ok pl'' o w'') hE h0 (objsc := s.objs) (ks := s.keys) (dst := dst) rfl rfl rfl rfl rfl
      (fun b hb => by
        obtain ⟨k, ob, hm, ho, hkb⟩ := hb
        obtain ⟨f, hf⟩ := keep k ob hm ho
        exact ⟨k, _, hm, hf, hkb⟩)
      (fun k' s2 xs hl => by
        obtain ⟨k, ob, hm, hd, ho, e⟩ := hlk hl
        obtain ⟨f, hf⟩ := keep k ob hm ho
        rw [Obj.map_slice e.symm] at hf
        exact ⟨k, hd, hf⟩)
      (fun k' g f c hl => by
        obtain ⟨k, ob, hm, hd, ho, e⟩ := hlk hl
        obtain ⟨ff, hf⟩ := keep k ob hm ho
        cases ob with
        | cells _ => cases e
        | slice _ _ => cases e
        | clo g' f' c' => cases e; exact ⟨k, _, _, hd, hf⟩)
      (fun k hk => by
        obtain ⟨ob, ho⟩ := Option.isSome_iff_exists.1 (hks k hk)
        obtain ⟨f, hf⟩ := keep k ob hk ho
        rw [hf]; rfl)
      hap' hc
      (fun b hb => by
        refine ⟨hb.1, ?_, hb.2.2⟩
        rcases hb.2.1 with (hb | hb | hb) | hb
        · exact .inl (freezes_ok hE s.lent h (.inl hb))
        · exact .inr (.inl hb)
        · exact .inl (freezes_ok hE s.lent h (.inr hb))
        · exact .inr (.inr hb))
      hc.obj
    exact ⟨_, h1, h2 c v hcv⟩
  | false =>
    simp only [cond_false]
    rw [Bool.or_eq_false_iff] at himm
    obtain ⟨h1, h2⟩ := receive_sound (E' := E.callee pl st w s) (okc := fun _ => False) hE h (objsc := s.objs) (ks := s.keys) (dst := dst) rfl rfl rfl rfl rfl
      (fun b hb => hb)
      (fun k' s2 xs hl => by
        obtain ⟨k, ob, hm, hd, ho, e⟩ := hlk hl
        rw [Obj.map_slice e.symm] at ho
        exact ⟨k, hd, ho⟩)
      (fun k' g f c hl => by
        obtain ⟨k, ob, hm, hd, ho, e⟩ := hlk hl
        cases ob with
        | cells _ => cases e
        | slice _ _ => cases e
        | clo g' f' c' => cases e; exact ⟨k, _, _, hd, ho⟩)
      hks hap' hc (fun b hb => hb.elim)
      (fun k ob ho => (hc.obj k ob ho).noImm (by
        have := List.any_eq_false.1 himm.2 _ (mem_of_look ho)
        simpa using this))
    exact ⟨_, h1, h2 c v (hcv.noImm himm.1)⟩

/-- what a call leads to -/
def CallOut (E : Env) {R : Type} (K : C → St → Option R) (X : TypeId → St → Option R) (r : R) (a : Act) (e : Ending) (w' : World) : Prop :=
  (∃ v, e = .returned v ∧ Out E K r a v w') ∨ ∃ t st' pl', e = .panicked (panV t) ∧ X t st' = some r ∧ Rel E pl' st' a w'

/-! ### patterns -/
theorem LP.mk_un {p : LP} {l : L} {x : p.Pay} (h : p.un l = some x) {y : Value} (hl : LR' pl objs w ok l y) : LR' pl objs w ok (p.mk x) y := by
  refine ⟨hl.1, ?_⟩
  have hy := hl.2
  cases p with
  | v s =>
    cases l <;> first
      | (cases s <;> simp [LP.un] at h; done)
      | skip
    · cases s <;> simp [LP.un] at h
      subst h
      exact show CR w ok .bool true [y] by rw [show y = _ from hy]; rfl
    · cases s <;> simp [LP.un] at h
      subst h
      exact show CR w ok .bool false [y] by rw [show y = _ from hy]; rfl
    · rename_i t z
      have h' : castV t s z = some x := by cases s <;> exact h
      exact cast_cr h' hy
    · cases s <;> simp [LP.un] at h
      subst h
      exact ⟨none, 0, by rw [show y = _ from hy]; rfl, Nat.le_refl _, fun h0 => absurd h0 (by simp)⟩
  | dead => trivial
  | box k off =>
    cases l <;> simp only [LP.un] at h <;> first | (cases h; done) | skip
    rename_i k' off'
    cases hb : (keyB k k' && Nat.beq off off') with
    | false => rw [hb] at h; cases h
    | true =>
      rw [Bool.and_eq_true] at hb
      rw [keyB_iff.1 hb.1, Nat.eq_of_beq_eq_true hb.2]
      exact hy
  | sl k =>
    cases l <;> simp only [LP.un] at h <;> first | (cases h; done) | skip
    rename_i k'
    cases hb : keyB k k' with
    | false => rw [hb] at h; cases h
    | true => rw [keyB_iff.1 hb]; exact hy
  | clo k =>
    cases l <;> simp only [LP.un] at h <;> first | (cases h; done) | skip
    rename_i k'
    cases hb : keyB k k' with
    | false => rw [hb] at h; cases h
    | true => rw [keyB_iff.1 hb]; exact hy
  | fn f =>
    cases l <;> simp only [LP.un] at h <;> first | (cases h; done) | skip
    rename_i f'
    cases hb : Nat.beq f f' with
    | false => rw [hb] at h; cases h
    | true => rw [Nat.eq_of_beq_eq_true hb]; exact hy
  | ifc t =>
    cases l <;> simp only [LP.un] at h <;> first | (cases h; done) | skip
    rename_i t'
    cases hb : Nat.beq t t' with
    | false => rw [hb] at h; cases h
    | true => rw [Nat.eq_of_beq_eq_true hb]; exact hy
  | nilp => cases l <;> simp only [LP.un] at h <;> first | (cases h; done) | exact hy
  | nilf => cases l <;> simp only [LP.un] at h <;> first | (cases h; done) | exact hy
  | nils => cases l <;> simp only [LP.un] at h <;> first | (cases h; done) | exact hy
  | nili => cases l <;> simp only [LP.un] at h <;> first | (cases h; done) | exact hy
  | nilm => cases l <;> simp only [LP.un] at h <;> first | (cases h; done) | exact hy

theorem mkLs_un : ∀ {ps : List LP} {ls : List L} {x : PayLs ps} {ys : List Value}, unLs ps ls = some x → All2 (LR' pl objs w ok) ls ys → All2 (LR' pl objs w ok) (mkLs ps x) ys
  | [], [], x, ys, _, h => h
  | [], _ :: _, _, _, h, _ => by simp [unLs] at h
  | _ :: _, [], _, _, h, _ => by simp [unLs] at h
  | p :: ps, l :: ls, x, [], _, h => by cases h
  | p :: ps, l :: ls, x, y :: ys, h, hl => by
    simp only [unLs] at h
    split at h
    · rename_i x1 x2 h1 h2
      cases h
      exact ⟨LP.mk_un h1 hl.1, mkLs_un h2 hl.2⟩
    · cases h

theorem PR.mk_un {ps : List LP} {b : Bool} {ls : List L} {x : PayLs ps} (h : unLs ps ls = some x) {y : Value} (hl : PR pl objs w ok (b, ls) y) : PR pl objs w ok (b, mkLs ps x) y := by
  unfold PR at *
  split at hl
  · rename_i hb
    obtain ⟨vs, rfl, hv⟩ := hl
    rw [if_pos hb]
    exact ⟨vs, rfl, mkLs_un h hv⟩
  · rename_i hb
    obtain ⟨l, hl, hr⟩ := hl
    simp only at hl
    subst hl
    rw [if_neg hb]
    cases ps with
    | nil => simp [unLs] at h
    | cons p ps =>
      simp only [unLs] at h
      split at h
      · rename_i x1 x2 h1 h2
        cases h
        cases ps with
        | cons _ _ => simp [unLs] at h2
        | nil =>
          refine ⟨p.mk x1, rfl, ?_⟩
          rcases hr with rfl | hr
          · left
            cases p <;> simp only [LP.un] at h1 <;> first
              | rfl
              | (cases h1; done)
              | (rename_i s; cases s <;> simp [LP.un] at h1)
          · exact .inr (LP.mk_un h1 hr)
      · cases h

theorem mkCs_un : ∀ {ps : List (Bool × List LP)} {cs : List (Bool × List L)} {x : PayCs ps} {ys : List Value}, unCs ps cs = some x → All2 (PR pl objs w ok) cs ys → All2 (PR pl objs w ok) (mkCs ps x) ys
  | [], [], x, ys, _, h => h
  | [], _ :: _, _, _, h, _ => by simp [unCs] at h
  | _ :: _, [], _, _, h, _ => by simp [unCs] at h
  | p :: ps, l :: ls, x, [], _, h => by cases h
  | p :: ps, l :: ls, x, y :: ys, h, hl => by
    simp only [unCs] at h
    cases hb : (p.1 == l.1) with
    | false => rw [hb] at h; cases h
    | true =>
      rw [hb] at h
      simp only [cond_true] at h
      split at h
      · rename_i x1 x2 h1 h2
        cases h
        have e : p.1 = l.1 := by simpa using hb
        refine ⟨?_, mkCs_un h2 hl.2⟩
        show PR pl objs w ok (p.1, mkLs p.2 x1) y
        rw [e]
        exact PR.mk_un h1 hl.1
      · cases h

theorem CP.mk_un {p : CP} {c : C} {x : p.Pay} (h : p.un c = some x) {v : Value} (hc : CRel pl objs w ok c v) : CRel pl objs w ok (p.mk x) v := by
  cases p with
  | one l =>
    cases c with
    | one l2 =>
      have h' : l.un l2 = some x := by cases l <;> exact h
      rcases hc with rfl | hc
      · cases l <;> simp only [LP.un] at h' <;> first
          | exact .inl rfl
          | (cases h'; done)
          | (rename_i s; cases s <;> simp [LP.un] at h')
      · exact .inr (LP.mk_un h' hc)
    | agg ls => cases l <;> simp only [CP.un] at h <;> first | exact .inl rfl | (cases h; done)
    | tup cs => cases l <;> simp only [CP.un] at h <;> first | exact .inl rfl | (cases h; done)
  | agg ls =>
    cases c <;> simp only [CP.un] at h <;> first | (cases h; done) | skip
    obtain ⟨vs, rfl, hv⟩ := hc
    exact ⟨vs, rfl, mkLs_un h hv⟩
  | tup cs =>
    cases c <;> simp only [CP.un] at h <;> first | (cases h; done) | skip
    obtain ⟨vs, rfl, hv⟩ := hc
    exact ⟨vs, rfl, mkCs_un h hv⟩

/-- an object that is told less of -/
structure Weak (ob ob' : Obj) : Prop where
  obj : ∀ (pl : Pl) (objs : Objs) (w : World) (ok : Nat → Prop) (k : Key), ObjR pl objs w ok k ob → ObjR pl objs w ok k ob'
  sl : ∀ s xs, ob' = .slice s xs → ob = .slice s xs
  clo : ∀ g f c, ob' = .clo g f c → ∃ f' c', ob = .clo g f' c'

theorem OP.mk_un {p : OP} {o : Obj} {x : p.Pay} (h : p.un o = some x) : Weak o (p.mk x) := by
  cases p with
  | cells ls =>
    cases o <;> simp only [OP.un] at h <;> first | (cases h; done) | skip
    exact ⟨fun pl objs w ok k ⟨b, cur, e, h1, h2, h3⟩ => ⟨b, cur, e, h1, h2, mkLs_un h h3⟩, (fun s xs e => by cases e), (fun g f c e => by cases e)⟩
  | slice s =>
    cases o <;> simp only [OP.un] at h <;> first | (cases h; done) | skip
    obtain ⟨e, rfl⟩ := castV_eq h
    cases e
    exact ⟨fun _ _ _ _ _ h => h, (fun s xs e => e), (fun g f c e => by cases e)⟩
  | clo g f c =>
    cases o <;> simp only [OP.un] at h <;> first | (cases h; done) | skip
    rename_i g' f' c'
    cases hb : Nat.beq g g' with
    | false => rw [hb] at h; cases h
    | true =>
      rw [hb] at h
      simp only [cond_true] at h
      have e := Nat.eq_of_beq_eq_true hb
      subst e
      split at h
      · rename_i x1 x2 h1 h2
        cases h
        exact ⟨fun pl objs w ok k ⟨q1, fs, cs, q2, q3, q4⟩ => ⟨q1, fs, cs, q2, mkCs_un h1 q3, mkLs_un h2 q4⟩, (fun s xs e => by cases e), (fun g f c e => by cases e; exact ⟨_, _, rfl⟩)⟩
      · cases h

theorem look_mkOs : ∀ {ps : List (Key × OP)} {o : Objs} {x : PayOs ps} {k : Key} {ob' : Obj}, unOs o ps = some x → lookO (mkOs ps x) k = some ob' → ∃ ob, lookO o k = some ob ∧ Weak ob ob'
  | [], _, _, _, _, _, h => by simp [mkOs, lookO] at h
  | p :: ps, o, x, k, ob', h, hl => by
    simp only [unOs] at h
    split at h
    · rename_i ob hob
      split at h
      · rename_i x1 x2 h1 h2
        cases h
        simp only [mkOs, lookO] at hl
        by_cases e : p.1 = k
        · subst e
          simp only [keyB_self, cond_true, Option.some.injEq] at hl
          subst hl
          exact ⟨ob, hob, OP.mk_un h1⟩
        · rw [keyB_ne e] at hl
          exact look_mkOs h2 hl
      · cases h
    · cases h

/-- less is told -/
theorem HeapR.weaken {objs' : Objs} (h : HeapR E pl objs w) (hl : ∀ k ob', lookO objs' k = some ob' → ∃ ob, lookO objs k = some ob ∧ Weak ob ob') :
    HeapR E pl objs' w ∧ (∀ l y, LR' pl objs w (E.ok pl objs w) l y → LR' pl objs' w (E.ok pl objs' w) l y) := by
  have hok : ∀ b, E.ok pl objs w b → E.ok pl objs' w b ∧ w.heap[b]? = w.heap[b]? := fun b hb => ⟨⟨hb.1, hb.2.1, fun ⟨k, ob', ho, hb'⟩ => by
    obtain ⟨ob, h1, _⟩ := hl k ob' ho
    exact hb.2.2 ⟨k, ob, h1, hb'⟩⟩, rfl⟩
  have hsame : ∀ k, Same pl objs w pl objs' w k := fun k => ⟨rfl, rfl, (fun s xs hs => by
    obtain ⟨ob, h1, h2⟩ := hl k _ hs
    exact ⟨xs, by rw [h1, h2.sl s xs rfl], rfl, fun b cur e _ hw => ⟨cur, e, hw, rfl⟩⟩), (fun g f c hs => by
    obtain ⟨ob, h1, h2⟩ := hl k _ hs
    obtain ⟨f', c', e⟩ := h2.clo g f c rfl
    exact ⟨f', c', by rw [h1, e]⟩)⟩
  have hleaf : ∀ l y, LR' pl objs w (E.ok pl objs w) l y → LR' pl objs' w (E.ok pl objs' w) l y := fun l y hl => hl.step hok (fun k _ => hsame k)
  have some' : ∀ k, (lookO objs' k).isSome → (lookO objs k).isSome := fun k hk => by
    obtain ⟨ob', ho⟩ := Option.isSome_iff_exists.1 hk
    obtain ⟨ob, h1, _⟩ := hl k ob' ho
    rw [h1]; rfl
  refine ⟨⟨fun k k' b h1 h2 => h.inj k k' b (some' k h1) (some' k' h2), fun k b h1 => h.own k b (some' k h1), fun k ob' ho => ?_, h.keep, fun k hk h1 => (h.imp k hk (some' k h1)).trans (hsame k), h.glob⟩, hleaf⟩
  obtain ⟨ob, h1, h2⟩ := hl k ob' ho
  have := ObjR.map (f := fun l => l) hok hleaf rfl rfl rfl (fun _ _ => rfl) (h2.obj _ _ _ _ _ (h.obj k ob h1))
  simpa using this

theorem CRel.id {pl' : Pl} {objs' : Objs} {w' : World} (hf : ∀ l y, LR' pl objs w ok l y → LR' pl' objs' w' ok' l y) {c : C} {y : Value} (h : CRel pl objs w ok c y) : CRel pl' objs' w' ok' c y := by
  have := CRel.map (f := fun l => l) hf rfl h
  cases c with
  | one l => exact this
  | agg ls => simpa [C.map] using this
  | tup cs => simpa [C.map] using this

end
end Go.AI
