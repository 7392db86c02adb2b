/-
  An abstract state's meaning is kept when memory grows, when an object is made, written or forgotten.
-/
import Derived.Test.YtcgpoabiloehnaaDoorRel
import Derived.Test.YtcgpoabiloehnaaDoorNames
namespace Go.AI
open Go

section
variable {pl pl' : Pl} {objs objs' : Objs} {w w' : World} {ok ok' : Nat → Prop}

theorem LR.step (hk : ∀ b, ok b → ok' b ∧ w'.heap[b]? = w.heap[b]?) {l : L} {y : Value} (hs : ∀ k, l.key = some k → Same pl objs w pl' objs' w' k)
    (h : LR pl objs w ok l y) : LR pl' objs' w' ok' l y := by
  cases l with
  | dead => trivial
  | tt => exact h
  | ff => exact h
  | v s x => exact CR.mono hk h
  | box k off =>
    obtain ⟨b, hb, rfl⟩ := h
    exact ⟨b, by rw [(hs k rfl).blk]; exact hb, rfl⟩
  | sl k =>
    intro s xs hl
    obtain ⟨xs', hl', hlen, hcur⟩ := (hs k rfl).sl s xs hl
    rw [(hs k rfl).blk]
    rcases h s xs' hl' with h | ⟨b, cap, cur, e, hb, rfl, hw, hc⟩
    · exact .inl h
    · obtain ⟨cur', e', hw', hc'⟩ := hcur b cur e hb hw
      exact .inr ⟨b, cap, cur', e', hb, by rw [hlen], hw', by rw [hc', hc]⟩
  | clo k =>
    intro g f c hl
    obtain ⟨f', c', hl'⟩ := (hs k rfl).clo g f c hl
    obtain ⟨fs, cs, hf, rfl⟩ := h g f' c' hl'
    exact ⟨fs, cs, by rw [(hs k rfl).fn]; exact hf, rfl⟩
  | fn g => exact h
  | velt s xs i off =>
    obtain ⟨b, o, p, hi, hr, rfl⟩ := h
    exact ⟨b, o, p, hi, hr.mono hk, rfl⟩
  | elt k i off =>
    intro s xs hl
    obtain ⟨xs', hl', hlen, _⟩ := (hs k rfl).sl s xs hl
    obtain ⟨b, p, hb, hi, rfl⟩ := h s xs' hl'
    exact ⟨b, p, by rw [(hs k rfl).blk]; exact hb, by rw [hlen]; exact hi, rfl⟩
  | nilp => exact h
  | nilf => exact h
  | nils => exact h
  | nili => exact h
  | nilm => exact h
  | ifc t => exact h

theorem LR'.step (hk : ∀ b, ok b → ok' b ∧ w'.heap[b]? = w.heap[b]?) {l : L} {y : Value} (hs : ∀ k, l.key = some k → Same pl objs w pl' objs' w' k)
    (h : LR' pl objs w ok l y) : LR' pl' objs' w' ok' l y := ⟨h.1, h.2.step hk hs⟩

/-- what refers to some names is forgotten; all others mean the same -/
theorem LR'.kill {p : Key → Bool} (hk : ∀ b, ok b → ok' b ∧ w'.heap[b]? = w.heap[b]?) (hs : ∀ k, p k = false → Same pl objs w pl' objs' w' k)
    {l : L} {y : Value} (h : LR' pl objs w ok l y) : LR' pl' objs' w' ok' (l.kill p) y := by
  cases hkey : l.key with
  | none => rw [kill_none hkey]; exact h.step hk (fun k e => by rw [hkey] at e; cases e)
  | some k =>
    rw [kill_key hkey]
    cases hp : p k with
    | true => exact ⟨h.1, trivial⟩
    | false => simp; exact h.step hk (fun k' e => by rw [hkey] at e; cases e; exact hs k hp)

theorem PR.map {f : L → L} (hf : ∀ l y, LR' pl objs w ok l y → LR' pl' objs' w' ok' (f l) y) (hd : f .dead = .dead) {p : Bool × List L} {y : Value}
    (h : PR pl objs w ok p y) : PR pl' objs' w' ok' (p.1, p.2.map f) y := by
  unfold PR at *
  split at h
  · rename_i hb
    obtain ⟨vs, rfl, hv⟩ := h
    rw [if_pos hb]
    exact ⟨vs, rfl, hv.mapL hf⟩
  · rename_i hb
    obtain ⟨l, hl, h⟩ := h
    rw [if_neg hb]
    refine ⟨f l, by rw [hl]; rfl, ?_⟩
    rcases h with rfl | h
    · exact .inl hd
    · exact .inr (hf _ _ h)

theorem CRel.map {f : L → L} (hf : ∀ l y, LR' pl objs w ok l y → LR' pl' objs' w' ok' (f l) y) (hd : f .dead = .dead) {c : C} {y : Value}
    (h : CRel pl objs w ok c y) : CRel pl' objs' w' ok' (c.map f) y := by
  cases c with
  | one l =>
    rcases h with rfl | h
    · exact .inl hd
    · exact .inr (hf _ _ h)
  | agg ls =>
    obtain ⟨vs, rfl, hv⟩ := h
    exact ⟨vs, rfl, hv.mapL hf⟩
  | tup cs =>
    obtain ⟨vs, rfl, hv⟩ := h
    exact ⟨vs, rfl, All2.mapL (g := fun p => (p.1, p.2.map f)) (fun _ _ h => PR.map hf hd h) hv⟩

theorem Rows.mono (hk : ∀ b, ok b → ok' b ∧ w'.heap[b]? = w.heap[b]?) {s : Sh} {xs : List (Val s)} {cur : List Value} (h : Rows w ok s xs cur) : Rows w' ok' s xs cur :=
  fun i hi => by
    obtain ⟨c, hc, hj⟩ := h i hi
    exact ⟨c, hc.mono hk, hj⟩

/-- an object that stays where it is -/
theorem ObjR.map {f : L → L} (hk : ∀ b, ok b → ok' b ∧ w'.heap[b]? = w.heap[b]?) (hf : ∀ l y, LR' pl objs w ok l y → LR' pl' objs' w' ok' (f l) y) (hd : f .dead = .dead)
    {k : Key} {o : Obj} (hb : pl'.blk k = pl.blk k) (hfn : pl'.fn k = pl.fn k) (hw : ∀ b, pl.blk k = some b → w'.heap[b]? = w.heap[b]?)
    (h : ObjR pl objs w ok k o) : ObjR pl' objs' w' ok' k (o.map f) := by
  cases o with
  | cells ls =>
    obtain ⟨b, cur, e, h1, h2, h3⟩ := h
    exact ⟨b, cur, e, by rw [hb]; exact h1, by rw [hw b h1]; exact h2, h3.mapL hf⟩
  | slice s xs =>
    obtain ⟨hn, h⟩ := h
    refine ⟨hn, ?_⟩
    rcases h with ⟨h1, h2⟩ | ⟨b, cur, e, cap, h1, h2, h3, h4, h5, h6⟩
    · exact .inl ⟨by rw [hb]; exact h1, h2⟩
    · exact .inr ⟨b, cur, e, cap, by rw [hb]; exact h1, by rw [hw b h1]; exact h2, h3, h4, h5, h6.mono hk⟩
  | clo g first caps =>
    obtain ⟨h0, fs, cs, h1, h2, h3⟩ := h
    exact ⟨by rw [hb]; exact h0, fs, cs, by rw [hfn]; exact h1, All2.mapL (g := fun p => (p.1, p.2.map f)) (fun _ _ h => PR.map hf hd h) h2, h3.mapL hf⟩

end

/-- lookups that are mapped keep their meaning -/
theorem Same.map {pl pl' : Pl} {objs objs' : Objs} {w w' : World} {k : Key} {f : L → L} (hl : ∀ o', lookO objs' k = some o' → ∃ o, lookO objs k = some o ∧ o' = o.map f)
    (hb : pl'.blk k = pl.blk k) (hf : pl'.fn k = pl.fn k) (hw : ∀ b, (lookO objs k).isSome → pl.blk k = some b → w'.heap[b]? = w.heap[b]?) : Same pl objs w pl' objs' w' k where
  blk := hb
  fn := hf
  sl := fun s xs h => by
    obtain ⟨o, ho, e⟩ := hl _ h
    cases o with
    | cells ls => cases e
    | clo g f c => cases e
    | slice s' xs' =>
      cases e
      exact ⟨xs, ho, rfl, fun b cur e hb' hw' => ⟨cur, e, by rw [hw b (by rw [ho]; rfl) hb']; exact hw', rfl⟩⟩
  clo := fun g ff c h => by
    obtain ⟨o, ho, e⟩ := hl _ h
    cases o with
    | cells ls => cases e
    | slice s' xs' => cases e
    | clo g' f' c' =>
      cases e
      exact ⟨f', c', ho⟩

section
variable {E : Env} {pl pl' : Pl} {objs objs' : Objs} {w w' : World} {ok ok' : Nat → Prop}

/-- a name there means what a name here meant -/
structure Same2 (pl : Pl) (objs : Objs) (w : World) (k : Key) (pl' : Pl) (objs' : Objs) (w' : World) (k' : Key) : Prop where
  blk : pl'.blk k' = pl.blk k
  fn : pl'.fn k' = pl.fn k
  sl : ∀ s xs, lookO objs' k' = some (.slice s xs) → ∃ xs', lookO objs k = some (.slice s xs') ∧ xs.length = xs'.length ∧
    ∀ b cur e, pl.blk k = some b → w.heap[b]? = some (.cells cur e (0, 0)) → ∃ cur' e', w'.heap[b]? = some (.cells cur' e' (0, 0)) ∧ cur'.size = cur.size
  clo : ∀ g f c, lookO objs' k' = some (.clo g f c) → ∃ f' c', lookO objs k = some (.clo g f' c')

theorem LR'.ren {ρ : Key → Option Key} (hk : ∀ b, ok b → ok' b ∧ w'.heap[b]? = w.heap[b]?) {l : L} {y : Value}
    (hs : ∀ k k', l.key = some k → ρ k = some k' → Same2 pl objs w k pl' objs' w' k')
    (h : LR' pl objs w ok l y) : LR' pl' objs' w' ok' (l.ren ρ) y := by
  refine ⟨h.1, ?_⟩
  have h := h.2
  cases l with
  | dead => trivial
  | tt => exact h
  | ff => exact h
  | v s x => exact CR.mono hk h
  | box k off =>
    obtain ⟨b, hb, rfl⟩ := h
    simp only [L.ren]
    cases hr : ρ k with
    | none => trivial
    | some k' => exact ⟨b, by rw [(hs k k' rfl hr).blk]; exact hb, rfl⟩
  | sl k =>
    simp only [L.ren]
    cases hr : ρ k with
    | none => trivial
    | some k' =>
      intro s xs hl
      obtain ⟨xs', hl', hlen, hcur⟩ := (hs k k' rfl hr).sl s xs hl
      rw [(hs k k' rfl hr).blk]
      rcases h s xs' hl' with h | ⟨b, cap, cur, e, hb, rfl, hw, hc⟩
      · exact .inl h
      · obtain ⟨cur', e', hw', hc'⟩ := hcur b cur e hb hw
        exact .inr ⟨b, cap, cur', e', hb, by rw [hlen], hw', by rw [hc', hc]⟩
  | clo k =>
    simp only [L.ren]
    cases hr : ρ k with
    | none => trivial
    | some k' =>
      intro g f c hl
      obtain ⟨f', c', hl'⟩ := (hs k k' rfl hr).clo g f c hl
      obtain ⟨fs, cs, hf, rfl⟩ := h g f' c' hl'
      exact ⟨fs, cs, by rw [(hs k k' rfl hr).fn]; exact hf, rfl⟩
  | fn g => exact h
  | velt s xs i off =>
    obtain ⟨b, o, p, hi, hr, rfl⟩ := h
    exact ⟨b, o, p, hi, hr.mono hk, rfl⟩
  | elt k i off =>
    simp only [L.ren]
    cases hr : ρ k with
    | none => trivial
    | some k' =>
      intro s xs hl
      obtain ⟨xs', hl', hlen, _⟩ := (hs k k' rfl hr).sl s xs hl
      obtain ⟨b, p, hb, hi, rfl⟩ := h s xs' hl'
      exact ⟨b, p, by rw [(hs k k' rfl hr).blk]; exact hb, by rw [hlen]; exact hi, rfl⟩
  | nilp => exact h
  | nilf => exact h
  | nils => exact h
  | nili => exact h
  | nilm => exact h
  | ifc t => exact h

/-- THE STEP, with any map of cells -/
theorem HeapR.stepF (f : L → L) (K : Key) (h : HeapR E pl objs w) (hd : f .dead = .dead)
    (hobj : ∀ k o', k ≠ K → lookO objs' k = some o' → ∃ o, lookO objs k = some o ∧ o' = o.map f)
    (hblk : ∀ k, k ≠ K → (lookO objs' k).isSome → pl'.blk k = pl.blk k ∧ pl'.fn k = pl.fn k)
    (hw : ∀ k b, k ≠ K → (lookO objs' k).isSome → pl.blk k = some b → w'.heap[b]? = w.heap[b]?)
    (hok : ∀ b, E.ok pl objs w b → E.ok pl' objs' w' b ∧ w'.heap[b]? = w.heap[b]?)
    (hf : ∀ l y, LR' pl objs w (E.ok pl objs w) l y → LR' pl' objs' w' (E.ok pl' objs' w') (f l) y)
    (hK : ∀ o', lookO objs' K = some o' → ObjR pl' objs' w' (E.ok pl' objs' w') K o' ∧
      ∀ b, pl'.blk K = some b → b < w'.heap.size ∧ E.lo ≤ b ∧ (E.M b ∨ E.w0.heap.size ≤ b) ∧ ∀ k, k ≠ K → (lookO objs' k).isSome → pl'.blk k ≠ some b)
    (hnone : ∀ k, isImp k = true → lookO objs k = none → ¬ (lookO objs' k).isSome)
    (himp : isImp K = true → (lookO objs' K).isSome → Same pl objs w pl' objs' w' K)
    (hkeep : Keeps E.M E.w0 w') (hsize : w.heap.size ≤ w'.heap.size) (hglob : E.G w') : HeapR E pl' objs' w' where
  inj := fun k k' b h1 h2 h3 h4 => by
    by_cases e : k = K
    · subst e
      by_cases e' : k' = k
      · exact e'.symm
      · obtain ⟨o', ho'⟩ := Option.isSome_iff_exists.1 h1
        exact absurd h4 (((hK o' ho').2 b h3).2.2.2 k' e' h2)
    · by_cases e' : k' = K
      · subst e'
        obtain ⟨o', ho'⟩ := Option.isSome_iff_exists.1 h2
        exact absurd h3 (((hK o' ho').2 b h4).2.2.2 k e h1)
      · obtain ⟨o1, ho1⟩ := Option.isSome_iff_exists.1 h1
        obtain ⟨o2, ho2⟩ := Option.isSome_iff_exists.1 h2
        obtain ⟨q1, hq1, _⟩ := hobj k o1 e ho1
        obtain ⟨q2, hq2, _⟩ := hobj k' o2 e' ho2
        rw [(hblk k e h1).1] at h3
        rw [(hblk k' e' h2).1] at h4
        exact h.inj k k' b (by rw [hq1]; rfl) (by rw [hq2]; rfl) h3 h4
  own := fun k b h1 h2 => by
    by_cases e : k = K
    · subst e
      obtain ⟨o', ho'⟩ := Option.isSome_iff_exists.1 h1
      obtain ⟨g1, g2, g3, _⟩ := (hK o' ho').2 b h2
      exact ⟨g1, g2, g3⟩
    · obtain ⟨o1, ho1⟩ := Option.isSome_iff_exists.1 h1
      obtain ⟨q1, hq1, _⟩ := hobj k o1 e ho1
      rw [(hblk k e h1).1] at h2
      obtain ⟨g1, g2, g3⟩ := h.own k b (by rw [hq1]; rfl) h2
      exact ⟨by omega, g2, g3⟩
  obj := fun k o' ho' => by
    by_cases e : k = K
    · subst e; exact (hK o' ho').1
    · obtain ⟨o, ho, rfl⟩ := hobj k o' e ho'
      exact (h.obj k o ho).map hok hf hd (hblk k e (by rw [ho']; rfl)).1 (hblk k e (by rw [ho']; rfl)).2 (fun b hb => hw k b e (by rw [ho']; rfl) hb)
  keep := hkeep
  imp := fun k hk h1 => by
    by_cases e : k = K
    · subst e
      cases hlk : lookO objs k with
      | none =>
        exact absurd h1 (hnone k hk hlk)
      | some o => exact (h.imp k hk (by rw [hlk]; rfl)).trans (himp hk h1)
    · obtain ⟨o', ho'⟩ := Option.isSome_iff_exists.1 h1
      obtain ⟨o, ho, rfl⟩ := hobj k o' e ho'
      refine (h.imp k hk (by rw [ho]; rfl)).trans (Same.map (f := f) (fun o2 h2 => hobj k o2 e h2) (hblk k e h1).1 (hblk k e h1).2 (fun b _ hb => hw k b e h1 hb))
  glob := hglob


/-- THE STEP: some names are forgotten (p) -/
theorem HeapR.step (p : Key → Bool) (K : Key) (h : HeapR E pl objs w)
    (hobj : ∀ k o', k ≠ K → lookO objs' k = some o' → ∃ o, lookO objs k = some o ∧ o' = o.map (L.kill p))
    (hblk : ∀ k, k ≠ K → pl'.blk k = pl.blk k ∧ pl'.fn k = pl.fn k)
    (hw : ∀ k b, k ≠ K → (lookO objs k).isSome → pl.blk k = some b → w'.heap[b]? = w.heap[b]?)
    (hok : ∀ b, E.ok pl objs w b → E.ok pl' objs' w' b ∧ w'.heap[b]? = w.heap[b]?)
    (hsame : ∀ k, p k = false → Same pl objs w pl' objs' w' k)
    (hK : ∀ o', lookO objs' K = some o' → ObjR pl' objs' w' (E.ok pl' objs' w') K o' ∧
      ∀ b, pl'.blk K = some b → b < w'.heap.size ∧ E.lo ≤ b ∧ (E.M b ∨ E.w0.heap.size ≤ b) ∧ ∀ k, k ≠ K → (lookO objs' k).isSome → pl'.blk k ≠ some b)
    (hnone : isImp K = true → lookO objs K = none → ¬ (lookO objs' K).isSome)
    (himp : isImp K = true → (lookO objs' K).isSome → Same pl objs w pl' objs' w' K)
    (hkeep : Keeps E.M E.w0 w') (hsize : w.heap.size ≤ w'.heap.size) (hglob : E.G w') : HeapR E pl' objs' w' :=
  HeapR.stepF (L.kill p) K h rfl hobj (fun k e _ => hblk k e) (fun k b e h1 h2 => by
      obtain ⟨o', ho'⟩ := Option.isSome_iff_exists.1 h1
      obtain ⟨o, ho, _⟩ := hobj k o' e ho'
      exact hw k b e (by rw [ho]; rfl) h2) hok (fun l y hl => hl.kill hok hsame) hK (fun k hk hn => by
      by_cases e : k = K
      · subst e; exact hnone hk hn
      · intro h1
        obtain ⟨o', ho'⟩ := Option.isSome_iff_exists.1 h1
        obtain ⟨o, ho, _⟩ := hobj k o' e ho'
        rw [hn] at ho; cases ho) himp hkeep hsize hglob

end
end Go.AI
