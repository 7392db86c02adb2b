/-
  What the operations do: names that change; new objects; cells that are put into objects.
-/
import Derived.Test.YtcgpoabiloehnaaDoorOps4
set_option linter.unusedVariables false
set_option linter.unusedSimpArgs false
namespace Go.AI
open Go

section
variable {P : Program} {E : Env} {pl : Pl} {st : St} {a : Act} {w : World} {objs : Objs} {ok : Nat → Prop}

/-- what comes out of an operation -/
def Out (E : Env) {R : Type} (K : C → St → Option R) (r : R) (a : Act) (v : Value) (w' : World) : Prop :=
  ∃ pl' c st', K c st' = some r ∧ Rel E pl' st' a w' ∧ CRel pl' st'.objs w' (E.ok pl' st'.objs w') c v

def Act.push (a : Act) (v : Value) : Act := { a with tmps := a.tmps.push v }

theorem Rel.push (h : Rel E pl st a w) {c : C} {v : Value} (hc : CRel pl st.objs w (E.ok pl st.objs w) c v) : Rel E pl ⟨st.α ++ [c], st.objs⟩ (Act.push a v) w :=
  ⟨h.defers, by simpa [Act.push] using h.slots.append (show All2 _ [c] [v] from ⟨hc, trivial⟩), h.heap⟩
theorem Rel.pop {α : List C} {c : C} {v : Value} (h : Rel E pl ⟨α ++ [c], objs⟩ (Act.push a v) w) : Rel E pl ⟨α, objs⟩ a w ∧ CRel pl objs w (E.ok pl objs w) c v := by
  have hs := h.slots
  simp only [Act.push, Array.toList_push] at hs
  obtain ⟨b1, b2, hb, h1, h2⟩ := hs.splitL
  obtain ⟨v', rfl, hv⟩ := h2.oneL
  have he := List.append_inj' hb rfl
  obtain ⟨e1, e2⟩ := he
  cases e2
  exact ⟨⟨h.defers, by rw [e1]; exact h1, h.heap⟩, hv⟩

theorem assignOp_sound (hE : E.Good) {R : Type} {K : C → St → Option R} {r : R} (h : Rel E pl st a w) {dst : Nat} {c : C} {v : Value} (hv : CRel pl st.objs w (E.ok pl st.objs w) c v) (hc : assignOp dst st c K = some r) :
    Out E K r a v w := by
  have same : K c st = some r → Out E K r a v w := fun hk => ⟨pl, c, st, hk, h, hv⟩
  unfold assignOp at hc
  split at hc
  · rename_i k
    cases hcond : (isTemp k && !keyB k (.loc dst)) with
    | false => rw [hcond] at hc; exact same hc
    | true =>
      rw [hcond] at hc
      simp only [cond_true] at hc
      have hne : k ≠ .loc dst := fun e => by subst e; simp at hcond
      have h1 := (h.push hv).rename hE hne (K' := .loc dst) rfl
      have e : St.rename ⟨st.α ++ [.one (.sl k)], st.objs⟩ k (.loc dst) = ⟨(st.rename k (.loc dst)).α ++ [.one (.sl (.loc dst))], (st.rename k (.loc dst)).objs⟩ := by
        simp [St.rename, St.drop, C.map, L.kill, L.key, L.ren, keyB_ne (Ne.symm hne)]
      rw [e] at h1
      obtain ⟨h2, h3⟩ := h1.pop
      exact ⟨_, _, _, hc, h2, h3⟩
  · exact same hc

/-- an empty slice gets a name -/
theorem Rel.newNil (hE : E.Good) (h : Rel E pl st a w) {key : Key} (hkey : isImp key = false) {s : Sh} (hs : 0 < s.n) : Rel E (pl.setB key none) (st.new key (.slice s [])) a w :=
  h.new hE key _ hkey (Keeps.refl _ w) (fun k e => ⟨pl.setB_other none e, rfl⟩) (fun b hb => by simp at hb) (fun _ _ => ⟨hs, .inl ⟨by simp, rfl⟩⟩)

theorem oneCell_cells {v : Value} (h : v.oneCell' = true) : v.cells = #[v] := by
  cases v <;> first | rfl | cases h

/-- a new block's object -/
theorem Rel.alloc (hE : E.Good) (h : Rel E pl st a w) {key : Key} (hkey : isImp key = false) {o : Obj} {cells : Array Value} {e : TypeId}
    (ho : ∀ pl' objs' w' ok', pl'.blk key = some w.heap.size → w'.heap[w.heap.size]? = some (.cells cells e (0, 0)) → (∀ k, k ≠ key → pl'.blk k = pl.blk k) → (∀ l y, LR' pl st.objs w (E.ok pl st.objs w) l y → LR' pl' objs' w' ok' (l.kill (keyB key)) y) →
      (∀ b, E.ok pl st.objs w b → ok' b ∧ w'.heap[b]? = w.heap[b]?) → ObjR pl' objs' w' ok' key o) :
    Rel E (pl.setB key (some w.heap.size)) (st.new key o) a (w.alloc (.cells cells e)) := by
  refine h.new hE key o hkey ⟨rfl, rfl, rfl, ?_, fun b hb _ => heap_alloc_old w _ b hb⟩ (fun k e => ⟨pl.setB_other _ e, rfl⟩) (fun b hb => ?_) (fun h1 h2 => ?_)
  · show w.heap.size ≤ (w.heap.push _).size
    simp
  · simp at hb
    subst hb
    refine ⟨Nat.le_refl _, ?_⟩
    show w.heap.size < (w.heap.push _).size
    simp
  · exact ho _ _ _ _ (by simp) (heap_alloc_new w _) (fun k e => pl.setB_other _ e) h1 h2

/-! ### new variables -/
theorem zeroCell_sound {own : Bool} {dst off : Nat} {t : TypeId} {v : Value} (h1 : v.oneCell' = true) (hk : ∀ q, q ∈ (zeroCell P own dst off t v).2 → pl.blk q.1 = none) : LR' pl objs w ok (zeroCell P own dst off t v).1 v := by
  refine ⟨h1, ?_⟩
  unfold zeroCell at hk ⊢
  split <;> first
    | rfl
    | trivial
    | skip
  split
  · rename_i e he
    split
    · rename_i s hs
      cases hc : (own && Nat.blt 0 s.n) with
      | false => rfl
      | true =>
        simp only [he, hs, hc, cond_true] at hk ⊢
        intro s' xs' _
        exact .inl ⟨hk _ (List.mem_singleton.2 rfl), none, rfl⟩
    · rfl
  · rfl

theorem zeroCells_sound {own : Bool} {dst : Nat} : ∀ {off : Nat} {ts : List TypeId} {vs : List Value}, ts.length = vs.length → (∀ v, v ∈ vs → v.oneCell' = true) → (∀ q, q ∈ (zeroCells P own dst off ts vs).2 → pl.blk q.1 = none) →
    All2 (LR' pl objs w ok) (zeroCells P own dst off ts vs).1 vs
  | _, [], [], _, _, _ => trivial
  | _, [], _ :: _, h, _, _ => by simp at h
  | _, _ :: _, [], h, _, _ => by simp at h
  | off, t :: ts, v :: vs, hl, h1, hk => by
    refine ⟨zeroCell_sound (h1 v (by simp)) (fun q hq => hk q ?_), zeroCells_sound (by simpa using hl) (fun u hu => h1 u (by simp [hu])) (fun q hq => hk q ?_)⟩
    · simp only [zeroCells]; exact List.mem_append_left _ hq
    · simp only [zeroCells]; exact List.mem_append_right _ hq

theorem zeroCells_keys {own : Bool} {dst : Nat} : ∀ {off : Nat} {ts : List TypeId} {vs : List Value} (q : Key × Obj), q ∈ (zeroCells P own dst off ts vs).2 → (∃ i, q.1 = .fld (.loc dst) i) ∧ ∃ s : Sh, 0 < s.n ∧ q.2 = .slice s []
  | _, [], [], q, h => by simp [zeroCells] at h
  | _, [], _ :: _, q, h => by simp [zeroCells] at h
  | _, _ :: _, [], q, h => by simp [zeroCells] at h
  | off, t :: ts, v :: vs, q, h => by
    simp only [zeroCells, List.mem_append] at h
    rcases h with h | h
    · unfold zeroCell at h
      split at h <;> first
        | (simp at h; done)
        | skip
      split at h
      · split at h
        · rename_i s hs
          cases hc : (own && Nat.blt 0 s.n) with
          | false => simp [hc] at h
          | true =>
            simp only [hc, cond_true, List.mem_singleton] at h
            subst h
            simp [Nat.blt] at hc
            exact ⟨⟨off, rfl⟩, s, by omega, rfl⟩
        · simp at h
      · simp at h
    · exact zeroCells_keys q h

theorem newNils (hE : E.Good) : ∀ (os : List (Key × Obj)) {pl : Pl} {st : St}, Rel E pl st a w → (∀ q, q ∈ os → isImp q.1 = false ∧ ∃ s : Sh, 0 < s.n ∧ q.2 = .slice s []) →
    ∃ pl', Rel E pl' (os.foldl (fun s p => s.new p.1 p.2) st) a w ∧ (∀ q, q ∈ os → pl'.blk q.1 = none) ∧ (∀ k, pl.blk k = none → pl'.blk k = none)
  | [], pl, st, h, _ => ⟨pl, h, by simp, fun _ h => h⟩
  | q :: os, pl, st, h, hq => by
    obtain ⟨hi, s, hs, he⟩ := hq q (by simp)
    have h1 : Rel E (pl.setB q.1 none) (st.new q.1 q.2) a w := by rw [he]; exact h.newNil hE hi hs
    obtain ⟨pl', h2, h3, h4⟩ := newNils hE os h1 (fun q' hq' => hq q' (by simp [hq']))
    refine ⟨pl', h2, fun q' hq' => ?_, fun k hk => h4 k ?_⟩
    · rcases List.mem_cons.1 hq' with rfl | hq'
      · exact h4 _ (by simp)
      · exact h3 q' hq'
    · by_cases e : k = q.1
      · subst e; simp
      · rw [pl.setB_other _ e]; exact hk

theorem zeroOf_some {t : TypeId} {z : Value} (h : zeroOf P t = some z) : (∃ i, P.info? t = some i ∧ i.zero = some z) ∧ ∀ v, v ∈ z.cells.toList → v.oneCell' = true := by
  unfold zeroOf at h
  obtain ⟨z', h1, h2⟩ := Option.bind_eq_some_iff.1 h
  obtain ⟨i, hi, hz⟩ := Option.bind_eq_some_iff.1 h1
  cases hall : z'.cells.toList.all (·.oneCell') with
  | false => rw [hall] at h2; cases h2
  | true =>
    rw [hall] at h2
    cases h2
    exact ⟨⟨i, hi, hz⟩, fun v hv => List.all_eq_true.1 hall v hv⟩

theorem allocOp_sound (hE : E.Good) {R : Type} {K : C → St → Option R} {r : R} (h : Rel E pl st a w) {dst : Nat} {t : TypeId} (hc : allocOp P dst t st K = some r) :
    ∃ v w', (Instr.alloc t true (.tuple #[])).run P w = .ok v w' ∧ Out E K r a v w' := by
  unfold allocOp at hc
  split at hc
  · rename_i z ts hz hts
    cases hlen : Nat.beq ts.length z.cells.size with
    | false => rw [hlen] at hc; cases hc
    | true =>
      rw [hlen] at hc
      simp only [cond_true] at hc
      have hlen := Nat.eq_of_beq_eq_true hlen
      obtain ⟨⟨i, hi, hiz⟩, h1⟩ := zeroOf_some hz
      obtain ⟨pl', h2, h3, h4⟩ := newNils hE (zeroCells P true dst 0 ts z.cells.toList).2 h (fun q hq => by
        obtain ⟨⟨j, hj⟩, hs⟩ := zeroCells_keys q hq
        exact ⟨by rw [hj]; rfl, hs⟩)
      have h5 := h2.alloc hE (key := .loc dst) rfl (o := .cells (zeroCells P true dst 0 ts z.cells.toList).1) (cells := z.cells) (e := t) (fun pl2 objs2 w2 ok2 hb hheap hblk _ _ =>
        ⟨w.heap.size, z.cells, t, hb, hheap, zeroCells_sound (by simpa using hlen) h1 (fun q hq => by
          obtain ⟨⟨j, hj⟩, _⟩ := zeroCells_keys q hq
          rw [hblk q.1 (by rw [hj]; simp)]
          exact h3 q hq)⟩)
      refine ⟨.pointer (some ⟨w.heap.size, 0, none⟩), w.alloc (.cells z.cells t), ?_, _, _, _, hc, h5, .inr ⟨rfl, w.heap.size, by simp, rfl⟩⟩
      simp [Instr.alloc, zeroValue, typeInfo, hi, hiz, newVar, newRow]
  · cases hc

end
end Go.AI
