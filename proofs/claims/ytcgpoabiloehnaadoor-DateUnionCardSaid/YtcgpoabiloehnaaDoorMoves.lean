/-
  The moves of an abstract state: a slot is set, a name is dropped, an object is made, written, frozen, renamed.
-/
import Derived.Test.YtcgpoabiloehnaaDoorStep
import Derived.Laws.CopyRow
set_option linter.unusedVariables false
namespace Go.AI
open Go

def Pl.setB (pl : Pl) (key : Key) (b : Option Nat) : Pl := ⟨fun k => if k = key then b else pl.blk k, pl.fn⟩
def Pl.setF (pl : Pl) (key : Key) (x : Array Value × Array Value) : Pl := ⟨fun k => if k = key then none else pl.blk k, fun k => if k = key then some x else pl.fn k⟩
@[simp] theorem Pl.setB_same (pl : Pl) (key : Key) (b : Option Nat) : (pl.setB key b).blk key = b := by simp [Pl.setB]
theorem Pl.setB_other (pl : Pl) {key k : Key} (b : Option Nat) (h : k ≠ key) : (pl.setB key b).blk k = pl.blk k := by simp [Pl.setB, h]
@[simp] theorem Pl.setB_fn (pl : Pl) (key : Key) (b : Option Nat) : (pl.setB key b).fn = pl.fn := rfl
@[simp] theorem Pl.setF_same (pl : Pl) (key : Key) (x : Array Value × Array Value) : (pl.setF key x).fn key = some x := by simp [Pl.setF]
@[simp] theorem Pl.setF_blk (pl : Pl) (key : Key) (x : Array Value × Array Value) : (pl.setF key x).blk key = none := by simp [Pl.setF]
theorem Pl.setF_other (pl : Pl) {key k : Key} (x : Array Value × Array Value) (h : k ≠ key) : (pl.setF key x).fn k = pl.fn k ∧ (pl.setF key x).blk k = pl.blk k := by simp [Pl.setF, h]

section
variable {E : Env} {pl : Pl} {st : St} {a : Act} {w : World}

theorem Act.put_defers' (a : Act) (d : Option Nat) (v : Value) : (a.put d v).defers = a.defers := by cases d <;> rfl

theorem Rel.put (h : Rel E pl st a w) (dst : Option Nat) {c : C} {v : Value} (hc : CRel pl st.objs w (E.ok pl st.objs w) c v) : Rel E pl (st.put dst c) (a.put dst v) w := by
  cases dst with
  | none => exact h
  | some d =>
    refine ⟨h.defers, ?_, h.heap⟩
    have := h.slots.set d hc
    simpa [St.put, Act.put] using this

theorem Rel.slot (h : Rel E pl st a w) (i : Nat) : CRel pl st.objs w (E.ok pl st.objs w) (getS st.α i) (a.tmps.getD i undef) := by
  unfold getS
  cases hg : st.α[i]? with
  | none => rw [List.getD_eq_getElem?_getD, hg]; exact .inl rfl
  | some c =>
    obtain ⟨v, hv, hr⟩ := h.slots.get i c hg
    have : a.tmps.getD i undef = v := by rw [Array.getD_eq_getD_getElem?]; simp at hv; simp [hv]
    rw [List.getD_eq_getElem?_getD, hg, this]
    exact hr

theorem Same.rfl' (k : Key) (objs : Objs) : Same pl objs w pl objs w k :=
  ⟨rfl, rfl, fun s xs h => ⟨xs, h, rfl, fun b cur e _ hw => ⟨cur, e, hw, rfl⟩⟩, fun g f c h => ⟨f, c, h⟩⟩

theorem Env.ok_mono {pl' : Pl} {objs objs' : Objs} {w' : World} (hs : w.heap.size ≤ w'.heap.size) (hm : ∀ b, Mut pl' objs' b → Mut pl objs b ∨ w.heap.size ≤ b) {b : Nat} (h : E.ok pl objs w b) : E.ok pl' objs' w' b :=
  ⟨Nat.lt_of_lt_of_le h.1 hs, h.2.1, fun e => (hm b e).elim h.2.2 (fun e => by have := h.1; omega)⟩

/-- a name is dropped -/
theorem Rel.drop (h : Rel E pl st a w) (key : Key) : Rel E pl (st.drop key) a w := by
  have hl : ∀ k o', lookO (st.drop key).objs k = some o' → k ≠ key ∧ ∃ o, lookO st.objs k = some o ∧ o' = o.map (L.kill (keyB key)) := fun k o' ho => by
    rw [lookO_drop] at ho
    split at ho
    · cases ho
    · rename_i e
      obtain ⟨o, ho2, rfl⟩ := Option.map_eq_some_iff.1 ho
      exact ⟨e, o, ho2, rfl⟩
  have hok : ∀ b, E.ok pl st.objs w b → E.ok pl (st.drop key).objs w b ∧ w.heap[b]? = w.heap[b]? := fun b hb => ⟨Env.ok_mono (Nat.le_refl _) (fun b ⟨k, o', ho, hb⟩ => by
    obtain ⟨_, o, ho, _⟩ := hl k o' ho
    exact .inl ⟨k, o, ho, hb⟩) hb, rfl⟩
  have hsame : ∀ k, keyB key k = false → Same pl st.objs w pl (st.drop key).objs w k := fun k _ =>
    Same.map (fun o' ho => (hl k o' ho).2) rfl rfl (fun _ _ _ => rfl)
  refine ⟨h.defers, h.slots.mapL fun c y hc => hc.map (fun l y hl => hl.kill hok hsame) rfl, ?_⟩
  refine HeapR.step (keyB key) key h.heap (fun k o' e ho => (hl k o' ho).2) (fun k _ => ⟨rfl, rfl⟩) (fun _ _ _ _ _ => rfl) hok hsame (fun o' ho => absurd rfl (hl key o' ho).1) (fun _ _ h1 => by rw [lookO_drop, if_pos rfl] at h1; cases h1) (fun _ h1 => by rw [lookO_drop, if_pos rfl] at h1; cases h1) h.heap.keep (Nat.le_refl _) h.heap.glob

/-- the globals' knowledge, kept by whatever keeps the low blocks -/
structure Env.Good (E : Env) : Prop where
  glob : ∀ w w' : World, E.G w → w.heap.size ≤ w'.heap.size → (∀ b, b < E.lo → w'.heap[b]? = w.heap[b]?) → w'.os = w.os → w'.tape = w.tape → E.G w'
  lo : E.lo ≤ E.w0.heap.size
  sub : ∀ b, E.M b → E.A b

theorem Rel.keepStep (h : Rel E pl st a w) {w' : World} (k : Keeps (fun b => Mut pl st.objs b) w w') : Keeps E.M E.w0 w' :=
  h.heap.keep.trans (k.mono fun i _ ⟨key, o, ho, hb⟩ => (h.heap.own key i (by rw [ho]; rfl) hb).2.2)

theorem Rel.globStep (hE : E.Good) (h : Rel E pl st a w) {w' : World} (k : Keeps (fun b => Mut pl st.objs b) w w') : E.G w' :=
  hE.glob w w' h.heap.glob k.size (fun b hb => k.block b (by have := h.heap.keep.size; have := hE.lo; omega) (fun ⟨key, o, ho, hb'⟩ => by
    have := (h.heap.own key b (by rw [ho]; rfl) hb').2.1
    omega)) k.os k.tape

/-- memory grows, or something is drawn: nothing that is told changes -/
theorem Rel.grow (hE : E.Good) (h : Rel E pl st a w) {w' : World} (k : Keeps (fun _ => False) w w') : Rel E pl st a w' := by
  have hb : ∀ b, b < w.heap.size → w'.heap[b]? = w.heap[b]? := fun b hb => k.block b hb (fun e => e)
  have hok : ∀ b, E.ok pl st.objs w b → E.ok pl st.objs w' b ∧ w'.heap[b]? = w.heap[b]? := fun b h => ⟨Env.ok_mono k.size (fun b h => .inl h) h, hb b h.1⟩
  have hown : ∀ key b, (lookO st.objs key).isSome → pl.blk key = some b → w'.heap[b]? = w.heap[b]? := fun key b h1 h2 => hb b (h.heap.own key b h1 h2).1
  have hsame : ∀ key, Same pl st.objs w pl st.objs w' key := fun key =>
    Same.map (f := fun l => l) (fun o' ho => ⟨o', ho, by simp⟩) rfl rfl (hown key)
  have hk' := k.mono (M' := fun b => Mut pl st.objs b) (fun _ _ e => e.elim)
  refine ⟨h.defers, h.slots.imp fun c y hc => ?_, ?_⟩
  · have := CRel.map (f := fun l => l) (fun l y hl => LR'.step hok (fun k _ => hsame k) hl) rfl hc
    cases c with
    | one l => exact this
    | agg ls => simpa [C.map] using this
    | tup cs => simpa [C.map] using this
  · refine ⟨h.heap.inj, fun key b h1 h2 => ?_, fun key o ho => ?_, h.keepStep hk', ?_, h.globStep hE hk'⟩
    · obtain ⟨g1, g2, g3⟩ := h.heap.own key b h1 h2
      exact ⟨Nat.lt_of_lt_of_le g1 k.size, g2, g3⟩
    · have := ObjR.map (f := fun l => l) hok (fun l y hl => LR'.step hok (fun k _ => hsame k) hl) rfl rfl rfl (fun b hb => hown key b (by rw [ho]; rfl) hb) (h.heap.obj key o ho)
      simpa using this
    · exact fun k hk h1 => (h.heap.imp k hk h1).trans (hsame k)

/-- a new object, in a new block or in none -/
theorem Rel.new (hE : E.Good) (h : Rel E pl st a w) (key : Key) (o : Obj) (hkey : isImp key = false) {pl' : Pl} {w' : World} (k : Keeps (fun _ => False) w w')
    (hblk : ∀ k, k ≠ key → pl'.blk k = pl.blk k ∧ pl'.fn k = pl.fn k)
    (hnew : ∀ b, pl'.blk key = some b → w.heap.size ≤ b ∧ b < w'.heap.size)
    (ho : (∀ l y, LR' pl st.objs w (E.ok pl st.objs w) l y → LR' pl' (st.new key o).objs w' (E.ok pl' (st.new key o).objs w') (l.kill (keyB key)) y) →
      (∀ b, E.ok pl st.objs w b → E.ok pl' (st.new key o).objs w' b ∧ w'.heap[b]? = w.heap[b]?) → ObjR pl' (st.new key o).objs w' (E.ok pl' (st.new key o).objs w') key o) :
    Rel E pl' (st.new key o) a w' := by
  have hb : ∀ b, b < w.heap.size → w'.heap[b]? = w.heap[b]? := fun b hb => k.block b hb (fun e => e)
  have hl : ∀ k o', k ≠ key → lookO (st.new key o).objs k = some o' → ∃ o, lookO st.objs k = some o ∧ o' = o.map (L.kill (keyB key)) := fun k o' e ho => by
    rw [lookO_new, if_neg e] at ho
    obtain ⟨o, ho2, rfl⟩ := Option.map_eq_some_iff.1 ho
    exact ⟨o, ho2, rfl⟩
  have hok : ∀ b, E.ok pl st.objs w b → E.ok pl' (st.new key o).objs w' b ∧ w'.heap[b]? = w.heap[b]? := fun b hb' => ⟨Env.ok_mono k.size (fun b ⟨k, o', ho, hbk⟩ => by
    by_cases e : k = key
    · subst e; exact .inr (hnew b hbk).1
    · obtain ⟨o1, ho1, _⟩ := hl k o' e ho
      exact .inl ⟨k, o1, ho1, by rw [← (hblk k e).1]; exact hbk⟩) hb', hb b hb'.1⟩
  have hown : ∀ key b, (lookO st.objs key).isSome → pl.blk key = some b → w'.heap[b]? = w.heap[b]? := fun key b h1 h2 => hb b (h.heap.own key b h1 h2).1
  have hsame : ∀ k, keyB key k = false → Same pl st.objs w pl' (st.new key o).objs w' k := fun k hk => by
    have e : k ≠ key := fun e => by subst e; simp at hk
    exact Same.map (hl k · e) (hblk k e).1 (hblk k e).2 (hown k)
  have hkill : ∀ l y, LR' pl st.objs w (E.ok pl st.objs w) l y → LR' pl' (st.new key o).objs w' (E.ok pl' (st.new key o).objs w') (l.kill (keyB key)) y := fun l y hl => hl.kill hok hsame
  have hk' := k.mono (M' := fun b => Mut pl st.objs b) (fun _ _ e => e.elim)
  refine ⟨h.defers, h.slots.mapL fun c y hc => hc.map hkill rfl, ?_⟩
  refine HeapR.step (keyB key) key h.heap hl hblk (fun k b e h1 h2 => hown k b h1 h2) hok hsame (fun o' ho' => ?_) (fun e => by rw [hkey] at e; cases e) (fun e => by rw [hkey] at e; cases e) (h.keepStep hk') k.size (h.globStep hE hk')
  rw [lookO_new, if_pos rfl] at ho'
  cases ho'
  refine ⟨ho hkill hok, fun b hb => ?_⟩
  obtain ⟨g1, g2⟩ := hnew b hb
  have hs := h.heap.keep.size
  have := hE.lo
  refine ⟨g2, by omega, .inr (by omega), fun k e h1 h2 => ?_⟩
  obtain ⟨o', ho'⟩ := Option.isSome_iff_exists.1 h1
  obtain ⟨o1, ho1, _⟩ := hl k o' e ho'
  rw [(hblk k e).1] at h2
  have := (h.heap.own k b (by rw [ho1]; rfl) h2).1
  omega

end
end Go.AI
