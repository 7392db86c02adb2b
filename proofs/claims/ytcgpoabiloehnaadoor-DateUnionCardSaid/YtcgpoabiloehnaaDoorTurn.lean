/-
  Moves that change an object that is there: written cells, a slice that grows or is cut, a slice that becomes a plain list, a name that becomes another one.
-/
import Derived.Test.YtcgpoabiloehnaaDoorMoves
set_option linter.unusedVariables false
namespace Go.AI
open Go

section
variable {E : Env} {pl : Pl} {st : St} {a : Act} {w : World}

theorem Rel.turn (hE : E.Good) (h : Rel E pl st a w) (p : Key → Bool) (key : Key) {objs' : Objs} {pl' : Pl} {w' : World}
    (hp : ∀ k, p k = true → k = key)
    (hlo : ∀ k, k ≠ key → lookO objs' k = (lookO st.objs k).map (Obj.map (L.kill p)))
    (hpl : ∀ k, k ≠ key → pl'.blk k = pl.blk k ∧ pl'.fn k = pl.fn k)
    (hold : (lookO st.objs key).isSome)
    (k : Keeps (fun b => pl.blk key = some b) w w')
    (hb' : ∀ b, pl'.blk key = some b → b < w'.heap.size ∧ (pl.blk key = some b ∨ w.heap.size ≤ b))
    (hsameK : p key = false ∨ isImp key = true → Same pl st.objs w pl' objs' w' key)
    (ho : ∀ o', lookO objs' key = some o' → (∀ l y, LR' pl st.objs w (E.ok pl st.objs w) l y → LR' pl' objs' w' (E.ok pl' objs' w') (l.kill p) y) →
      (∀ b, E.ok pl st.objs w b → E.ok pl' objs' w' b ∧ w'.heap[b]? = w.heap[b]?) → ObjR pl' objs' w' (E.ok pl' objs' w') key o') :
    Rel E pl' ⟨st.α.map (C.map (L.kill p)), objs'⟩ a w' := by
  obtain ⟨oK, hoK⟩ := Option.isSome_iff_exists.1 hold
  have hl : ∀ k o', k ≠ key → lookO objs' k = some o' → ∃ o, lookO st.objs k = some o ∧ o' = o.map (L.kill p) := fun k o' e ho => by
    rw [hlo k e] at ho
    obtain ⟨o, ho2, rfl⟩ := Option.map_eq_some_iff.1 ho
    exact ⟨o, ho2, rfl⟩
  have hkb : ∀ b, b < w.heap.size → pl.blk key ≠ some b → w'.heap[b]? = w.heap[b]? := fun b hb hn => k.block b hb hn
  have hown : ∀ k b, k ≠ key → (lookO st.objs k).isSome → pl.blk k = some b → w'.heap[b]? = w.heap[b]? := fun k b e h1 h2 =>
    hkb b (h.heap.own k b h1 h2).1 (fun e' => e (h.heap.inj k key b h1 hold h2 e'))
  have hok : ∀ b, E.ok pl st.objs w b → E.ok pl' objs' w' b ∧ w'.heap[b]? = w.heap[b]? := fun b hb => by
    refine ⟨Env.ok_mono k.size (fun b ⟨k2, o', ho2, hbk⟩ => ?_) hb, hkb b hb.1 (fun e => hb.2.2 ⟨key, oK, hoK, e⟩)⟩
    by_cases e : k2 = key
    · subst e
      rcases (hb' b hbk).2 with e | e
      · exact .inl ⟨_, oK, hoK, e⟩
      · exact .inr e
    · obtain ⟨o1, ho1, _⟩ := hl k2 o' e ho2
      exact .inl ⟨k2, o1, ho1, by rw [← (hpl k2 e).1]; exact hbk⟩
  have hsame : ∀ k, p k = false → Same pl st.objs w pl' objs' w' k := fun k hk => by
    by_cases e : k = key
    · subst e; exact hsameK (.inl hk)
    · exact Same.map (hl k · e) (hpl k e).1 (hpl k e).2 (fun b => hown k b e)
  have hkill : ∀ l y, LR' pl st.objs w (E.ok pl st.objs w) l y → LR' pl' objs' w' (E.ok pl' objs' w') (l.kill p) y := fun l y hl => hl.kill hok hsame
  have hk' : Keeps (fun b => Mut pl st.objs b) w w' := k.mono (fun b _ e => ⟨key, oK, hoK, e⟩)
  refine ⟨h.defers, h.slots.mapL fun c y hc => hc.map hkill rfl, ?_⟩
  refine HeapR.step p key h.heap hl hpl hown hok hsame (fun o' ho' => ?_) (fun _ h1 => by rw [hoK] at h1; cases h1) (fun e _ => hsameK (.inr e)) (h.keepStep hk') k.size (h.globStep hE hk')
  refine ⟨ho o' ho' hkill hok, fun b hb => ?_⟩
  obtain ⟨g1, g2⟩ := hb' b hb
  have hs := h.heap.keep.size
  have hlo' := hE.lo
  have hne : ∀ k2, k2 ≠ key → (lookO objs' k2).isSome → pl'.blk k2 ≠ some b := fun k2 e h1 h2 => by
    obtain ⟨o', ho'⟩ := Option.isSome_iff_exists.1 h1
    obtain ⟨o1, ho1, _⟩ := hl k2 o' e ho'
    rw [(hpl k2 e).1] at h2
    rcases g2 with g2 | g2
    · exact e (h.heap.inj k2 key b (by rw [ho1]; rfl) hold h2 g2)
    · have := (h.heap.own k2 b (by rw [ho1]; rfl) h2).1
      omega
  rcases g2 with g2 | g2
  · obtain ⟨q1, q2, q3⟩ := h.heap.own key b hold g2
    exact ⟨g1, q2, q3, hne⟩
  · exact ⟨g1, by omega, .inr (by omega), hne⟩

/-- a block's cells, replaced -/
theorem Keeps.setRow (w : World) (b : Nat) (c : Array Value) : Keeps (fun i => i = b) w (w.setRow b c) :=
  ⟨rfl, rfl, rfl, by simp [World.setRow], fun i _ hn => setRow_other w b i c hn⟩

theorem kill_false (l : L) : l.kill (fun _ => false) = l := by
  cases h : l.key with
  | none => exact kill_none h
  | some k => rw [kill_key h]; simp
theorem map_kill_false (α : List C) : α.map (C.map (L.kill fun _ => false)) = α := by
  have h : C.map (L.kill fun _ => false) = fun c => c := by
    funext c
    have hk : (L.kill fun _ => false) = fun l => l := by funext l; exact kill_false l
    rw [hk]
    cases c <;> simp [C.map]
  rw [h]; simp
theorem obj_kill_false (o : Obj) : o.map (L.kill fun _ => false) = o := by
  have hk : (L.kill fun _ => false) = fun l => l := by funext l; exact kill_false l
  rw [hk]; simp

/-- cells of a variable are written -/
theorem Rel.write (hE : E.Good) (h : Rel E pl st a w) {key : Key} {ls ls' : List L} {b : Nat} {cur cur' : Array Value} {e : TypeId}
    (hlk : lookO st.objs key = some (.cells ls)) (hb : pl.blk key = some b) (hw : w.heap[b]? = some (.cells cur e (0, 0)))
    (hnew : All2 (LR' pl st.objs w (E.ok pl st.objs w)) ls' cur'.toList) :
    Rel E pl ⟨st.α, setO st.objs key (.cells ls')⟩ a (w.setRow b cur') := by
  have := h.turn hE (fun _ => false) key (objs' := setO st.objs key (.cells ls')) (pl' := pl) (w' := w.setRow b cur') (fun _ e => by cases e)
    (fun k e => by rw [lookO_setO_other _ _ e]; cases lookO st.objs k <;> simp [obj_kill_false]) (fun _ _ => ⟨rfl, rfl⟩) (by rw [hlk]; rfl)
    ((Keeps.setRow w b cur').mono fun i _ hi => by rw [hi]; exact hb)
    (fun b' hb' => by
      rw [hb] at hb'; cases hb'
      have := (h.heap.own key b (by rw [hlk]; rfl) hb).1
      exact ⟨by simpa [World.setRow] using this, .inl hb⟩)
    (fun _ => ⟨rfl, rfl, (fun s xs hs => by rw [lookO_setO_same] at hs; cases hs), (fun g f c hs => by rw [lookO_setO_same] at hs; cases hs)⟩)
    (fun o' ho' hleaf _ => by
      rw [lookO_setO_same] at ho'; cases ho'
      refine ⟨b, cur', e, hb, setRow_heap w b cur cur' e _ hw, hnew.imp fun l y hl => ?_⟩
      have := hleaf l y hl
      rwa [kill_false] at this)
  rwa [map_kill_false] at this

/-- a slice's object becomes another slice; what referred to it is forgotten -/
theorem Rel.turnSlice (hE : E.Good) (h : Rel E pl st a w) {key : Key} (hkey : isImp key = false) {o : Obj} {s : Sh} {xs : List (Val s)} {bo : Option Nat} {w' : World}
    (hlk : lookO st.objs key = some o) (k : Keeps (fun b => pl.blk key = some b) w w')
    (hb' : ∀ b, bo = some b → b < w'.heap.size ∧ (pl.blk key = some b ∨ w.heap.size ≤ b)) (hn : 0 < s.n)
    (ho : ∀ ok', (∀ b, E.ok pl st.objs w b → ok' b ∧ w'.heap[b]? = w.heap[b]?) → (bo = none ∧ xs = []) ∨ ∃ b cur e cap, bo = some b ∧ w'.heap[b]? = some (.cells cur e (0, 0)) ∧ cap ≤ maxLen ∧ xs.length ≤ cap ∧ cur.size = cap * s.n ∧ Rows w' ok' s xs cur.toList) :
    Rel E (pl.setB key bo) (st.turn key (.slice s xs)) a w' := by
  refine h.turn hE (keyB key) key (pl' := pl.setB key bo) (w' := w') (fun k hk => (keyB_iff.1 hk).symm) (fun k e => ?_) (fun k e => ⟨pl.setB_other bo e, rfl⟩) (by rw [hlk]; rfl) k ?_ (fun e => by simp [hkey] at e) ?_
  · rw [lookO_setO_other _ _ e, lookO_mapO]
  · intro b hb
    exact hb' b (by simpa using hb)
  · intro o' ho' _ hok
    rw [lookO_setO_same] at ho'; cases ho'
    refine ⟨hn, ?_⟩
    rw [pl.setB_same]
    rcases ho _ hok with h0 | ⟨b, cur, e, cap, h1, h2⟩
    · exact .inl h0
    · exact .inr ⟨b, cur, e, cap, h1, h2⟩

/-- an element of a slice is written: its address stays good -/
theorem Rel.writeElt (hE : E.Good) (h : Rel E pl st a w) {key : Key} {s : Sh} {xs xs' : List (Val s)} {b : Nat} {cur cur' : Array Value} {e : TypeId}
    (hlk : lookO st.objs key = some (.slice s xs)) (hlen : xs'.length = xs.length) (hb : pl.blk key = some b) (hw : w.heap[b]? = some (.cells cur e (0, 0))) (hsz : cur'.size = cur.size)
    (hnew : ∀ ok', (∀ i, E.ok pl st.objs w i → ok' i ∧ (w.setRow b cur').heap[i]? = w.heap[i]?) → Rows (w.setRow b cur') ok' s xs' cur'.toList) :
    Rel E pl ⟨st.α, setO st.objs key (.slice s xs')⟩ a (w.setRow b cur') := by
  obtain ⟨hn, hob⟩ := h.heap.obj key _ hlk
  have := h.turn hE (fun _ => false) key (objs' := setO st.objs key (.slice s xs')) (pl' := pl) (w' := w.setRow b cur') (fun _ e => by cases e)
    (fun k e => by rw [lookO_setO_other _ _ e]; cases lookO st.objs k <;> simp [obj_kill_false]) (fun _ _ => ⟨rfl, rfl⟩) (by rw [hlk]; rfl)
    ((Keeps.setRow w b cur').mono fun i _ hi => by rw [hi]; exact hb)
    (fun b' hb' => by
      rw [hb] at hb'; cases hb'
      have := (h.heap.own key b (by rw [hlk]; rfl) hb).1
      exact ⟨by simpa [World.setRow] using this, .inl hb⟩)
    (fun _ => ⟨rfl, rfl, (fun s2 xs2 hs => by
      rw [lookO_setO_same] at hs; cases hs
      refine ⟨xs, hlk, hlen, fun b2 cur2 e2 hb2 hw2 => ?_⟩
      rw [hb] at hb2; cases hb2
      rw [hw] at hw2; cases hw2
      exact ⟨cur', e, setRow_heap w b cur cur' e _ hw, hsz⟩), (fun g f c hs => by rw [lookO_setO_same] at hs; cases hs)⟩)
    (fun o' ho' _ hok => by
      rw [lookO_setO_same] at ho'; cases ho'
      refine ⟨hn, .inr ?_⟩
      rcases hob with ⟨h0, _⟩ | ⟨b2, cur2, e2, cap, h1, h2, h3, h4, h5, _⟩
      · rw [hb] at h0; cases h0
      · rw [hb] at h1; cases h1
        rw [hw] at h2; cases h2
        exact ⟨b, cur', e, cap, hb, setRow_heap w b cur cur' e _ hw, h3, by rw [hlen]; exact h4, by rw [hsz, h5], hnew _ hok⟩)
  rwa [map_kill_false] at this

end
end Go.AI
