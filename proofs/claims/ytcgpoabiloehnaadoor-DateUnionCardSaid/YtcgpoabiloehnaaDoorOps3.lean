/-
  What the operations do: plain values in cells; loads, elements, parts of strings and lists.
-/
import Derived.Test.YtcgpoabiloehnaaDoorOps2
set_option linter.unusedVariables false
set_option linter.unusedSimpArgs false
namespace Go.AI
open Go

section
variable {P : Program} {E : Env} {pl : Pl} {st : St} {a : Act} {w : World} {objs : Objs} {ok : Nat → Prop}

theorem toL_sound : ∀ {s : Sh} {x : Val s} {cs : List Value}, CR w ok s x cs → All2 (LR' pl objs w ok) (toL s x) cs
  | .int _, _, _, h => by rw [show _ = _ from h]; exact ⟨⟨rfl, rfl⟩, trivial⟩
  | .bool, _, _, h => by rw [show _ = _ from h]; exact ⟨⟨rfl, rfl⟩, trivial⟩
  | .str, _, _, h => by rw [show _ = _ from h]; exact ⟨⟨rfl, rfl⟩, trivial⟩
  | .unit, _, _, h => by rw [show _ = _ from h]; exact trivial
  | .pair a b, _, _, h => by
    obtain ⟨c1, c2, rfl, h1, h2⟩ := h
    exact (toL_sound h1).append (toL_sound h2)
  | .slice s, xs, _, h => by
    obtain ⟨a, cap, rfl, h1⟩ := h
    exact ⟨⟨rfl, a, cap, rfl, h1⟩, trivial⟩

theorem toL_length (s : Sh) (x : Val s) : (toL s x).length = s.n := by
  induction s with
  | pair a b iha ihb => simp [toL, Sh.n, iha, ihb]
  | _ => rfl

theorem CR.noSl {w' : World} {ok' : Nat → Prop} : ∀ {s : Sh} {x : Val s} {cs : List Value}, s.hasSl = false → CR w ok s x cs → CR w' ok' s x cs
  | .int _, _, _, _, h => h
  | .bool, _, _, _, h => h
  | .str, _, _, _, h => h
  | .unit, _, _, _, h => h
  | .pair a b, _, _, hs, h => by
    obtain ⟨c1, c2, rfl, h1, h2⟩ := h
    simp only [Sh.hasSl, Bool.or_eq_false_iff] at hs
    exact ⟨c1, c2, rfl, CR.noSl hs.1 h1, CR.noSl hs.2 h2⟩
  | .slice s, xs, _, hs, h => by cases hs

theorem CR.okMono {ok' : Nat → Prop} (hk : ∀ b, ok b → ok' b) {s : Sh} {x : Val s} {cs : List Value} (h : CR w ok s x cs) : CR w ok' s x cs :=
  CR.mono (fun b hb => ⟨hk b hb, rfl⟩) h

theorem cast_cr {s t : Sh} {x : Val s} {y : Val t} (h : castV s t x = some y) {cs : List Value} (hc : CR w ok s x cs) : CR w ok t y cs := by
  obtain ⟨e, rfl⟩ := castV_eq h
  subst e
  exact hc

theorem slKeys_append (a b : List L) : slKeys (a ++ b) = slKeys a ++ slKeys b := by
  induction a with
  | nil => rfl
  | cons l r ih => cases l <;> simp [slKeys, ih]

/-- cells that are read as a plain value; slices of the function's own count as frozen -/
theorem ofL_sound (h0 : HeapR E pl objs w) : ∀ (s : Sh) {ls : List L} {x : Val s} {cs : List Value}, ofL objs s ls = some x → All2 (LR' pl objs w (E.ok pl objs w)) ls cs →
    CR w (fun b => E.ok pl objs w b ∨ ∃ k, k ∈ slKeys ls ∧ pl.blk k = some b ∧ ∃ s xs, lookO objs k = some (.slice s xs)) s x cs
  | .int k, [], x, cs, h, hv => by simp [ofL] at h
  | .int k, _ :: _ :: _, x, cs, h, hv => by simp [ofL] at h
  | .int k, [l], x, cs, h, hv => by
    obtain ⟨v, rfl, hl⟩ := hv.oneL
    cases l <;> simp only [ofL] at h <;> first
      | (cases h; done)
      | exact (cast_cr h hl.2).okMono fun b => Or.inl
  | .bool, [], x, cs, h, hv => by simp [ofL] at h
  | .bool, _ :: _ :: _, x, cs, h, hv => by simp [ofL] at h
  | .bool, [l], x, cs, h, hv => by
    obtain ⟨v, rfl, hl⟩ := hv.oneL
    cases l <;> simp only [ofL] at h <;> first
      | (cases h; done)
      | exact (cast_cr h hl.2).okMono fun b => Or.inl
      | (cases h; rw [show v = _ from hl.2]; rfl)
  | .str, [], x, cs, h, hv => by simp [ofL] at h
  | .str, _ :: _ :: _, x, cs, h, hv => by simp [ofL] at h
  | .str, [l], x, cs, h, hv => by
    obtain ⟨v, rfl, hl⟩ := hv.oneL
    cases l <;> simp only [ofL] at h <;> first
      | (cases h; done)
      | exact (cast_cr h hl.2).okMono fun b => Or.inl
  | .unit, _ :: _, x, cs, h, hv => by simp [ofL] at h
  | .unit, [], x, cs, h, hv => by rw [hv.nilL]; rfl
  | .pair a b, ls, x, cs, h, hv => by
    simp only [ofL] at h
    split at h
    · rename_i y z h1 h2
      cases h
      have hd : ls = ls.take a.n ++ ls.drop a.n := (List.take_append_drop _ _).symm
      have h3 := ofL_sound h0 a h1 (hv.take a.n)
      have h4 := ofL_sound h0 b h2 (hv.drop a.n)
      have hk : ∀ k, k ∈ slKeys ls ↔ k ∈ slKeys (ls.take a.n) ∨ k ∈ slKeys (ls.drop a.n) := fun k => by
        conv => lhs; rw [hd]
        rw [slKeys_append, List.mem_append]
      refine ⟨cs.take a.n, cs.drop a.n, (List.take_append_drop _ _).symm, h3.okMono fun b => ?_, h4.okMono fun b => ?_⟩
      · rintro (h | ⟨k, h, h'⟩)
        · exact .inl h
        · exact .inr ⟨k, (hk k).2 (.inl h), h'⟩
      · rintro (h | ⟨k, h, h'⟩)
        · exact .inl h
        · exact .inr ⟨k, (hk k).2 (.inr h), h'⟩
    · cases h
  | .slice s, [], x, cs, h, hv => by simp [ofL] at h
  | .slice s, _ :: _ :: _, x, cs, h, hv => by simp [ofL] at h
  | .slice s, [l], x, cs, h, hv => by
    obtain ⟨v, rfl, hl⟩ := hv.oneL
    cases l <;> simp only [ofL] at h <;> first
      | (cases h; done)
      | exact (cast_cr h hl.2).okMono fun b => Or.inl
      | skip
    · rename_i k
      split at h
      · rename_i t xs hlk
        obtain ⟨e, rfl⟩ := castV_eq h
        cases e
        obtain ⟨hn, h1⟩ := h0.slice hlk hl.2
        rcases h1 with ⟨_, ⟨ad, rfl⟩, rfl⟩ | ⟨b, cap, cur, e, hb, rfl, hw, hm, hlc, hc, hr⟩
        · exact ⟨ad, 0, rfl, Nat.le_refl _, fun h => absurd h (Nat.lt_irrefl 0)⟩
        · have := rowR_of_obj (ok := fun b => E.ok pl objs w b ∨ ∃ k', k' ∈ slKeys [.sl k] ∧ pl.blk k' = some b ∧ ∃ s xs, lookO objs k' = some (.slice s xs)) hw (hr.mono fun b hb => ⟨.inl hb, rfl⟩)
            (.inr ⟨k, by simp [slKeys], hb, _, xs, hlk⟩)
          exact ⟨_, cap, rfl, hlc, fun _ => ⟨b, 0, rfl, this.1, this.2⟩⟩
      · cases h
    · cases h
      rw [show v = _ from hl.2]
      exact ⟨none, 0, rfl, Nat.le_refl _, fun h => absurd h (Nat.lt_irrefl 0)⟩

/-- memory that only grows -/
def Grown (w w' : World) : Prop := ∀ b, b < w.heap.size → w'.heap[b]? = w.heap[b]?

theorem lt_of_heap {w : World} {b : Nat} {o : Go.Obj} (h : w.heap[b]? = some o) : b < w.heap.size := (Array.getElem?_eq_some_iff.1 h).1
theorem lt_of_cell {w : World} {ad : Addr} {v : Value} (h : w.cell? ad = some v) : ad.block < w.heap.size := block_lt_of_cell h
theorem Grown.cell {w w' : World} (h : Grown w w') {ad : Addr} {v : Value} (hc : w.cell? ad = some v) : w'.cell? ad = some v := by
  rw [World.cell?_of_block (h _ (lt_of_cell hc))]; exact hc

theorem take_drop_get {A : Type} (l : List A) (o n j : Nat) : ((l.drop o).take n)[j]? = if j < n then l[o + j]? else none := by
  rw [List.getElem?_take]
  split
  · rw [List.getElem?_drop]
  · rfl

/-- what is read in a row of elements -/
theorem row_read {s : Sh} {xs : List (Val s)} {i : Nat} {b o off n : Nat} {x : Val s} (hr : RowR w ok s xs b o) (hx : xs[i]? = some x) (hle : off + n ≤ s.n) :
    ∃ vs, All2 (LR' pl objs w ok) (((toL s x).drop off).take n) vs ∧ ∀ (w' : World), Grown w w' → ∀ j u, vs[j]? = some u → w'.cell? ((⟨b, o + i * s.n + off, none⟩ : Addr).add j) = some u := by
  obtain ⟨hi, hx'⟩ := List.getElem?_eq_some_iff.1 hx
  obtain ⟨c, hc, hj⟩ := hr.2 i hi
  rw [hx'] at hc
  refine ⟨(c.drop off).take n, ((toL_sound hc).drop off).take n, fun w' hg j u hu => ?_⟩
  rw [take_drop_get] at hu
  split at hu
  · rename_i hjn
    have hlen := hc.len
    have := hj (off + j) (by omega)
    rw [hu] at this
    rw [Addr.add_lit]
    have h2 := hg.cell this
    rwa [show o + i * s.n + (off + j) = o + i * s.n + off + j by omega] at h2
  · cases hu

theorem loadOp_sound {R : Type} {K : C → Option R} {r : R} (h : Rel E pl st a w) {t : TypeId} {l : L} {y : Value} (hl : CRel pl st.objs w (E.ok pl st.objs w) (.one l) y) (hc : loadOp P t st l K = some r) :
    ∃ c v, K c = some r ∧ CRel pl st.objs w (E.ok pl st.objs w) c v ∧ ∀ w', Grown w w' → (Instr.loadAt t y).run P w' = .ok v w' := by
  unfold loadOp at hc
  split at hc
  · cases hc
  · rename_i n hn
    have fin : ∀ {c : C} {ls : List L} {vs : List Value} {ad : Addr}, wrapT P t ls = some c → ls.length = n → All2 (LR' pl st.objs w (E.ok pl st.objs w)) ls vs → y = .pointer (some ad) →
        (∀ w', Grown w w' → ∀ j u, vs[j]? = some u → w'.cell? (ad.add j) = some u) → ∃ v, CRel pl st.objs w (E.ok pl st.objs w) c v ∧ ∀ w', Grown w w' → (Instr.loadAt t y).run P w' = .ok v w' := by
      intro c ls vs ad hw hlen hv hy hcell
      obtain ⟨v, hv1, hr⟩ := run_read (P := P) hw hn hlen hv
      refine ⟨v, hv1, fun w' hg => ?_⟩
      simp [Instr.loadAt, hy, Instr.sureAddr, hr w' ad (hcell w' hg)]
    split at hc
    · rename_i k off
      split at hc
      · rename_i ls hlk
        cases hle : Nat.ble (off + n) ls.length with
        | false => rw [hle] at hc; cases hc
        | true =>
          rw [hle] at hc
          simp only [cond_true] at hc
          split at hc
          · rename_i c hw
            obtain ⟨b, hb, hy⟩ := (LR.one' hl (by simp)).2
            obtain ⟨b2, cur, e, hb2, hcur, hall⟩ := h.heap.obj k _ hlk
            rw [hb] at hb2; cases hb2
            have hle' : off + n ≤ ls.length := by simpa using hle
            have hvs := (hall.drop off).take n
            obtain ⟨v, hv1, hr⟩ := fin hw (by simp; omega) hvs hy (fun w' hg j u hu => by
              rw [take_drop_get] at hu
              split at hu
              · rw [Addr.add_lit]
                rw [cell_of_row w' b _ cur e (0, 0) (by rw [hg b (lt_of_heap hcur)]; exact hcur)]
                simpa using hu
              · cases hu)
            exact ⟨c, v, hc, hv1, hr⟩
          · cases hc
      · cases hc
    · rename_i s xs i off
      cases hle : Nat.ble (off + n) s.n with
      | false => rw [hle] at hc; cases hc
      | true =>
        rw [hle] at hc
        simp only [cond_true] at hc
        obtain ⟨x, hx, hc⟩ := eltC_some hc
        split at hc
        · rename_i c hw
          obtain ⟨b, o, p, hi, hr, hy⟩ := (LR.one' hl (by simp)).2
          have hle' : off + n ≤ s.n := by simpa using hle
          obtain ⟨vs, hvs, hcell⟩ := row_read (pl := pl) (objs := st.objs) hr hx hle'
          obtain ⟨v, hv1, hr⟩ := fin hw (by simp [toL_length]; omega) hvs hy (fun w' hg j u hu => by rw [hi.2.2]; exact hcell w' hg j u hu)
          exact ⟨c, v, hc, hv1, hr⟩
        · cases hc
    · rename_i k i off
      split at hc
      · rename_i s xs hlk
        cases hle : Nat.ble (off + n) s.n with
        | false => rw [hle] at hc; cases hc
        | true =>
          rw [hle] at hc
          simp only [cond_true] at hc
          obtain ⟨x, hx, hc⟩ := eltC_some hc
          split at hc
          · rename_i c hw
            obtain ⟨b, p, hb, hi, hy⟩ := (LR.one' hl (by simp)).2 s xs hlk
            have hle' : off + n ≤ s.n := by simpa using hle
            obtain ⟨hpos, ho⟩ := h.heap.obj k _ hlk
            rcases ho with ⟨h0, _⟩ | ⟨b2, cur, e, cap, hb2, hcur, hm, hlc, hcs, hrows⟩
            · rw [hb] at h0; cases h0
            · rw [hb] at hb2; cases hb2
              have hrow : RowR w (fun i => E.ok pl st.objs w i ∨ i = b) s xs b 0 := rowR_of_obj hcur (hrows.mono fun i hi => ⟨.inl hi, rfl⟩) (.inr rfl)
              obtain ⟨hi1, hx'⟩ := List.getElem?_eq_some_iff.1 hx
              obtain ⟨cc, hcc, hj⟩ := hrows i.toNat hi1
              rw [hx'] at hcc
              obtain ⟨v, hv1, hr⟩ := fin (vs := (cc.drop off).take n) hw (by simp [toL_length]; omega) (((toL_sound hcc).drop off).take n) hy (fun w' hg j u hu => by
                rw [take_drop_get] at hu
                split at hu
                · rename_i hjn
                  have hlen := hcc.len
                  rw [Addr.add_lit, hi.2.2, cell_of_row w' b _ cur e (0, 0) (by rw [hg b (lt_of_heap hcur)]; exact hcur)]
                  have := hj (off + j) (by omega)
                  rw [hu] at this
                  rw [show 0 + i.toNat * s.n + off + j = i.toNat * s.n + (off + j) by omega]
                  simpa using this
                · cases hu)
              exact ⟨c, v, hc, hv1, hr⟩
          · cases hc
      · cases hc
    · cases hc

end
end Go.AI
