/-
  What the operations do: slices that are built, made.
-/
import Derived.Test.YtcgpoabiloehnaaDoorOps8
set_option linter.unusedVariables false
set_option linter.unusedSimpArgs false
namespace Go.AI
open Go

section
variable {P : Program} {E : Env} {pl : Pl} {st : St} {a : Act} {w : World} {objs : Objs} {ok : Nat → Prop}

theorem inOrder_zip {ρ : Operand → Value} : ∀ {l : List (Nat × Operand)} {i : Nat}, inOrder i l = true → l.map (fun p => (p.1, ρ p.2)) = ((l.map fun p => ρ p.2).zipIdx i).map fun x => (x.2, x.1)
  | [], _, _ => rfl
  | p :: r, i, h => by
    simp only [inOrder, Bool.and_eq_true] at h
    have := Nat.eq_of_beq_eq_true h.1
    simp only [List.map_cons, List.zipIdx_cons, ← inOrder_zip h.2, this]

theorem zeroFit_sound : ∀ {s : Sh} {vs : List Value}, zeroFit s vs = true → CR w ok s (zeroV s) vs
  | .int k, vs, h => by
    rcases vs with _ | ⟨v, _ | ⟨v2, r⟩⟩
    · simp [zeroFit] at h
    · cases v <;> simp [zeroFit] at h
      obtain ⟨rfl, rfl⟩ := h
      rfl
    · simp [zeroFit] at h
  | .bool, vs, h => by
    rcases vs with _ | ⟨v, _ | ⟨v2, r⟩⟩
    · simp [zeroFit] at h
    · cases v <;> try (simp [zeroFit] at h; done)
      rename_i b
      cases b
      · rfl
      · simp [zeroFit] at h
    · simp [zeroFit] at h
  | .str, vs, h => by
    rcases vs with _ | ⟨v, _ | ⟨v2, r⟩⟩
    · simp [zeroFit] at h
    · cases v <;> try (simp [zeroFit] at h; done)
      rename_i s
      simp only [zeroFit] at h
      have := Nat.eq_of_beq_eq_true h
      have e : s = ByteArray.empty := by
        obtain ⟨⟨l⟩⟩ := s
        have hl : l.length = 0 := this
        rw [List.length_eq_zero_iff.1 hl]
        rfl
      subst e
      rfl
    · simp [zeroFit] at h
  | .unit, vs, h => by
    rcases vs with _ | ⟨v, r⟩
    · rfl
    · simp [zeroFit] at h
  | .pair a b, vs, h => by
    simp only [zeroFit, Bool.and_eq_true] at h
    exact ⟨vs.take a.n, vs.drop a.n, (List.take_append_drop _ _).symm, zeroFit_sound h.1, zeroFit_sound h.2⟩
  | .slice s, vs, h => by
    rcases vs with _ | ⟨v, _ | ⟨v2, r⟩⟩
    · simp [zeroFit] at h
    · cases v <;> try (simp [zeroFit] at h; done)
      rename_i o n m
      unfold zeroFit at h
      split at h <;> simp_all
      exact ⟨none, 0, rfl, Nat.le_refl _, fun h => absurd h (Nat.lt_irrefl 0)⟩
    · simp [zeroFit] at h

theorem bytesT_some {t : TypeId} {n : Nat} (h : bytesT P t = some n) : ∃ i, P.info? t = some i ∧ i.bytes = n := by
  unfold bytesT at h
  exact Option.map_eq_some_iff.1 h
theorem sizeT_info {t : TypeId} {n : Nat} {i : TypeInfo} (h : sizeT P t = some n) (hi : P.info? t = some i) : i.size = n := by
  unfold sizeT at h
  rw [hi] at h
  simpa using h

theorem mapM'_len {A B : Type} {f : A → Option B} : ∀ {l : List A} {m : List B}, mapM' f l = some m → m.length = l.length
  | [], m, h => by cases h; rfl
  | a :: r, m, h => by
    simp only [mapM'] at h
    split at h
    · rename_i b bs h1 h2
      cases h
      simp [mapM'_len h2]
    · cases h

theorem div_row {i j n : Nat} (hj : j < n) : (i * n + j) / n = i ∧ (i * n + j) % n = j := by
  have hn : 0 < n := by omega
  rw [Nat.mul_comm]
  exact ⟨by rw [Nat.mul_add_div hn, Nat.div_eq_of_lt hj, Nat.add_zero], by rw [Nat.mul_add_mod, Nat.mod_eq_of_lt hj]⟩

theorem buildSliceOp_sound (hE : E.Good) {R : Type} {K : C → St → Option R} {r : R} (h : Rel E pl st a w) {dst : Nat} {t : TypeId} {n : Nat} {ps : Array (Nat × Operand)}
    (hc : buildSliceOp P dst t n (inOrder 0 ps.toList) (ps.toList.map fun p => evalO st.α p.2) st K = some r) :
    ∃ v w', (Instr.buildSlice t n (ps.map fun (i, x) => (i, a.eval x))).run P w = .ok v w' ∧ Out E K r a v w' := by
  unfold buildSliceOp at hc
  split at hc
  · rename_i e he
    split at hc
    · rename_i s z hs hz
      generalize hcond : (inOrder 0 ps.toList && Nat.beq n (ps.toList.map fun p => evalO st.α p.2).length && (ps.toList.map fun p => evalO st.α p.2).all C.solid && decide (sizeT P e = some s.n) && Nat.blt 0 s.n && Nat.beq z.cells.size s.n && Nat.ble (n * s.n) 16777216) = b at hc
      cases b with
      | false => cases hc
      | true =>
        simp only [cond_true] at hc
        simp only [Bool.and_eq_true, decide_eq_true_eq] at hcond
        obtain ⟨⟨⟨⟨⟨⟨hin, hn⟩, hso⟩, hsz⟩, hpos⟩, hzs⟩, hle⟩ := hcond
        have hnn := Nat.eq_of_beq_eq_true hn
        have hpos := blt_true hpos
        have hzs := Nat.eq_of_beq_eq_true hzs
        have hle := Nat.le_of_ble_eq_true hle
        split at hc
        · rename_i xs hxs
          rw [List.length_map] at hnn
          have hxl := mapM'_len hxs
          rw [List.length_map] at hxl
          -- the parts' values
          have hev := h.evals (ps.toList.map (·.2))
          simp only [List.map_map] at hev
          have hev' : All2 (CRel pl st.objs w (E.ok pl st.objs w)) (ps.toList.map fun p => evalO st.α p.2) (ps.toList.map fun p => a.eval p.2) := hev
          have hparts : (ps.map fun (i, x) => (i, a.eval x)).toList = ((ps.toList.map fun p => a.eval p.2).zipIdx 0).map fun x => (x.2, x.1) := by
            rw [Array.toList_map]
            exact inOrder_zip hin
          generalize hvs : (ps.toList.map fun p => a.eval p.2) = vs at *
          generalize hcs : (ps.toList.map fun p => evalO st.α p.2) = cs at *
          have hvl : vs.length = n := by rw [← hvs, List.length_map]; omega
          have hcl : cs.length = n := by rw [← hcs, List.length_map]; omega
          -- each part
          have hpart : ∀ (i : Nat) (x : Val s), xs[i]? = some x → ∃ v, vs[i]? = some v ∧ CR w (E.ok pl (st.freezes (cs.flatMap fun c => slKeys c.cells)).objs w) s x v.cells.toList := fun i x hx => by
            obtain ⟨c, hci, hof⟩ := mapM'_get hxs i x hx
            obtain ⟨v, hvi, hr⟩ := hev'.get i c hci
            have hmem := List.mem_of_getElem? hci
            have hcr := ofL_sound h.heap s hof (solid_cells hr (List.all_eq_true.1 hso c hmem))
            refine ⟨v, hvi, hcr.okMono fun b hb => freezes_ok hE _ h ?_⟩
            rcases hb with hb | ⟨k, hk, hb⟩
            · exact .inl hb
            · exact .inr ⟨k, List.mem_flatMap.2 ⟨c, hmem, hk⟩, hb⟩
          have hvsz : ∀ v ∈ vs, v.cells.size = s.n := fun v hv => by
            obtain ⟨i, hi⟩ := List.mem_iff_getElem?.1 hv
            have hlt : i < xs.length := by rw [hxl, ← hnn, ← hvl]; exact (List.getElem?_eq_some_iff.1 hi).1
            obtain ⟨v', hv', hcr⟩ := hpart i xs[i] (List.getElem?_eq_getElem hlt)
            rw [hi] at hv'; cases hv'
            have := hcr.len
            simpa using this
          have hsize : (vs.flatMap fun v => v.cells.toList).toArray.size = n * s.n := by
            have : ∀ (l : List Value), (∀ v ∈ l, v.cells.size = s.n) → (l.flatMap fun v => v.cells.toList).length = l.length * s.n := fun l => by
              induction l with
              | nil => intro _; simp
              | cons v r ih =>
                intro hl
                rw [List.flatMap_cons, List.length_append, ih (fun u hu => hl u (by simp [hu])), List.length_cons, Nat.add_mul, Nat.one_mul]
                have := hl v (by simp)
                simp [this]
                omega
            rw [List.size_toArray, this vs hvsz, hvl]
          have h1 := Rel.freezes hE (cs.flatMap fun c => slKeys c.cells) h
          obtain ⟨⟨ie, hie, hiz⟩, hz1⟩ := zeroOf_some hz
          have hiesz := sizeT_info hsz hie
          have hobj := h1.alloc hE (key := .loc dst) rfl (o := .slice s xs) (cells := (vs.flatMap fun v => v.cells.toList).toArray) (e := e) (fun pl2 objs2 w2 ok2 hb hheap _ _ hok => by
            refine ⟨hpos, .inr ⟨w.heap.size, _, e, n, hb, hheap, ?_, ?_, ?_, ?_⟩⟩
            · have : n ≤ n * s.n := Nat.le_mul_of_pos_right n hpos
              simp only [maxLen]; omega
            · omega
            · exact hsize
            · intro i hi
              obtain ⟨v, hv, hcr⟩ := hpart i xs[i] (List.getElem?_eq_getElem hi)
              refine ⟨v.cells.toList, hcr.mono hok, fun j hj => ?_⟩
              rw [hcr.len] at hj
              obtain ⟨e1, e2⟩ := div_row (i := i) hj
              simp only [List.toList_toArray]
              rw [Go.Great.flat_get hpos vs hvsz, e1, e2, hv]
              simp)
          refine ⟨.slice (some ⟨w.heap.size, 0, none⟩) n n, _, ?_, _, _, _, hc, hobj, .inr ⟨rfl, fun s2 xs2 h2 => ?_⟩⟩
          · by_cases h0 : n = 0
            · subst h0
              have hps : ps = #[] := by
                have : ps.toList = [] := List.length_eq_zero_iff.1 hnn.symm
                simpa using this
              have hv0 : vs = [] := List.length_eq_zero_iff.1 hvl
              subst hps
              subst hv0
              simp [Instr.buildSlice, run_underlying (elemT_some he), sizeOf, typeInfo, hie, Instr.fill, newRow, Array.range_zero']
            · refine run_buildSlice w t e n _ _ ie z (elemT_some he) hie hiz ?_ ?_ ?_
              · rw [hiesz]; omega
              · rw [hiesz]
                intro h00
                rcases Nat.mul_eq_zero.1 h00 with h | h <;> omega
              · rw [hparts, hiesz]
                exact Go.Great.fill_whole hpos vs _ hvsz (by simp [hvl])
          · rw [lookO_new, if_pos rfl] at h2
            cases h2
            exact .inr ⟨w.heap.size, n, _, e, by simp, by rw [show xs.length = n by omega], heap_alloc_new w _, hsize⟩
        · cases hc
    · cases hc
  · cases hc

end
end Go.AI
