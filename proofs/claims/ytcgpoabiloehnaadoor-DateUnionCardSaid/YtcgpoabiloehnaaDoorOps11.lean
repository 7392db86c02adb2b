/-
  What the operations do: append.
-/
import Derived.Test.YtcgpoabiloehnaaDoorOps10
set_option linter.unusedVariables false
set_option linter.unusedSimpArgs false
namespace Go.AI
open Go

section
variable {P : Program} {E : Env} {pl : Pl} {st : St} {a : Act} {w : World} {objs : Objs} {ok : Nat → Prop}

/-- the cells behind a list of elements -/
theorem news_of {s : Sh} {ys : List (Val s)} {f : Nat → Option Value} (hpos : 0 < s.n) (h : ∀ (i : Nat) (hi : i < ys.length), ∃ c, CR w ok s ys[i] c ∧ ∀ j, j < c.length → f (i * s.n + j) = c[j]?) :
    ∃ news : List Value, news.length = ys.length * s.n ∧ (∀ q u, news[q]? = some u → f q = some u) ∧ Rows w ok s ys news ∧ ∀ u, u ∈ news → u.oneCell' = true := by
  have hq : ∀ q, q < ys.length * s.n → ∃ (c : List Value) (u : Value) (x : Val s), CR w ok s x c ∧ c[q % s.n]? = some u ∧ f q = some u := fun q hq => by
    have hi : q / s.n < ys.length := Nat.div_lt_of_lt_mul (by rw [Nat.mul_comm]; exact hq)
    have hj : q % s.n < s.n := Nat.mod_lt _ hpos
    obtain ⟨c, hc, hf⟩ := h (q / s.n) hi
    have hl := hc.len
    have h1 := hf (q % s.n) (by omega)
    have h2 : c[q % s.n]? = some c[q % s.n] := List.getElem?_eq_getElem (by omega)
    rw [h2, Nat.mul_comm, Nat.div_add_mod] at h1
    exact ⟨c, _, _, hc, h2, h1⟩
  refine ⟨(List.range (ys.length * s.n)).map fun q => (f q).getD undef, by simp, fun q u hu => ?_, fun i hi => ?_, fun u hu => ?_⟩
  · rw [List.getElem?_map] at hu
    by_cases hlt : q < ys.length * s.n
    · rw [List.getElem?_range hlt] at hu
      obtain ⟨c, v, x, _, _, hf⟩ := hq q hlt
      rw [Option.map_some, hf] at hu
      rw [hf]
      simpa using hu
    · rw [List.getElem?_eq_none (by simp; omega)] at hu
      cases hu
  · obtain ⟨c, hc, hf⟩ := h i hi
    refine ⟨c, hc, fun j hj => ?_⟩
    have hlt : i * s.n + j < ys.length * s.n := by
      rw [hc.len] at hj
      calc i * s.n + j < i * s.n + s.n := by omega
        _ = (i + 1) * s.n := by rw [Nat.add_mul, Nat.one_mul]
        _ ≤ ys.length * s.n := Nat.mul_le_mul_right _ hi
    rw [List.getElem?_map, List.getElem?_range hlt, Option.map_some, hf j hj, List.getElem?_eq_getElem hj]
    rfl
  · obtain ⟨q, hq1, rfl⟩ := List.mem_map.1 hu
    obtain ⟨c, v, x, hc, hcv, hf⟩ := hq q (List.mem_range.1 hq1)
    rw [hf]
    exact hc.one v (List.mem_of_getElem? hcv)

/-- a list that is read -/
theorem list_of (h0 : HeapR E pl objs w) {s : Sh} {b : L} {ys : List (Val s)} {y : Value} (hy : CRel pl objs w (E.ok pl objs w) (.one b) y) (h : ofL objs (.slice s) [b] = some ys) :
    ∃ ab cb, y = .slice ab ys.length cb ∧ (0 < ys.length → ∃ bb off, ab = some ⟨bb, off, none⟩ ∧
      ∀ (i : Nat) (hi : i < ys.length), ∃ c, CR w (E.ok pl objs w) s ys[i] c ∧ ∀ j, j < c.length → w.cell? ⟨bb, off + i * s.n + j, none⟩ = c[j]?) := by
  cases b <;> simp only [ofL] at h <;> first
    | (cases h; done)
    | skip
  · rename_i t x
    obtain ⟨e, rfl⟩ := castV_eq h
    cases e
    obtain ⟨ab, cb, e, _, hr⟩ := (LR.one' hy (by simp)).2
    cases e
    refine ⟨ab, cb, rfl, fun hp => ?_⟩
    obtain ⟨bb, off, rfl, _, hrow⟩ := hr hp
    exact ⟨bb, off, rfl, hrow⟩
  · rename_i k
    split at h
    · rename_i t xs hlk
      obtain ⟨e, rfl⟩ := castV_eq h
      cases e
      obtain ⟨hn, h1⟩ := h0.slice hlk (LR.one' hy (by simp)).2
      rcases h1 with ⟨_, ⟨ad, rfl⟩, rfl⟩ | ⟨bb, cap, cur, e, hb, rfl, hw, hm, hlc, hc, hr⟩
      · exact ⟨ad, 0, rfl, fun h => absurd h (Nat.lt_irrefl 0)⟩
      · refine ⟨_, cap, rfl, fun hp => ⟨bb, 0, rfl, fun i hi => ?_⟩⟩
        obtain ⟨c, hcr, hj⟩ := hr i hi
        exact ⟨c, hcr, fun j hjl => by rw [cell_of_row w bb _ cur e _ hw, ← hj j hjl]; simp⟩
    · cases h
  · cases h
    have := (LR.one' hy (by simp)).2
    simp only [LR] at this
    exact ⟨none, 0, this, fun h => absurd h (Nat.lt_irrefl 0)⟩

theorem run_append_zero (t ty e : TypeId) (i : TypeInfo) (ht : P.underlying t = some (.slice e)) (hi : P.info? e = some i) (ad ab : Option Addr) (n c cb : Nat) (hnc : n ≤ c) :
    (Builtin.append_ #[t, t] ty #[.slice ad n c, .slice ab 0 cb]).run P w = .ok (.slice ad n c) w := by
  cases ab with
  | none => cases ad <;> simp [Builtin.append_, run_underlying ht, sizeOf, typeInfo, hi, Builtin.lenOf, hnc, Builtin.firstCells, storeCells]
  | some ab => cases ad <;> simp [Builtin.append_, run_underlying ht, sizeOf, typeInfo, hi, Builtin.lenOf, hnc, Builtin.firstCells, storeCells, loadCells, loadCellsFrom]

theorem run_append_room' (t ty e : TypeId) (i : TypeInfo) (ht : P.underlying t = some (.slice e)) (hi : P.info? e = some i)
    (g sLen sCap : Nat) (cur : Array Value) (t0 : TypeId) (hg : w.heap[g]? = some (.cells cur t0 (0, 0)))
    (a : Addr) (m c : Nat) (news : List Value) (hl : news.length = m * i.size) (hnews : ∀ j u, news[j]? = some u → w.cell? (a.add j) = some u) (h1 : ∀ u ∈ news, u.oneCell' = true)
    (hroom : sLen + m ≤ sCap) (hfit : sLen * i.size + news.length ≤ cur.size) :
    (Builtin.append_ #[t, t] ty #[.slice (some ⟨g, 0, none⟩) sLen sCap, .slice (some a) m c]).run P w =
      .ok (.slice (some ⟨g, 0, none⟩) (sLen + m) sCap) (w.setRow g (cur.toList.take (sLen * i.size) ++ news ++ cur.toList.drop (sLen * i.size + news.length)).toArray) := by
  have hf := run_firstCells_some (P := P) w i.size m a m c news hl hnews
  have hst := run_storeCells_at P g (sLen * i.size) t0 news 0 cur w hg (by simpa using hfit) h1
  simp only [Nat.add_zero] at hst
  simp [Builtin.append_, run_underlying ht, sizeOf, typeInfo, hi, Builtin.lenOf, hroom, hf, Addr.add_lit, hst]

/-- rows that follow each other -/
theorem Rows.append {s : Sh} {xs ys : List (Val s)} {olds news rest : List Value} (ho : olds.length = xs.length * s.n) (h1 : Rows w ok s xs olds) (h2 : Rows w ok s ys news) (hl : news.length = ys.length * s.n) : Rows w ok s (xs ++ ys) (olds ++ news ++ rest) := by
  intro i hi
  by_cases hix : i < xs.length
  · obtain ⟨c, hc, hj⟩ := h1 i hix
    refine ⟨c, by rw [List.getElem_append_left hix]; exact hc, fun j hjl => ?_⟩
    rw [← hj j hjl, List.append_assoc, List.getElem?_append_left]
    rw [hc.len] at hjl
    rw [ho]
    calc i * s.n + j < i * s.n + s.n := by omega
      _ = (i + 1) * s.n := by rw [Nat.add_mul, Nat.one_mul]
      _ ≤ xs.length * s.n := Nat.mul_le_mul_right _ hix
  · simp only [List.length_append] at hi
    obtain ⟨c, hc, hj⟩ := h2 (i - xs.length) (by omega)
    refine ⟨c, by rw [List.getElem_append_right (by omega)]; exact hc, fun j hjl => ?_⟩
    have e : i * s.n + j = olds.length + ((i - xs.length) * s.n + j) := by
      rw [ho, ← Nat.add_assoc, ← Nat.add_mul, Nat.add_sub_cancel' (by omega)]
    rw [e, List.append_assoc, List.getElem?_append_right (by omega), Nat.add_sub_cancel_left, List.getElem?_append_left, hj j hjl]
    rw [hc.len] at hjl
    rw [hl]
    calc (i - xs.length) * s.n + j < (i - xs.length) * s.n + s.n := by omega
      _ = (i - xs.length + 1) * s.n := by rw [Nat.add_mul, Nat.one_mul]
      _ ≤ ys.length * s.n := Nat.mul_le_mul_right _ (by omega)

theorem Rows.take {s : Sh} {xs : List (Val s)} {cur : List Value} (h : Rows w ok s xs cur) : Rows w ok s xs (cur.take (xs.length * s.n)) := by
  intro i hi
  obtain ⟨c, hc, hj⟩ := h i hi
  refine ⟨c, hc, fun j hjl => ?_⟩
  rw [← hj j hjl, List.getElem?_take, if_pos]
  rw [hc.len] at hjl
  calc i * s.n + j < i * s.n + s.n := by omega
    _ = (i + 1) * s.n := by rw [Nat.add_mul, Nat.one_mul]
    _ ≤ xs.length * s.n := Nat.mul_le_mul_right _ hi

theorem keeps_grown (M : Nat → Prop) (w : World) (o : Go.Obj) : Keeps M w (w.drew.alloc o) :=
  ⟨rfl, rfl, rfl, by show w.heap.size ≤ (w.heap.push o).size; simp, fun b hb _ => heap_alloc_old w.drew o b hb⟩

/-- a slice whose memory lies at or above a place -/
def FreshV (N : Nat) : Value → Prop
  | .slice (some ad) _ _ => N ≤ ad.block
  | _ => True
/-- what an append to it does: below that place nothing turns -/
def AppF (ya v : Value) (w w' : World) : Prop := ∀ N, N ≤ w.heap.size → FreshV N ya → FreshV N v ∧ N ≤ w'.heap.size ∧ ∀ b, b < N → w'.heap[b]? = w.heap[b]?

theorem appendOwn_sound (hE : E.Good) {R : Type} {K : C → St → Option R} {r : R} (h : Rel E pl st a w) {e t ty : TypeId} {dst : Nat} {ya : Value} (hu : P.underlying t = some (.slice e))
    {s : Sh} {by_ : Nat} {z : Value} {ie : TypeInfo} (hbp : 0 < by_) (hpos : 0 < s.n) (hzs : z.cells.size = s.n) (hie : P.info? e = some ie) (hiz : ie.zero = some z) (hiesz : ie.size = s.n) (hieb : ie.bytes = by_)
    {ys xs : List (Val s)} {ab : Option Addr} {cb : Nat} (hrow : 0 < ys.length → ∃ bb off, ab = some ⟨bb, off, none⟩ ∧
      ∀ (i : Nat) (hi : i < ys.length), ∃ c, CR w (E.ok pl st.objs w) s ys[i] c ∧ ∀ j, j < c.length → w.cell? ⟨bb, off + i * s.n + j, none⟩ = c[j]?)
    {k : Key} (hlk0 : lookO st.objs k = some (.slice s xs)) (hk : K (.one (.sl (turnTo dst k s (xs ++ ys) st).1)) (turnTo dst k s (xs ++ ys) st).2 = some r) (hle : (xs.length + ys.length) * by_ ≤ 140737488355328) (hle' : xs.length + ys.length ≤ 140737488355328)
    (h1 : (pl.blk k = none ∧ (∃ ad, ya = .slice ad 0 0) ∧ xs = []) ∨ ∃ b cap cur e, pl.blk k = some b ∧ ya = .slice (some ⟨b, 0, none⟩) xs.length cap ∧ w.heap[b]? = some (.cells cur e (0, 0)) ∧
      cap ≤ maxLen ∧ xs.length ≤ cap ∧ cur.size = cap * s.n ∧ Rows w (E.ok pl st.objs w) s xs cur.toList) :
    ∃ v w', (Builtin.append_ #[t, t] ty #[ya, .slice ab ys.length cb]).run P w = .ok v w' ∧ Out E K r a v w' ∧ AppF ya v w w' := by
  have hfr : ∀ N b, pl.blk k = some b → FreshV N ya → N ≤ b := fun N b hb hf => by
    rcases h1 with ⟨h0, _, _⟩ | ⟨b2, cap, cur, e, hb2, rfl, _⟩
    · rw [h0] at hb; cases hb
    · rw [hb] at hb2; cases hb2; exact hf
  have fin : ∀ {bo : Option Nat} {w' : World} {v : Value}, (Builtin.append_ #[t, t] ty #[ya, .slice ab ys.length cb]).run P w = .ok v w' → Keeps (fun b => pl.blk k = some b) w w' →
      (∀ b, bo = some b → b < w'.heap.size ∧ (pl.blk k = some b ∨ w.heap.size ≤ b)) →
      ((bo = none ∧ xs ++ ys = [] ∧ ∃ ad, v = .slice ad 0 0) ∨ ∃ b cur e cap, bo = some b ∧ v = .slice (some ⟨b, 0, none⟩) (xs ++ ys).length cap ∧ w'.heap[b]? = some (.cells cur e (0, 0)) ∧ cap ≤ maxLen ∧ (xs ++ ys).length ≤ cap ∧ cur.size = cap * s.n ∧
        ∀ ok', (∀ b, E.ok pl st.objs w b → ok' b ∧ w'.heap[b]? = w.heap[b]?) → Rows w' ok' s (xs ++ ys) cur.toList) →
      (∀ N, N ≤ w.heap.size → FreshV N ya → FreshV N v) →
      ∃ v w', (Builtin.append_ #[t, t] ty #[ya, .slice ab ys.length cb]).run P w = .ok v w' ∧ Out E K r a v w' ∧ AppF ya v w w' := by
    intro bo w' v hrun hkeep hbo hcase hfresh
    have happ : AppF ya v w w' := fun N hN hf => ⟨hfresh N hN hf, Nat.le_trans hN hkeep.size, fun b hb => hkeep.block b (Nat.lt_of_lt_of_le hb hN) (fun hm => absurd (hfr N b hm hf) (by omega))⟩
    obtain ⟨pl', h2, hb2, hlk2⟩ := turnTo_sound hE h (dst := dst) (xs' := xs ++ ys) hlk0 (bo := bo) hkeep hbo hpos (fun ok' hok' => by
      rcases hcase with ⟨h0, hx, _⟩ | ⟨b, cur, e2, cap, hb, _, hw, hm, hl, hcs, hrows⟩
      · exact .inl ⟨h0, hx⟩
      · exact .inr ⟨b, cur, e2, cap, hb, hw, hm, hl, hcs, hrows ok' hok'⟩)
    have hv1 : v.oneCell' = true := by
      rcases hcase with ⟨_, _, ad, rfl⟩ | ⟨b, cur, e2, cap, _, rfl, _⟩ <;> rfl
    refine ⟨v, w', hrun, ⟨pl', _, _, hk, h2, .inr ⟨hv1, fun s2 xs2 h3 => ?_⟩⟩, happ⟩
    rw [hlk2] at h3
    cases h3
    rw [hb2]
    rcases hcase with ⟨h0, _, hv⟩ | ⟨b, cur, e2, cap, hb, hv, hw, _, _, hcs, _⟩
    · exact .inl ⟨h0, hv⟩
    · exact .inr ⟨b, cap, cur, e2, hb, hv, hw, hcs⟩
  by_cases hm0 : ys.length = 0
  · have hyn : ys = [] := List.length_eq_zero_iff.1 hm0
    rcases h1 with ⟨h0, ⟨ad, rfl⟩, hx⟩ | ⟨b, cap, cur, e2, hb, rfl, hw, hm, hlc, hcs, hrows⟩
    · have hrun := run_append_zero (P := P) (w := w) t ty e ie hu hie ad ab 0 0 cb (Nat.le_refl _)
      rw [hm0] at fin ⊢
      exact fin (bo := none) hrun (Keeps.refl _ w) (fun b hb => by cases hb) (.inl ⟨rfl, by simp [hx, hyn], ad, rfl⟩) (fun N _ hf => hf)
    · have hrun := run_append_zero (P := P) (w := w) t ty e ie hu hie (some ⟨b, 0, none⟩) ab xs.length cap cb hlc
      rw [hm0] at fin ⊢
      refine fin (bo := some b) hrun (Keeps.refl _ w) (fun b' hb' => by cases hb'; exact ⟨lt_of_heap hw, .inl hb⟩) (.inr ⟨b, cur, e2, cap, rfl, by simp [hyn], hw, hm, by simpa [hyn] using hlc, hcs, fun ok' hok' => ?_⟩) (fun N _ hf => hf)
      rw [hyn, List.append_nil]
      exact hrows.mono hok'
  · obtain ⟨bb, off, rfl, hcells⟩ := hrow (by omega)
    obtain ⟨news, hnl, hnc, hnr, hn1⟩ := news_of (f := fun q => w.cell? ⟨bb, off + q, none⟩) hpos (fun i hi => by
      obtain ⟨c, h1, h2⟩ := hcells i hi
      exact ⟨c, h1, fun j hj => by rw [← h2 j hj, Nat.add_assoc]⟩)
    have hnc' : ∀ j u, news[j]? = some u → w.cell? ((⟨bb, off, none⟩ : Addr).add j) = some u := fun j u hj => by
      rw [Addr.add_lit]
      exact hnc j u hj
    rcases h1 with ⟨h0, ⟨ad, rfl⟩, hx⟩ | ⟨b, cap, cur, e2, hb, rfl, hw, hm, hlc, hcs, hrows⟩
    · subst hx
      have hrun : (Builtin.append_ #[t, t] ty #[.slice ad 0 0, .slice (some ⟨bb, off, none⟩) ys.length cb]).run P w = .ok (.slice (some ⟨w.heap.size, 0, none⟩) ys.length (grownCap w ys.length 0 e))
          (w.drew.alloc (.cells (news.toArray ++ Builtin.zeroCells z.cells (grownCap w ys.length 0 e - ys.length)) e)) := by
        cases ad with
        | none => exact run_append_nil (P := P) w t ty e ie z hu hie hiz ⟨bb, off, none⟩ ys.length cb news (by rw [hnl, hiesz]) hnc' (by omega) (by omega) (by rw [hieb]; have h2 := hle; simp only [List.length_nil, Nat.zero_add] at h2; omega)
        | some ad =>
          have := run_append_grow (P := P) w t ty e ie z hu hie hiz ad 0 0 [] (by simp) (by simp) ⟨bb, off, none⟩ ys.length cb news (by rw [hnl, hiesz]) hnc' (by omega) (by omega) (growslice_fits (by omega) (by rw [hieb]; have h2 := hle; simp only [List.length_nil, Nat.zero_add] at h2; simpa using h2))
          simpa using this
      have hge := grownCap_ge w ys.length 0 e
      refine fin (bo := some w.heap.size) hrun (keeps_grown _ w _) (fun b' hb' => by cases hb'; exact ⟨lt_of_heap (heap_alloc_new w.drew _), .inr (Nat.le_refl _)⟩)
        (.inr ⟨w.heap.size, _, e, grownCap w ys.length 0 e, rfl, by simp, heap_alloc_new w.drew _, grownCap_le_maxLen w _ _ e (by simp only [maxLen]; omega), by simpa using hge, ?_, fun ok' hok' => ?_⟩) (fun N hN _ => hN)
      · simp only [Array.size_append, List.size_toArray, size_zeroCells, hzs, hnl, ← Nat.add_mul]
        congr 1
        omega
      · have := Rows.append (xs := []) (olds := []) (rest := (Builtin.zeroCells z.cells (grownCap w ys.length 0 e - ys.length)).toList) (by simp) (fun i hi => by simp at hi) (hnr.mono hok') hnl
        simpa using this
    · by_cases hroom : xs.length + ys.length ≤ cap
      · have hfit : xs.length * ie.size + news.length ≤ cur.size := by
          rw [hnl, hcs, hiesz, ← Nat.add_mul]
          exact Nat.mul_le_mul_right _ hroom
        have hrun := run_append_room' (P := P) (w := w) t ty e ie hu hie b xs.length cap cur e2 hw ⟨bb, off, none⟩ ys.length cb news (by rw [hnl, hiesz]) hnc' hn1 hroom hfit
        refine fin (bo := some b) hrun ((Keeps.setRow w b _).mono fun i _ hi => by rw [hi]; exact hb) (fun b' hb' => by cases hb'; exact ⟨by simpa using lt_of_heap hw, .inl hb⟩)
          (.inr ⟨b, _, e2, cap, rfl, by simp, setRow_heap w b cur _ e2 _ hw, hm, by simpa using hroom, ?_, fun ok' hok' => ?_⟩) (fun N _ hf => hf)
        · rw [← hcs]; simp; rw [hiesz] at hfit ⊢; omega
        · have ho : (cur.toList.take (xs.length * s.n)).length = xs.length * s.n := by
            have hcl : cur.toList.length = cap * s.n := by simpa using hcs
            rw [List.length_take, hcl]
            exact Nat.min_eq_left (Nat.mul_le_mul_right _ hlc)
          have := Rows.append (rest := cur.toList.drop (xs.length * ie.size + news.length)) ho (hrows.take.mono hok') (hnr.mono hok') hnl
          rw [hiesz] at this ⊢
          simpa using this
      · have holds : ∀ j u, (cur.toList.take (xs.length * s.n))[j]? = some u → w.cell? ((⟨b, 0, none⟩ : Addr).add j) = some u := fun j u hj => by
          rw [List.getElem?_take] at hj
          split at hj
          · rw [Addr.add_lit, cell_of_row w b _ cur e2 _ hw]
            simpa using hj
          · cases hj
        have ho : (cur.toList.take (xs.length * s.n)).length = xs.length * s.n := by
          have hcl : cur.toList.length = cap * s.n := by simpa using hcs
          rw [List.length_take, hcl]
          exact Nat.min_eq_left (Nat.mul_le_mul_right _ hlc)
        have hrun := run_append_grow (P := P) w t ty e ie z hu hie hiz ⟨b, 0, none⟩ xs.length cap _ (by rw [ho, hiesz]) holds ⟨bb, off, none⟩ ys.length cb news (by rw [hnl, hiesz]) hnc' (by omega) (by omega) (growslice_fits (by omega) (by rw [hieb]; exact hle))
        have hge := grownCap_ge w (xs.length + ys.length) cap e
        refine fin (bo := some w.heap.size) hrun (keeps_grown _ w _) (fun b' hb' => by cases hb'; exact ⟨lt_of_heap (heap_alloc_new w.drew _), .inr (Nat.le_refl _)⟩)
          (.inr ⟨w.heap.size, _, e, grownCap w (xs.length + ys.length) cap e, rfl, by simp, heap_alloc_new w.drew _, grownCap_le_maxLen w _ _ e (by simp only [maxLen]; omega), by simpa using hge, ?_, fun ok' hok' => ?_⟩) (fun N hN _ => hN)
        · simp only [Array.size_append, List.size_toArray, size_zeroCells, hzs, ho, hnl, ← Nat.add_mul]
          congr 1
          omega
        · have := Rows.append (rest := (Builtin.zeroCells z.cells (grownCap w (xs.length + ys.length) cap e - (xs.length + ys.length))).toList) ho (hrows.take.mono hok') (hnr.mono hok') hnl
          simpa using this

theorem appendNil_sound (hE : E.Good) {R : Type} {K : C → St → Option R} {r : R} (h : Rel E pl st a w) {e t ty : TypeId} {dst : Nat} (hu : P.underlying t = some (.slice e))
    {s : Sh} {by_ : Nat} {z : Value} {ie : TypeInfo} (hbp : 0 < by_) (hpos : 0 < s.n) (hzs : z.cells.size = s.n) (hie : P.info? e = some ie) (hiz : ie.zero = some z) (hiesz : ie.size = s.n) (hieb : ie.bytes = by_)
    {ys : List (Val s)} {ab : Option Addr} {cb : Nat} (hrow : 0 < ys.length → ∃ bb off, ab = some ⟨bb, off, none⟩ ∧
      ∀ (i : Nat) (hi : i < ys.length), ∃ c, CR w (E.ok pl st.objs w) s ys[i] c ∧ ∀ j, j < c.length → w.cell? ⟨bb, off + i * s.n + j, none⟩ = c[j]?)
    (hk : K (.one (.sl (.loc dst))) (st.new (.loc dst) (.slice s ys)) = some r) (hle : ys.length * by_ ≤ 140737488355328) (hle' : ys.length ≤ 140737488355328) :
    ∃ v w', (Builtin.append_ #[t, t] ty #[.slice none 0 0, .slice ab ys.length cb]).run P w = .ok v w' ∧ Out E K r a v w' ∧ AppF (.slice none 0 0) v w w' := by
  by_cases hm0 : ys.length = 0
  · have hyn : ys = [] := List.length_eq_zero_iff.1 hm0
    have hrun := run_append_zero (P := P) (w := w) t ty e ie hu hie none ab 0 0 cb (Nat.le_refl _)
    subst hyn
    exact ⟨.slice none 0 0, w, hrun, ⟨pl.setB (.loc dst) none, .one (.sl (.loc dst)), _, hk, h.newNil hE rfl hpos, .inr ⟨rfl, fun s2 xs2 h3 => .inl ⟨by simp, none, rfl⟩⟩⟩, fun N hN _ => ⟨trivial, hN, fun _ _ => rfl⟩⟩
  · obtain ⟨bb, off, rfl, hcells⟩ := hrow (by omega)
    obtain ⟨news, hnl, hnc, hnr, hn1⟩ := news_of (f := fun q => w.cell? ⟨bb, off + q, none⟩) hpos (fun i hi => by
      obtain ⟨c, h1, h2⟩ := hcells i hi
      exact ⟨c, h1, fun j hj => by rw [← h2 j hj, Nat.add_assoc]⟩)
    have hnc' : ∀ j u, news[j]? = some u → w.cell? ((⟨bb, off, none⟩ : Addr).add j) = some u := fun j u hj => by
      rw [Addr.add_lit]
      exact hnc j u hj
    have hrun := run_append_nil (P := P) w t ty e ie z hu hie hiz ⟨bb, off, none⟩ ys.length cb news (by rw [hnl, hiesz]) hnc' (by omega) (by omega) (by rw [hieb]; omega)
    have hge := grownCap_ge w ys.length 0 e
    have hd : Rel E pl st a w.drew := h.grow hE ⟨rfl, rfl, rfl, Nat.le_refl _, fun _ _ _ => rfl⟩
    have hsize : (news.toArray ++ Builtin.zeroCells z.cells (grownCap w ys.length 0 e - ys.length)).size = grownCap w ys.length 0 e * s.n := by
      simp only [Array.size_append, List.size_toArray, size_zeroCells, hzs, hnl, ← Nat.add_mul]
      congr 1
      omega
    have hobj := hd.alloc hE (key := .loc dst) rfl (o := .slice s ys) (cells := news.toArray ++ Builtin.zeroCells z.cells (grownCap w ys.length 0 e - ys.length)) (e := e) (fun pl2 objs2 w2 ok2 hb hheap _ _ hok => by
      refine ⟨hpos, .inr ⟨_, _, e, grownCap w ys.length 0 e, hb, hheap, grownCap_le_maxLen w _ _ e (by simp only [maxLen]; omega), hge, hsize, ?_⟩⟩
      have := Rows.append (xs := []) (olds := []) (rest := (Builtin.zeroCells z.cells (grownCap w ys.length 0 e - ys.length)).toList) (by simp) (fun i hi => by simp at hi) (hnr.mono (w' := w2) (ok' := ok2) (fun b hb => ?_)) hnl
      · simpa using this
      · exact hok b hb)
    refine ⟨_, _, hrun, ⟨_, _, _, hk, hobj, .inr ⟨rfl, fun s2 xs2 h3 => ?_⟩⟩, fun N hN _ => ⟨hN, Nat.le_trans hN (keeps_grown (fun _ => False) w _).size, fun b hb => (keeps_grown (fun _ => False) w _).block b (by omega) (fun e => e)⟩⟩
    rw [lookO_new, if_pos rfl] at h3
    cases h3
    exact .inr ⟨w.heap.size, _, _, e, by simp, rfl, heap_alloc_new w.drew _, hsize⟩

theorem appendOp_sound (hE : E.Good) {R : Type} {K : C → St → Option R} {r : R} (h : Rel E pl st a w) {e t ty : TypeId} {dst : Nat} {la lb : L} {ya yb : Value} (hu : P.underlying t = some (.slice e))
    (ha : CRel pl st.objs w (E.ok pl st.objs w) (.one la) ya) (hb : CRel pl st.objs w (E.ok pl st.objs w) (.one lb) yb) (hc : appendOp P e dst st la lb K = some r) :
    ∃ v w', (Builtin.append_ #[t, t] ty #[ya, yb]).run P w = .ok v w' ∧ Out E K r a v w' ∧ AppF ya v w w' := by
  unfold appendOp at hc
  split at hc
  · rename_i by_ s z hby hs hz
    generalize hcond : (Nat.blt 0 by_ && Nat.blt 0 s.n && decide (sizeT P e = some s.n) && Nat.beq z.cells.size s.n) = bo at hc
    cases bo with
    | false => cases hc
    | true =>
      simp only [cond_true] at hc
      simp only [Bool.and_eq_true, decide_eq_true_eq] at hcond
      obtain ⟨⟨⟨hbp, hpos⟩, hsz⟩, hzs⟩ := hcond
      have hbp := blt_true hbp
      have hpos := blt_true hpos
      have hzs := Nat.eq_of_beq_eq_true hzs
      obtain ⟨⟨ie, hie, hiz⟩, _⟩ := zeroOf_some hz
      have hiesz := sizeT_info hsz hie
      obtain ⟨ie2, hie2, hieb⟩ := bytesT_some hby
      rw [hie] at hie2; cases hie2
      split at hc
      · rename_i ys hys
        obtain ⟨ab, cb, rfl, hrow⟩ := list_of h.heap hb hys
        have bound : ∀ n : Nat, (n + ys.length) * by_ ≤ 140737488355328 → n + ys.length ≤ 140737488355328 := fun n hn => Nat.le_trans (Nat.le_mul_of_pos_right _ hbp) hn
        split at hc
        · rename_i k
          split at hc
          · rename_i s' xs hlk0
            split at hc
            · rename_i xs1 hxs
              obtain ⟨es, rfl⟩ := castV_eq hxs
              cases es
              simp only at hc
              generalize hal : (slKeys [lb]).any (keyB k) = al at hc
              cases al with
              | true => cases hc
              | false =>
                simp only [cond_false] at hc
                obtain ⟨hle, hk⟩ := guardC_some hc
                have hle' := bound _ hle
                obtain ⟨_, h1⟩ := h.heap.slice hlk0 (LR.one' ha (by simp)).2
                exact appendOwn_sound hE h hu hbp hpos hzs hie hiz hiesz hieb hrow hlk0 hk hle hle' h1
            · cases hc
          · cases hc
        · -- onto nil
          have hya : ya = .slice none 0 0 := (LR.one' ha (by simp)).2
          subst hya
          obtain ⟨hle, hk⟩ := guardC_some hc
          have hle' : ys.length ≤ 140737488355328 := by have := bound 0 (by simpa using hle); omega
          exact appendNil_sound hE h hu hbp hpos hzs hie hiz hiesz hieb hrow hk hle hle'
        · cases hc
      · cases hc
  · cases hc

end
end Go.AI
