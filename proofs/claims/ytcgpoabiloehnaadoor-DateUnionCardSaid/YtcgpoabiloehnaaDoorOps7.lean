/-
  What the operations do: stores.
-/
import Derived.Test.YtcgpoabiloehnaaDoorOps6
set_option linter.unusedVariables false
set_option linter.unusedSimpArgs false
namespace Go.AI
open Go

section
variable {P : Program} {E : Env} {pl : Pl} {st : St} {a : Act} {w : World} {objs : Objs} {ok : Nat → Prop}

theorem Obj.map_slice {f : L → L} {o : Obj} {s : Sh} {xs : List (Val s)} (h : o.map f = .slice s xs) : o = .slice s xs := by
  cases o <;> simp [Obj.map] at h ⊢
  exact h

theorem freeze_look {key k : Key} {s : Sh} {xs : List (Val s)} (h : lookO (st.freeze key).objs k = some (.slice s xs)) : lookO st.objs k = some (.slice s xs) := by
  unfold St.freeze at h
  split at h
  · rename_i s' xs' hlk
    simp only [lookO_mapO, lookO_delO] at h
    split at h
    · cases h
    · obtain ⟨o, ho, e⟩ := Option.map_eq_some_iff.1 h
      rw [ho, Obj.map_slice e]
  · exact h
theorem freezes_look {k : Key} {s : Sh} {xs : List (Val s)} : ∀ (ks : List Key) {st : St}, lookO (st.freezes ks).objs k = some (.slice s xs) → lookO st.objs k = some (.slice s xs)
  | [], st, h => h
  | k1 :: ks, st, h => freeze_look (freezes_look ks (st := st.freeze k1) h)

theorem freeze_mut {key : Key} {b : Nat} (h : Mut pl (st.freeze key).objs b) : Mut pl st.objs b := by
  obtain ⟨k, o, ho, hb⟩ := h
  unfold St.freeze at ho
  split at ho
  · simp only [lookO_mapO, lookO_delO] at ho
    split at ho
    · cases ho
    · obtain ⟨o', ho', _⟩ := Option.map_eq_some_iff.1 ho
      exact ⟨k, o', ho', hb⟩
  · exact ⟨k, o, ho, hb⟩

/-- blocks of frozen slices may be read for good -/
theorem freezes_ok (hE : E.Good) {b : Nat} : ∀ (ks : List Key) {st : St}, Rel E pl st a w → (E.ok pl st.objs w b ∨ ∃ k, k ∈ ks ∧ pl.blk k = some b ∧ ∃ s xs, lookO st.objs k = some (.slice s xs)) → E.ok pl (st.freezes ks).objs w b
  | [], st, h, hb => by
    rcases hb with hb | ⟨k, hk, _⟩
    · exact hb
    · simp at hk
  | k1 :: ks, st, h, hb => by
    refine freezes_ok hE ks (st := st.freeze k1) (h.freeze hE k1) ?_
    rcases hb with hb | ⟨k, hk, hkb, s, xs, hlk⟩
    · exact .inl ⟨hb.1, hb.2.1, fun e => hb.2.2 (freeze_mut e)⟩
    · by_cases e : k = k1
      · subst e
        refine .inl (Env.ok_of_own hE h.heap (by rw [hlk]; rfl) hkb ?_)
        rintro ⟨k2, o, ho, hb2⟩
        unfold St.freeze at ho
        simp only [hlk, lookO_mapO, lookO_delO] at ho
        split at ho
        · cases ho
        · rename_i hne
          obtain ⟨o', ho', _⟩ := Option.map_eq_some_iff.1 ho
          exact hne (h.heap.inj k2 k b (by rw [ho']; rfl) (by rw [hlk]; rfl) hb2 hkb)
      · refine .inr ⟨k, (List.mem_cons.1 hk).resolve_left e, hkb, s, xs, ?_⟩
        unfold St.freeze
        split
        · simp only [lookO_mapO, lookO_delO, if_neg e, hlk]; rfl
        · exact hlk

theorem All2.splice {A B : Type} {R : A → B → Prop} {xs ys : List A} {us vs : List B} (h : All2 R xs us) (h' : All2 R ys vs) (off : Nat) :
    All2 R (xs.take off ++ ys ++ xs.drop (off + ys.length)) (us.take off ++ vs ++ us.drop (off + vs.length)) := by
  rw [h'.length]
  exact ((h.take off).append h').append (h.drop _)

theorem key_ne_fld : ∀ (k : Key) (i : Nat), k ≠ .fld k i
  | .fld k j, i, e => by
    injection e with e1 e2
    exact key_ne_fld k j e1
  | .loc _, _, e => by cases e
  | .imp _, _, e => by cases e
  | .sub _ _, _, e => by cases e
  | .res _, _, e => by cases e

theorem solid_cells {c : C} {v : Value} (h : CRel pl objs w ok c v) (hs : c.solid = true) : All2 (LR' pl objs w ok) c.cells v.cells.toList :=
  cells_sound h (fun e => by subst e; cases hs) (fun cs e => by subst e; cases hs)

theorem splice_get {A : Type} (cur us : List A) {o n : Nat} (hl : us.length = n) (hle : o + n ≤ cur.length) (q : Nat) :
    (cur.take o ++ us ++ cur.drop (o + n))[q]? = if o ≤ q ∧ q < o + n then us[q - o]? else cur[q]? := by
  simp only [List.append_assoc]
  have hl1 : (cur.take o).length = o := by simp; omega
  rw [List.getElem?_append]
  split
  · rename_i hq
    rw [hl1] at hq
    rw [if_neg (by omega), List.getElem?_take, if_pos hq]
  · rename_i hq
    rw [hl1] at hq
    rw [hl1, List.getElem?_append]
    split
    · rename_i hq2
      rw [hl] at hq2
      rw [if_pos (by omega)]
    · rename_i hq2
      rw [hl] at hq2
      rw [if_neg (by omega), hl, List.getElem?_drop]
      congr 1
      omega

theorem one_of_all2 {ls : List L} {vs : List Value} (h : All2 (LR' pl objs w ok) ls vs) : ∀ v, v ∈ vs → v.oneCell' = true := fun v hv => by
  obtain ⟨i, hi⟩ := List.mem_iff_getElem?.1 hv
  obtain ⟨l, _, hl⟩ := h.getR i v hi
  exact hl.1

theorem storeOp_sound (hE : E.Good) {R : Type} {K : C → St → Option R} {r : R} (h : Rel E pl st a w) {t : TypeId} {l : L} {y : Value} {c : C} {v : Value} (hy : CRel pl st.objs w (E.ok pl st.objs w) (.one l) y)
    (hv : CRel pl st.objs w (E.ok pl st.objs w) c v) (hc : storeOp P t st l c K = some r) :
    ∃ w', (Instr.storeAt t y v).run P w = .ok () w' ∧ Out E K r a undef w' := by
  unfold storeOp at hc
  split at hc
  · rename_i n ts hn hts
    cases hlen : (c.solid && Nat.beq c.cells.length n) with
    | false => rw [hlen] at hc; cases hc
    | true =>
      rw [hlen] at hc
      simp only [cond_true] at hc
      simp only [Bool.and_eq_true] at hlen
      have hsolid := hlen.1
      have hlen := Nat.eq_of_beq_eq_true hlen.2
      have hcells := solid_cells hv hsolid
      have hvl : v.cells.size = n := by rw [← hlen, hcells.length]; simp
      have hone := one_of_all2 hcells
      have run : ∀ (b off : Nat) (cur : Array Value) (e : TypeId), w.heap[b]? = some (.cells cur e (0, 0)) → off + n ≤ cur.size → y = .pointer (some ⟨b, off, none⟩) →
          (Instr.storeAt t y v).run P w = .ok () (w.setRow b (cur.toList.take off ++ v.cells.toList ++ cur.toList.drop (off + n)).toArray) := by
        intro b off cur e hcur hle hy
        have := run_storeCells_at P b off e v.cells.toList 0 cur w hcur (by simp [hvl]; omega) hone
        simp only [Nat.add_zero, Array.length_toList, hvl] at this
        simp [Instr.storeAt, hy, Instr.sureAddr, storeVar, run_size hn, hvl, this]
      split at hc
      · rename_i k off
        split at hc
        · rename_i z hz
          split at hc
          · rename_i ls hlk
            cases hle : Nat.ble (off + n) ls.length with
            | false => rw [hle] at hc; cases hc
            | true =>
              rw [hle] at hc
              simp only [cond_true] at hc
              have hle := Nat.le_of_ble_eq_true hle
              obtain ⟨b, hb, hyy⟩ := (LR.one' hy (by simp)).2
              obtain ⟨pl', h1, h2, hblk⟩ := settle_sound (P := P) hE h hcells hz
              have hb' : pl'.blk k = some b := by rw [hblk k (key_ne_fld k)]; exact hb
              obtain ⟨b2, cur, e, hb2, hcur, hall⟩ := h1.heap.obj k _ hlk
              rw [hb'] at hb2; cases hb2
              have hsz : cur.size = ls.length := by rw [hall.length]; simp
              have hrun := run b off cur e hcur (by omega) hyy
              have hz1 : z.1.length = n := by rw [h2.length]; simp [hvl]
              have hnew : All2 (LR' pl' z.2.objs w (E.ok pl' z.2.objs w)) (spliceL ls off z.1) (cur.toList.take off ++ v.cells.toList ++ cur.toList.drop (off + n)).toArray.toList := by
                have := All2.splice hall h2 off
                simp only [Array.length_toList, hvl] at this
                simpa [spliceL] using this
              exact ⟨_, hrun, pl', _, _, hc, h1.write hE hlk hb' hcur hnew, .inl rfl⟩
          · cases hc
        · cases hc
      · rename_i k i off
        split at hc
        · rename_i s xs hlk
          cases hle : Nat.ble (off + n) s.n with
          | false => rw [hle] at hc; cases hc
          | true =>
            rw [hle] at hc
            simp only [cond_true] at hc
            have hle := Nat.le_of_ble_eq_true hle
            obtain ⟨x, hx, hc⟩ := eltC_some hc
            split at hc
            · rename_i y2 hy2
              have h1 := Rel.freezes hE (slKeys c.cells) h
              have hlk0 := freezes_look _ hlk
              obtain ⟨b, p, hb, hi, hyy⟩ := (LR.one' hy (by simp)).2 s xs hlk0
              obtain ⟨hpos, ho⟩ := h.heap.obj k _ hlk0
              obtain ⟨_, ho1⟩ := h1.heap.obj k _ hlk
              rcases ho with ⟨h0, _⟩ | ⟨b2, cur, e, cap, hb2, hcur, hm, hlc, hcs, hrows⟩
              · rw [hb] at h0; cases h0
              · rw [hb] at hb2; cases hb2
                rcases ho1 with ⟨h0, _⟩ | ⟨b2, cur2, e2, cap2, hb2, hcur2, _, _, _, hrows1⟩
                · rw [hb] at h0; cases h0
                · rw [hb] at hb2; cases hb2
                  rw [hcur] at hcur2; cases hcur2
                  obtain ⟨hi1, hx'⟩ := List.getElem?_eq_some_iff.1 hx
                  have hp : p = i.toNat * s.n := by rw [hi.2.2]; omega
                  subst hp
                  have hrowle : i.toNat * s.n + s.n ≤ cur.size := by
                    rw [hcs]
                    calc i.toNat * s.n + s.n = (i.toNat + 1) * s.n := by rw [Nat.add_mul, Nat.one_mul]
                      _ ≤ cap * s.n := Nat.mul_le_mul_right _ (by omega)
                  have hrun := run b (i.toNat * s.n + off) cur e hcur (by omega) hyy
                  -- the element's new cells
                  obtain ⟨cc, hcc, hj⟩ := hrows i.toNat hi1
                  rw [hx'] at hcc
                  have hnew := ofL_sound h.heap s hy2 (All2.splice (toL_sound (pl := pl) (objs := st.objs) hcc) hcells off)
                  have hkeys : slKeys (spliceL (toL s x) off c.cells) = slKeys c.cells := by
                    have hno : ∀ (s : Sh) (x : Val s), slKeys (toL s x) = [] := fun s => by
                      induction s with
                      | pair a b iha ihb => intro x; simp [toL, slKeys_append, iha, ihb]
                      | _ => intro x; rfl
                    have htake : ∀ (l : List L) (m : Nat), slKeys l = [] → slKeys (l.take m) = [] ∧ slKeys (l.drop m) = [] := fun l m hl => by
                      have : slKeys (l.take m ++ l.drop m) = [] := by rw [List.take_append_drop]; exact hl
                      rw [slKeys_append] at this
                      exact List.append_eq_nil_iff.1 this
                    simp [spliceL, slKeys_append, htake _ _ (hno s x)]
                  have hnew1 : CR w (E.ok pl (st.freezes (slKeys c.cells)).objs w) s y2 _ := hnew.okMono fun b hb => freezes_ok hE _ h (by
                    rcases hb with hb | ⟨k', hk', hb'⟩
                    · exact .inl hb
                    · exact .inr ⟨k', by rw [← hkeys]; exact hk', hb'⟩)
                  refine ⟨_, hrun, pl, _, _, hc, ?_, .inl rfl⟩
                  refine h1.writeElt hE hlk (by simp) hb hcur (by simp [hvl]; omega) (fun ok' hok' => ?_)
                  intro j hj'
                  rw [List.length_set] at hj'
                  have hl2 : v.cells.toList.length = n := by simp [hvl]
                  have hcur' : ∀ q, (cur.toList.take (i.toNat * s.n + off) ++ v.cells.toList ++ cur.toList.drop (i.toNat * s.n + off + n)).toArray.toList[q]? =
                      if i.toNat * s.n + off ≤ q ∧ q < i.toNat * s.n + off + n then v.cells.toList[q - (i.toNat * s.n + off)]? else cur.toList[q]? := fun q =>
                    splice_get _ _ hl2 (by simp; omega) q
                  by_cases hji : j = i.toNat
                  · subst hji
                    refine ⟨List.take off cc ++ v.cells.toList ++ List.drop (off + v.cells.toList.length) cc, ?_, fun q hq => ?_⟩
                    · rw [List.getElem_set_self]
                      exact hnew1.mono hok'
                    · have hnl := hnew1.len
                      rw [hnl] at hq
                      rw [hcur', hl2, splice_get _ _ hl2 (by rw [hcc.len]; exact hle)]
                      by_cases hin : off ≤ q ∧ q < off + n
                      · rw [if_pos (by omega), if_pos hin]
                        congr 1
                        omega
                      · rw [if_neg (by omega), if_neg hin]
                        exact hj q (by rw [hcc.len]; exact hq)
                  · obtain ⟨cj, hcj, hjj⟩ := hrows1 j (by omega)
                    refine ⟨cj, ?_, fun q hq => ?_⟩
                    · rw [List.getElem_set_ne (fun e => hji e.symm)]
                      exact hcj.mono hok'
                    · rw [hcj.len] at hq
                      rw [hcur', if_neg, hjj q (by rw [hcj.len]; exact hq)]
                      rintro ⟨q1, q2⟩
                      rcases Nat.lt_or_gt_of_ne hji with hlt | hgt
                      · have : (j + 1) * s.n ≤ i.toNat * s.n := Nat.mul_le_mul_right _ hlt
                        rw [Nat.add_mul, Nat.one_mul] at this
                        omega
                      · have : (i.toNat + 1) * s.n ≤ j * s.n := Nat.mul_le_mul_right _ hgt
                        rw [Nat.add_mul, Nat.one_mul] at this
                        omega
            · cases hc
        · cases hc
      · cases hc
  · cases hc

end
end Go.AI
