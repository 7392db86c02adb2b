/-
  What the operations do: those that read the operands alone.
-/
import Derived.Test.YtcgpoabiloehnaaDoorRename
import Derived.Laws.Build
import Derived.Laws.Small
import Derived.Laws.StructEq
set_option linter.unusedVariables false
set_option linter.unusedSimpArgs false
namespace Go.AI
open Go

section
variable {P : Program} {E : Env} {pl : Pl} {st : St} {a : Act} {w : World} {objs : Objs} {ok : Nat → Prop}

theorem Rel.eval (h : Rel E pl st a w) (x : Operand) : CRel pl st.objs w (E.ok pl st.objs w) (evalO st.α x) (a.eval x) := by
  unfold evalO
  split <;> first
    | exact h.slot _
    | exact .inr ⟨rfl, rfl⟩
    | exact .inl rfl

theorem CRel.int {k : IntKind} {n : Int} {y : Value} (h : CRel pl objs w ok (.one (.v (.int k) n)) y) : y = .int k n := by
  rcases h with h | h
  · cases h
  · have := h.2
    simpa [LR, CR] using this
theorem CRel.str {s : ByteArray} {y : Value} (h : CRel pl objs w ok (.one (.v .str s)) y) : y = .string s := by
  rcases h with h | h
  · cases h
  · have := h.2
    simpa [LR, CR] using this
theorem LR.bool {l : L} {b : Bool} {y : Value} (h : LR pl objs w ok l y) (hb : boolOf l = some b) : y = .bool b := by
  unfold boolOf at hb
  split at hb
  · cases hb; exact h
  · cases hb; exact h
  · cases hb; simpa [LR, CR] using h
  · cases hb
theorem CRel.bool {l : L} {b : Bool} {y : Value} (h : CRel pl objs w ok (.one l) y) (hb : boolOf l = some b) : y = .bool b := by
  rcases h with rfl | h
  · cases hb
  · exact h.2.bool hb
theorem crel_int (k : IntKind) (n : Int) : CRel pl objs w ok (.one (.v (.int k) n)) (.int k n) := .inr ⟨rfl, rfl⟩
theorem crel_bool (b : Bool) : CRel pl objs w ok (.one (.v .bool b)) (.bool b) := .inr ⟨rfl, rfl⟩
theorem crel_str (s : ByteArray) : CRel pl objs w ok (.one (.v .str s)) (.string s) := .inr ⟨rfl, rfl⟩
theorem intOf_some {c : C} {n : Int} (h : intOf' c = some n) : ∃ k, c = .one (.v (.int k) n) := by
  unfold intOf' at h
  split at h
  · cases h; exact ⟨_, rfl⟩
  · cases h
theorem int64Of_some {c : C} {n : Int} (h : int64Of c = some n) : c = .one (.v (.int .i64) n) := by
  unfold int64Of at h
  split at h
  · cases h; rfl
  · cases h

/-- what an operation yields, whatever memory is -/
def Sure (P : Program) (x : Sem Value) (v : Value) : Prop := ∀ w, x.run P w = .ok v w

theorem LR.one' {l : L} {y : Value} (h : CRel pl objs w ok (.one l) y) (hl : l ≠ .dead) : LR' pl objs w ok l y := h.resolve_left hl

/-! ### numbers, strings, truth values -/
theorem binOp_int {op : BinOp} {k : IntKind} {x y : Int} {l : L} (h : intOp op k x y = some l) (t : TypeId) (p q : Operand) :
    ∃ v, CRel pl objs w ok (.one l) v ∧ Sure P (do eqGuard op t p q (.int k x) (.int k y); binOp op t (.int k x) (.int k y)) v := by
  rw [eqGuard_at_int]
  unfold intOp at h
  split at h <;> first
    | (cases h; exact ⟨_, crel_int _ _, fun w => by simp [binOp, Op.intArith, Op.intCmp]⟩)
    | (cases h; exact ⟨_, crel_bool _, fun w => by simp [binOp, Op.intArith, Op.intCmp]⟩)
    | cases h

theorem binOp_str {op : BinOp} {x y : ByteArray} {l : L} (h : strOp op x y = some l) (t : TypeId) (p q : Operand) :
    ∃ v, CRel pl objs w ok (.one l) v ∧ Sure P (do eqGuard op t p q (.string x) (.string y); binOp op t (.string x) (.string y)) v := by
  rw [eqGuard_at_string]
  unfold strOp at h
  split at h <;> first
    | (cases h; exact ⟨_, crel_bool _, fun w => by simp [binOp, Op.stringOp]⟩)
    | cases h

theorem isBoolT_some {t : TypeId} (h : isBoolT P t = true) : P.underlying t = some .bool := by
  unfold isBoolT at h
  split at h
  · assumption
  · cases h

theorem binOp_bool {op : BinOp} {x y : Bool} {l : L} {t : TypeId} (ht : P.underlying t = some .bool) (h : (match op with | .eql => some (L.v .bool (x == y)) | .neq => some (L.v .bool (!(x == y))) | _ => none) = some l)
    (p q : Operand) : ∃ v, CRel pl objs w ok (.one l) v ∧ Sure P (do eqGuard op t p q (.bool x) (.bool y); binOp op t (.bool x) (.bool y)) v := by
  rw [eqGuard_at_bool]
  split at h
  · cases h; exact ⟨_, crel_bool _, fun w => by rw [Sem.run_bind]; simp [run_eql_bool w t x y ht]⟩
  · cases h; exact ⟨_, crel_bool _, fun w => by rw [Sem.run_bind]; simp [run_neq_bool w t x y ht]⟩
  · cases h

/-! ### parts of aggregates -/
theorem wrapT_sound {t : TypeId} {ls : List L} {c : C} {n : Nat} (hw : wrapT P t ls = some c) (hs : sizeT P t = some n) (hn : ls.length = n) {vs : List Value} (hv : All2 (LR' pl objs w ok) ls vs) :
    ∃ v, CRel pl objs w ok c v ∧ ((∃ d, P.underlying t = some d ∧ (d matches .struct _ | .array _ _) ∧ c = .agg ls ∧ v = .agg vs.toArray) ∨
      ∃ d l, P.underlying t = some d ∧ ¬ (d matches .struct _ | .array _ _) ∧ ls = [l] ∧ c = .one l ∧ vs = [v]) := by
  unfold wrapT at hw
  split at hw
  · rename_i hu; cases hw; exact ⟨.agg vs.toArray, ⟨_, rfl, by simpa using hv⟩, .inl ⟨_, hu, rfl, rfl, rfl⟩⟩
  · rename_i hu; cases hw; exact ⟨.agg vs.toArray, ⟨_, rfl, by simpa using hv⟩, .inl ⟨_, hu, rfl, rfl, rfl⟩⟩
  · rename_i d hns hna hu
    split at hw
    · rename_i l
      cases hw
      obtain ⟨v, rfl, hl⟩ := All2.oneL hv
      refine ⟨v, .inr hl, .inr ⟨d, l, hu, ?_, rfl, rfl, rfl⟩⟩
      intro hd
      cases d <;> simp_all
    · cases hw
  · cases hw

/-- is it an aggregate? -/
def aggD (d : TypeDesc) : Bool := match d with
  | .struct _ => true
  | .array _ _ => true
  | _ => false
theorem run_isAgg {t : TypeId} {d : TypeDesc} (hu : P.underlying t = some d) (w : World) : (isAgg t).run P w = .ok (aggD d) w := by
  unfold isAgg
  rw [Sem.run_bind, run_underlying hu w]
  cases d <;> rfl
theorem run_size {t : TypeId} {n : Nat} (h : sizeT P t = some n) (w : World) : (sizeOf t).run P w = .ok n w := by
  unfold sizeT at h
  cases hi : P.info? t with
  | none => simp [hi] at h
  | some i =>
    have : i.size = n := by simpa [hi] using h
    simp [sizeOf, typeInfo, hi, this]

theorem wrapT_some {t : TypeId} {ls : List L} {c : C} (hw : wrapT P t ls = some c) : ∃ d, P.underlying t = some d ∧
    ((aggD d = true ∧ c = .agg ls) ∨ (aggD d = false ∧ ∃ l, ls = [l] ∧ c = .one l)) := by
  unfold wrapT at hw
  split at hw
  · rename_i hu; cases hw; exact ⟨_, hu, .inl ⟨rfl, rfl⟩⟩
  · rename_i hu; cases hw; exact ⟨_, hu, .inl ⟨rfl, rfl⟩⟩
  · rename_i d hns hna hu
    split at hw
    · rename_i l
      cases hw
      refine ⟨d, hu, .inr ⟨?_, l, rfl, rfl⟩⟩
      cases d <;> simp_all [aggD]
    · cases hw
  · cases hw

/-- a part of an aggregate -/
theorem run_part' {t : TypeId} {ls : List L} {c : C} {n off : Nat} {cs : Array Value} (hw : wrapT P t ((ls.drop off).take n) = some c) (hs : sizeT P t = some n) (hn : off + n ≤ ls.length)
    (hv : All2 (LR' pl objs w ok) ls cs.toList) : ∃ v, CRel pl objs w ok c v ∧ Sure P (part t cs off) v := by
  obtain ⟨d, hu, h⟩ := wrapT_some hw
  have hvs := (hv.drop off).take n
  have hlen : cs.size = ls.length := by rw [← Array.length_toList]; exact hv.length.symm
  rcases h with ⟨ha, rfl⟩ | ⟨ha, l, hl, rfl⟩
  · refine ⟨.agg (cs.extract off (off + n)), ⟨_, rfl, ?_⟩, fun w => ?_⟩
    · have : (cs.extract off (off + n)).toList = (cs.toList.drop off).take n := by
        simp [Array.toList_extract, List.extract]
      rw [this]; exact hvs
    · simp [part, run_isAgg hu, ha, run_size hs]
  · rw [hl] at hvs
    obtain ⟨v, hv1, hlv⟩ := hvs.oneL
    refine ⟨v, .inr hlv, fun w => ?_⟩
    have hget : cs[off]? = some v := by
      have h1 : ((cs.toList.drop off).take n)[0]? = some v := by rw [hv1]; rfl
      rw [List.getElem?_take, List.getElem?_drop] at h1
      split at h1
      · simpa using h1
      · cases h1
    simp [part, run_isAgg hu, ha, hget]

/-- what is read at an address -/
theorem run_read {t : TypeId} {ls : List L} {c : C} {n : Nat} {vs : List Value} (hw : wrapT P t ls = some c) (hs : sizeT P t = some n) (hn : ls.length = n) (hv : All2 (LR' pl objs w ok) ls vs) :
    ∃ v, CRel pl objs w ok c v ∧ ∀ (w' : World) (ad : Addr), (∀ j u, vs[j]? = some u → w'.cell? (ad.add j) = some u) → (loadVar t ad).run P w' = .ok v w' := by
  obtain ⟨d, hu, h⟩ := wrapT_some hw
  have hlen := hv.length
  rcases h with ⟨ha, rfl⟩ | ⟨ha, l, rfl, rfl⟩
  · refine ⟨.agg vs.toArray, ⟨_, rfl, by simpa using hv⟩, fun w' ad hc => ?_⟩
    have := run_loadCells_list (P := P) w' ad vs hc
    rw [← hlen, hn] at this
    simp [loadVar, run_isAgg hu, ha, run_size hs, this]
  · obtain ⟨v, rfl, hlv⟩ := hv.oneL
    refine ⟨v, .inr hlv, fun w' ad hc => ?_⟩
    have h0 := hc 0 v rfl
    rw [Addr.add_zero'] at h0
    simp [loadVar, run_isAgg hu, ha, h0]

/-- a value of a type with given cells -/
def IsVal (P : Program) (pl : Pl) (objs : Objs) (w : World) (ok : Nat → Prop) (t : TypeId) (ls : List L) (v : Value) : Prop :=
  ∃ d, P.underlying t = some d ∧ ((aggD d = true ∧ ∃ vs : Array Value, v = .agg vs ∧ All2 (LR' pl objs w ok) ls vs.toList) ∨ (aggD d = false ∧ ∃ l, ls = [l] ∧ LR' pl objs w ok l v))

theorem run_partV {t : TypeId} {ls : List L} {n off : Nat} {cs : Array Value} (hu : (P.underlying t).isSome) (hagg : ∀ d, P.underlying t = some d → aggD d = false → n = 1) (hs : sizeT P t = some n) (hn : off + n ≤ ls.length)
    (hv : All2 (LR' pl objs w ok) ls cs.toList) : ∃ v, IsVal P pl objs w ok t ((ls.drop off).take n) v ∧ Sure P (part t cs off) v := by
  obtain ⟨d, hu⟩ := Option.isSome_iff_exists.1 hu
  have hvs := (hv.drop off).take n
  cases ha : aggD d with
  | true =>
    refine ⟨.agg (cs.extract off (off + n)), ⟨d, hu, .inl ⟨ha, _, rfl, ?_⟩⟩, fun w => ?_⟩
    · have : (cs.extract off (off + n)).toList = (cs.toList.drop off).take n := by
        simp [Array.toList_extract, List.extract]
      rw [this]; exact hvs
    · simp [part, run_isAgg hu, ha, run_size hs]
  | false =>
    have hn1 := hagg d hu ha
    subst hn1
    have hl : ((ls.drop off).take 1).length = 1 := by simp; omega
    obtain ⟨l, hl⟩ := List.length_eq_one_iff.1 hl
    rw [hl] at hvs
    obtain ⟨v, hv1, hlv⟩ := hvs.oneL
    refine ⟨v, ⟨d, hu, .inr ⟨ha, l, hl, hlv⟩⟩, fun w => ?_⟩
    have hget : cs[off]? = some v := by
      have h1 : ((cs.toList.drop off).take 1)[0]? = some v := by rw [hv1]; rfl
      rw [List.getElem?_take, List.getElem?_drop] at h1
      split at h1
      · simpa using h1
      · cases h1
    simp [part, run_isAgg hu, ha, hget]

theorem andO_cons {o : Option Bool} {r : List (Option Bool)} {b : Bool} (h : andO (o :: r) = some b) : ∃ x y, o = some x ∧ andO r = some y ∧ b = (x && y) := by
  cases o with
  | none => cases h
  | some x =>
    simp only [andO] at h
    cases hr : andO r with
    | none => rw [hr] at h; cases h
    | some y => rw [hr] at h; cases h; exact ⟨x, y, rfl, rfl, rfl⟩

theorem eqT_leaf {d : Nat} {t : TypeId} {D : TypeDesc} {xs ys : List L} {r : Bool} (hu : P.underlying t = some D) (ha : aggD D = false) (h : eqT P (d + 1) t xs ys = some r) : xs.length = 1 := by
  simp only [eqT, hu] at h
  cases D <;> first
    | (cases ha; done)
    | (simp only at h; split at h <;> first | rfl | cases h)
    | cases h

theorem eqT_sound : ∀ (d D : Nat) {t : TypeId} {xs ys : List L} {x y : Value} {r : Bool}, d ≤ D → eqT P d t xs ys = some r → IsVal P pl objs w ok t xs x → IsVal P pl objs w ok t ys y →
    ∀ w', (Op.equalIn D t x y).run P w' = .ok r w'
  | 0, _, _, _, _, _, _, _, _, h, _, _ => by cases h
  | d + 1, 0, _, _, _, _, _, _, hd, _, _, _ => absurd hd (by omega)
  | d + 1, D + 1, t, xs, ys, x, y, r, hd, h, hx, hy => by
    intro w'
    obtain ⟨dx, hux, hx⟩ := hx
    obtain ⟨dy, huy, hy⟩ := hy
    rw [hux] at huy; cases huy
    simp only [eqT, hux] at h
    cases dx with
    | int k0 =>
      simp only at h
      rcases hx with ⟨ha, _⟩ | ⟨_, l, rfl, hx⟩
      · cases ha
      rcases hy with ⟨ha, _⟩ | ⟨_, l2, rfl, hy⟩
      · cases ha
      split at h
      · rename_i k a k' b e1 e2
        cases e1; cases e2
        simp only [eqL] at h
        by_cases hk : k = k'
        · subst hk
          simp only [decide_true, cond_true] at h
          cases h
          have h1 : x = .int k a := by have := hx.2; simpa [LR, CR] using this
          have h2 : y = .int k b := by have := hy.2; simpa [LR, CR] using this
          subst h1; subst h2
          rw [run_equalIn_int w' D t k k0 a b hux]
          congr 1
        · simp [hk] at h
      · cases h
    | bool =>
      simp only at h
      rcases hx with ⟨ha, _⟩ | ⟨_, l, rfl, hx⟩
      · cases ha
      rcases hy with ⟨ha, _⟩ | ⟨_, l2, rfl, hy⟩
      · cases ha
      simp only at h
      split at h
      · rename_i p q hp hq
        cases h
        rw [hx.2.bool hp, hy.2.bool hq, run_equalIn_bool' w' D t p q hux]
      · cases h
    | string =>
      simp only at h
      rcases hx with ⟨ha, _⟩ | ⟨_, l, rfl, hx⟩
      · cases ha
      rcases hy with ⟨ha, _⟩ | ⟨_, l2, rfl, hy⟩
      · cases ha
      split at h
      · rename_i a b e1 e2
        cases e1; cases e2
        cases h
        have h1 : x = .string a := by have := hx.2; simpa [LR, CR] using this
        have h2 : y = .string b := by have := hy.2; simpa [LR, CR] using this
        subst h1; subst h2
        rw [run_equalIn_string w' D t a b hux]
      · cases h
    | struct fs =>
      simp only at h
      rcases hx with ⟨_, vx, rfl, hx⟩ | ⟨ha, _⟩
      · rcases hy with ⟨_, vy, rfl, hy⟩ | ⟨ha, _⟩
        · cases hst : P.stoodInHeld t with
          | true => rw [hst] at h; cases h
          | false =>
            rw [hst] at h
            simp only [cond_false] at h
            have hfo : P.fieldsOf t = fs := by simp [Program.fieldsOf, hux]
            rw [run_equalIn_struct w' D t vx vy (by rw [hfo]; exact hux) hst, hfo]
            generalize fs.toList = l at h
            clear hfo hux
            induction l generalizing r with
            | nil =>
              simp only [List.map_nil, andO, Option.some.injEq] at h
              subst h
              rfl
            | cons f l ih =>
              rw [List.map_cons] at h
              obtain ⟨p, q, hp, hq, rfl⟩ := andO_cons h
              have ih' := ih _ hq
              simp only [Op.eqFields]
              by_cases hname : f.name = "_"
              · simp only [hname, decide_true, cond_true, Option.some.injEq] at hp
                subst hp
                simp only [hname, ne_eq, not_true_eq_false, if_false, Bool.true_and]
                exact ih'
              · simp only [hname, decide_false, cond_false] at hp
                simp only [ne_eq, hname, not_false_eq_true, if_true]
                split at hp
                · rename_i n hn
                  by_cases hle : Nat.ble (f.offset + n) xs.length && Nat.ble (f.offset + n) ys.length
                  · simp only [hle, cond_true] at hp
                    simp only [Bool.and_eq_true, Nat.ble_eq] at hle
                    cases d with
                    | zero => cases hp
                    | succ d =>
                      cases hu2 : P.underlying f.type with
                      | none => simp [eqT, hu2] at hp
                      | some D2 =>
                        have h1 : ∀ D3, P.underlying f.type = some D3 → aggD D3 = false → n = 1 := fun D3 h3 h4 => by
                          have := eqT_leaf h3 h4 hp
                          simp at this
                          omega
                        obtain ⟨v1, hv1, hr1⟩ := run_partV (cs := vx) (by rw [hu2]; rfl) h1 hn hle.1 hx
                        obtain ⟨v2, hv2, hr2⟩ := run_partV (cs := vy) (by rw [hu2]; rfl) h1 hn hle.2 hy
                        have he := eqT_sound (d + 1) D (by omega) hp hv1 hv2 w'
                        simp only [Sem.run_bind, hr1 w', hr2 w', he, Result.andThen_ok]
                        cases p
                        · simp
                        · simpa using ih'
                  · simp [hle] at hp
                · cases hp
        · cases ha
      · cases ha
    | _ => cases h

end
end Go.AI
