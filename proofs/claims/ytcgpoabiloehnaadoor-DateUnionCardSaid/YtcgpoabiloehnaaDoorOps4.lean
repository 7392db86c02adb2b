/-
  What the operations do: elements, parts of strings and lists; all that read.
-/
import Derived.Test.YtcgpoabiloehnaaDoorOps3
set_option linter.unusedVariables false
set_option linter.unusedSimpArgs false
namespace Go.AI
open Go

section
variable {P : Program} {E : Env} {pl : Pl} {st : St} {a : Act} {w : World} {objs : Objs} {ok : Nat → Prop}

theorem indexAddrOp_sound {R : Type} {K : C → Option R} {r : R} (h : Rel E pl st a w) {t : TypeId} {x : C} {y : Value} {i : Int} {k0 : IntKind} (hx : CRel pl st.objs w (E.ok pl st.objs w) x y) (hc : indexAddrOp P t st x i K = some r) :
    ∃ c v, K c = some r ∧ CRel pl st.objs w (E.ok pl st.objs w) c v ∧ Sure P (Instr.indexAt t y (.int k0 i)) v := by
  unfold indexAddrOp at hc
  split at hc
  · rename_i s xs
    split at hc
    · rename_i e he
      by_cases hsz : sizeT P e = some s.n
      · simp only [hsz, decide_true, cond_true] at hc
        obtain ⟨⟨h0, hi⟩, hc⟩ := guardC_some hc
        obtain ⟨ad, cap, hy, hlc, hrow⟩ := (LR.one' hx (by simp)).2
        cases hy
        obtain ⟨b, off, rfl, hok, hr⟩ := hrow (by omega)
        refine ⟨_, .pointer (some ⟨b, off + i.toNat * s.n, none⟩), hc, .inr ⟨rfl, b, off, _, ⟨h0, hi, rfl⟩, ⟨hok, hr⟩, by simp⟩, fun w' => ?_⟩
        simp [Instr.indexAt, asIntOf, run_underlying (elemT_some he), h0, hi, run_size hsz, Addr.add_lit]
      · simp [hsz] at hc
    · cases hc
  · rename_i k
    split at hc
    · rename_i e s xs he hlk
      by_cases hsz : sizeT P e = some s.n
      · simp only [hsz, decide_true, cond_true] at hc
        obtain ⟨⟨h0, hi⟩, hc⟩ := guardC_some hc
        obtain ⟨_, h1⟩ := h.heap.slice hlk (LR.one' hx (by simp)).2
        rcases h1 with ⟨_, ⟨ad, rfl⟩, rfl⟩ | ⟨b, cap, cur, ee, hb, rfl, _⟩
        · simp at hi; omega
        · refine ⟨_, .pointer (some ⟨b, i.toNat * s.n, none⟩), hc, .inr ⟨rfl, fun s2 xs2 h2 => ?_⟩, fun w' => ?_⟩
          · rw [hlk] at h2; cases h2
            exact ⟨b, _, hb, ⟨h0, hi, by simp⟩, rfl⟩
          · simp [Instr.indexAt, asIntOf, run_underlying (elemT_some he), h0, hi, run_size hsz, Addr.add_lit]
      · simp [hsz] at hc
    · cases hc
  · rename_i k off
    split at hc
    · rename_i n e ha
      split at hc
      · rename_i sz hsz
        by_cases hn : 2 ≤ n
        · simp only [hn, decide_true, cond_true] at hc
          obtain ⟨⟨h0, hi⟩, hc⟩ := guardC_some hc
          obtain ⟨b, hb, rfl⟩ := (LR.one' hx (by simp)).2
          refine ⟨_, .pointer (some ⟨b, off + i.toNat * sz, none⟩), hc, .inr ⟨rfl, b, hb, rfl⟩, fun w' => ?_⟩
          simp [Instr.indexAt, asIntOf, run_underlying (arrT_some ha), h0, hi, run_size hsz, Addr.add_lit, Instr.sureAddr]
        · simp [hn] at hc
      · cases hc
    · cases hc
  · cases hc

theorem mapM'_get {A B : Type} {f : A → Option B} : ∀ {l : List A} {m : List B}, mapM' f l = some m → ∀ (i : Nat) (b : B), m[i]? = some b → ∃ a, l[i]? = some a ∧ f a = some b
  | [], m, h, i, b, hb => by cases h; simp at hb
  | a :: r, m, h, i, b, hb => by
    simp only [mapM'] at h
    split at h
    · rename_i b' bs h1 h2
      cases h
      cases i with
      | zero => simp at hb; subst hb; exact ⟨a, rfl, h1⟩
      | succ i => exact mapM'_get h2 i b hb
    · cases h

theorem indexOp_sound {R : Type} {K : C → Option R} {r : R} (h : Rel E pl st a w) {t : TypeId} {x : C} {y : Value} {i : Int} {k0 : IntKind} (hx : CRel pl st.objs w (E.ok pl st.objs w) x y) (hc : indexOp P t st x i K = some r) :
    ∃ c v, K c = some r ∧ CRel pl st.objs w (E.ok pl st.objs w) c v ∧ Sure P (Instr.index t y (.int k0 i)) v := by
  unfold indexOp at hc
  split at hc
  · rename_i s
    cases ht : isStrT P t with
    | false => rw [ht] at hc; cases hc
    | true =>
      rw [ht] at hc
      obtain ⟨⟨h0, hi⟩, hc⟩ := guardC_some hc
      obtain ⟨b, hb, hc⟩ := bytC_some hc
      have hs : (s : ByteArray)[i.toNat]? = some b := by
        obtain ⟨hlt, hb'⟩ := List.getElem?_eq_some_iff.1 hb
        have hlt' : i.toNat < ByteArray.size s := by simpa using hlt
        rw [getElem?_pos (c := (s : ByteArray)) (i := i.toNat) (h := hlt'), ← hb']
        rfl
      refine ⟨_, .int .u8 b.toNat, hc, crel_int _ _, fun w' => ?_⟩
      rw [CRel.str hx]
      simp [Instr.index, asIntOf, run_underlying (isStrT_some ht), h0, hs]
  · rename_i ls
    split at hc
    · rename_i n e ha
      split at hc
      · rename_i sz s hsz hsh
        split at hc
        · rename_i xs hxs
          by_cases hcond : (decide (s.n = sz) && Nat.beq ls.length (n * sz) && !s.hasSl) = true
          · rw [hcond] at hc
            simp only [Bool.and_eq_true, decide_eq_true_eq, Bool.not_eq_true'] at hcond
            obtain ⟨⟨hsn, hlen⟩, hns⟩ := hcond
            have hlen := Nat.eq_of_beq_eq_true hlen
            obtain ⟨⟨h0, hi⟩, hc⟩ := guardC_some hc
            obtain ⟨z, hz, hc⟩ := eltC_some hc
            split at hc
            · rename_i c hw
              obtain ⟨vs, rfl, hv⟩ := hx
              obtain ⟨j, hj, hof⟩ := mapM'_get hxs i.toNat z hz
              have hjn : i.toNat < n := by omega
              have : j = i.toNat := by
                rw [List.getElem?_range hjn] at hj
                exact (Option.some.inj hj).symm
              subst this
              have hseg := (hv.drop (i.toNat * sz)).take sz
              have hcr := CR.noSl (w' := w) (ok' := E.ok pl st.objs w) hns (ofL_sound h.heap s hof hseg)
              have hall := toL_sound (pl := pl) (objs := st.objs) hcr
              have hle : i.toNat * sz + sz ≤ ls.length := by
                rw [hlen]
                calc i.toNat * sz + sz = (i.toNat + 1) * sz := by rw [Nat.add_mul, Nat.one_mul]
                  _ ≤ n * sz := Nat.mul_le_mul_right _ hjn
              obtain ⟨d, hu, hwd⟩ := wrapT_some hw
              have hvl : vs.toList.length = ls.length := hv.length.symm
              rcases hwd with ⟨hag, rfl⟩ | ⟨hag, l, hl, rfl⟩
              · refine ⟨_, .agg (vs.extract (i.toNat * sz) (i.toNat * sz + sz)), hc, ⟨_, rfl, ?_⟩, fun w' => ?_⟩
                · have : (vs.extract (i.toNat * sz) (i.toNat * sz + sz)).toList = (vs.toList.drop (i.toNat * sz)).take sz := by
                    simp [Array.toList_extract, List.extract]
                  rw [this]; exact hall
                · simp [Instr.index, asIntOf, run_underlying (arrT_some ha), h0, hi, run_size hsz, part, run_isAgg hu, hag]
              · rw [hl] at hall
                obtain ⟨v, hv1, hlv⟩ := hall.oneL
                refine ⟨_, v, hc, .inr hlv, fun w' => ?_⟩
                have hget : vs[i.toNat * sz]? = some v := by
                  have h1 : ((vs.toList.drop (i.toNat * sz)).take sz)[0]? = some v := by rw [hv1]; rfl
                  rw [take_drop_get] at h1
                  split at h1
                  · simpa using h1
                  · cases h1
                simp [Instr.index, asIntOf, run_underlying (arrT_some ha), h0, hi, run_size hsz, part, run_isAgg hu, hag, hget]
            · cases hc
          · simp only [Bool.not_eq_true] at hcond
            rw [hcond] at hc; cases hc
        · cases hc
      · cases hc
    · cases hc
  · cases hc

theorem optInt_some {x : Option Operand} {n : Option Int} (h : Rel E pl st a w) (hx : optInt st.α x = some n) : (x = none ∧ n = none) ∨ ∃ o k m, x = some o ∧ n = some m ∧ a.eval o = .int k m := by
  unfold optInt at hx
  split at hx
  · cases hx; exact .inl ⟨rfl, rfl⟩
  · rename_i o
    obtain ⟨m, hm, rfl⟩ := Option.map_eq_some_iff.1 hx
    obtain ⟨k, hk⟩ := intOf_some hm
    have := h.eval o
    rw [hk] at this
    exact .inr ⟨o, k, m, rfl, rfl, CRel.int this⟩

theorem run_bounds {lo hi : Option Operand} {l u : Option Int} (h : Rel E pl st a w) (hl : optInt st.α lo = some l) (hu : optInt st.α hi = some u) (isS : Bool) {len cap : Nat} (hlc : len ≤ cap)
    (h0 : 0 ≤ l.getD 0) (h1 : l.getD 0 ≤ u.getD len) (h2 : u.getD len ≤ len) (w' : World) :
    (Instr.sliceBounds isS len cap (lo.map a.eval) (hi.map a.eval) none).run P w' = .ok ((l.getD 0).toNat, (u.getD len).toNat, cap) w' := by
  rcases optInt_some h hl with ⟨rfl, rfl⟩ | ⟨o, k, m, rfl, rfl, he⟩
  · rcases optInt_some h hu with ⟨rfl, rfl⟩ | ⟨o2, k2, m2, rfl, rfl, he2⟩
    · simp [Instr.sliceBounds]
    · simp only [Option.getD_some, Option.getD_none] at *
      have hb : 0 ≤ m2 ∧ m2 ≤ (cap : Int) := by omega
      simp [Instr.sliceBounds, Instr.sliceBound, he2, asIntOf, hb]
  · rcases optInt_some h hu with ⟨rfl, rfl⟩ | ⟨o2, k2, m2, rfl, rfl, he2⟩
    · simp only [Option.getD_some, Option.getD_none] at *
      have hb : 0 ≤ m ∧ m ≤ (len : Int) := by omega
      simp [Instr.sliceBounds, Instr.sliceBound, he, asIntOf, hb]
    · simp only [Option.getD_some, Option.getD_none] at *
      have hb : 0 ≤ m2 ∧ m2 ≤ (cap : Int) := by omega
      have hb2 : 0 ≤ m ∧ m ≤ m2 := by omega
      have hb3 : m ≤ max m2 0 := by omega
      simp [Instr.sliceBounds, Instr.sliceBound, he, he2, asIntOf, hb, hb2, hb3]

theorem slice_take_drop {A : Type} (l : List A) (n m i : Nat) : ((l.take m).drop n)[i]? = if n + i < m then l[n + i]? else none := by
  rw [List.getElem?_drop, List.getElem?_take]

/-- a part of a list in memory -/
theorem CR.part {s : Sh} {xs : List (Val s)} {y : Value} (h : CR w ok (.slice s) xs [y]) {lo hi : Nat} (h1 : lo ≤ hi) (h2 : hi ≤ xs.length) :
    ∃ ad cap, y = .slice ad xs.length cap ∧ xs.length ≤ cap ∧ CR w ok (.slice s) ((xs.take hi).drop lo) [.slice (if cap = lo then ad else ad.map (·.add (lo * s.n))) (hi - lo) (cap - lo)] := by
  obtain ⟨ad, cap, hy, hlc, hr⟩ := h
  cases hy
  refine ⟨ad, cap, rfl, hlc, (if cap = lo then ad else ad.map (·.add (lo * s.n))), cap - lo, ?_, ?_, fun hpos => ?_⟩
  · have : ((xs.take hi).drop lo).length = hi - lo := by simp; omega
    rw [this]
  · simp; omega
  · simp only [List.length_drop, List.length_take] at hpos
    obtain ⟨b, off, rfl, hok, hrow⟩ := hr (by omega)
    have hne : cap ≠ lo := by omega
    refine ⟨b, off + lo * s.n, by simp [hne, Addr.add_lit], hok, fun i hi' => ?_⟩
    simp only [List.length_drop, List.length_take] at hi'
    obtain ⟨c, hc, hj⟩ := hrow (lo + i) (by omega)
    refine ⟨c, by simpa using hc, fun j hjl => ?_⟩
    rw [← hj j hjl]
    congr 2
    rw [Nat.add_mul]
    omega

theorem run_slice {lo hi : Option Operand} {l u : Option Int} (h : Rel E pl st a w) (hl : optInt st.α lo = some l) (hu : optInt st.α hi = some u) {t e : TypeId} {n : Nat} (ht : P.underlying t = some (.slice e)) (hn : sizeT P e = some n)
    {ad : Option Addr} {len cap : Nat} (hlc : len ≤ cap) (h0 : 0 ≤ l.getD 0) (h1 : l.getD 0 ≤ u.getD len) (h2 : u.getD len ≤ len) (w' : World) :
    (Instr.sliceAt t (.slice ad len cap) (lo.map a.eval) (hi.map a.eval) none).run P w' =
      .ok (.slice (if cap = (l.getD 0).toNat then ad else ad.map (·.add ((l.getD 0).toNat * n))) ((u.getD len).toNat - (l.getD 0).toNat) (cap - (l.getD 0).toNat)) w' := by
  simp [Instr.sliceAt, run_underlying ht, Instr.slice, run_bounds h hl hu true hlc h0 h1 h2 w', run_size hn]

theorem run_sliceStr {lo hi : Option Operand} {l u : Option Int} (h : Rel E pl st a w) (hl : optInt st.α lo = some l) (hu : optInt st.α hi = some u) {t : TypeId} (ht : P.underlying t = some .string) {s : ByteArray}
    (h0 : 0 ≤ l.getD 0) (h1 : l.getD 0 ≤ u.getD (s.size : Int)) (h2 : u.getD (s.size : Int) ≤ (s.size : Int)) (w' : World) :
    (Instr.sliceAt t (.string s) (lo.map a.eval) (hi.map a.eval) none).run P w' = .ok (.string (s.extract (l.getD 0).toNat (u.getD (s.size : Int)).toNat)) w' := by
  simp [Instr.sliceAt, run_underlying ht, Instr.slice, run_bounds h hl hu false (Nat.le_refl _) h0 h1 h2 w']

theorem agreeC_some {R : Type} {x y : Option R} {r : R} (h : agreeC x y = some r) : x = some r ∧ y = some r := by
  unfold agreeC at h
  split at h
  · split at h
    · rename_i e
      cases h
      subst e
      exact ⟨rfl, rfl⟩
    · cases h
  · cases h

theorem nilC_sound {R : Type} {K : C → Option R} {r : R} (h : Rel E pl st a w) {neg : Bool} {l : L} {y : Value} (hl : CRel pl st.objs w (E.ok pl st.objs w) (.one l) y) (hc : nilC st.objs neg l K = some r) :
    ∃ ad len cap, y = .slice ad len cap ∧ ∃ b : Bool, b = (ad.isNone != neg) ∧ K (.one (bif b then .tt else .ff)) = some r := by
  have two : ∀ {ad : Option Addr} {xs : Bool}, (xs = false → ad.isNone = false) → brC xs (agreeC (K (.one (bif neg then .ff else .tt))) (K (.one (bif neg then .tt else .ff)))) (K (.one (bif neg then .tt else .ff))) = some r →
      ∃ b : Bool, b = (ad.isNone != neg) ∧ K (.one (bif b then .tt else .ff)) = some r := by
    intro ad xs hx hb
    rcases brC_some hb with ⟨h1, h2⟩ | ⟨h1, h2⟩
    · obtain ⟨h3, h4⟩ := agreeC_some h2
      cases hn : ad.isNone with
      | true => exact ⟨_, rfl, by cases neg <;> exact h3⟩
      | false => exact ⟨_, rfl, by cases neg <;> exact h4⟩
    · rw [hx h1]
      exact ⟨_, rfl, by cases neg <;> exact h2⟩
  unfold nilC at hc
  split at hc
  · have := (LR.one' hl (by simp)).2
    exact ⟨none, 0, 0, this, _, rfl, by cases neg <;> exact hc⟩
  · rename_i s xs
    obtain ⟨ad, cap, h1, h2, h3⟩ := (LR.one' hl (by simp)).2
    simp only [List.cons.injEq, and_true] at h1
    refine ⟨ad, _, cap, h1, two (fun he => ?_) hc⟩
    have hp : 0 < List.length xs := by
      cases xs with
      | nil => cases he
      | cons _ _ => simp
    obtain ⟨b, off, rfl, _⟩ := h3 hp
    rfl
  · rename_i k
    split at hc
    · rename_i s xs hlk
      obtain ⟨_, h1⟩ := h.heap.slice hlk (LR.one' hl (by simp)).2
      rcases h1 with ⟨_, ⟨ad, rfl⟩, rfl⟩ | ⟨b, cap, cur, e2, hb, rfl, _⟩
      · exact ⟨ad, 0, 0, rfl, two (fun he => by cases he) hc⟩
      · exact ⟨_, _, _, rfl, two (fun _ => rfl) hc⟩
    · cases hc
  · cases hc

theorem eqGuard_slice (op : BinOp) (t : TypeId) (x y : Operand) (a b : Option Addr) (l c m d : Nat) : eqGuard op t x y (.slice a l c) (.slice b m d) = pure () := by
  unfold eqGuard
  cases op <;> rfl
theorem run_equal_nil {t e : TypeId} (ht : P.underlying t = some (.slice e)) (ad : Option Addr) (len cap : Nat) (w' : World) :
    (Op.equal t (.slice ad len cap) (.slice none 0 0)).run P w' = .ok ad.isNone w' := by
  unfold Op.equal
  rw [show Op.maxDepth = (Op.maxDepth - 1) + 1 from rfl]
  generalize Op.maxDepth - 1 = d
  rw [Op.equalIn, Sem.run_bind, run_underlying ht]
  cases ad <;> rfl
theorem run_nilEq {op : BinOp} (hop : op = .eql ∨ op = .neq) {t e : TypeId} (ht : P.underlying t = some (.slice e)) (x y : Operand) (ad : Option Addr) (len cap : Nat) (w' : World) :
    (do eqGuard op t x y (.slice ad len cap) (.slice none 0 0); binOp op t (.slice ad len cap) (.slice none 0 0) : Sem Value).run P w' = .ok (.bool (ad.isNone != (op == .neq))) w' := by
  rw [eqGuard_slice]
  rcases hop with rfl | rfl
  · show (do pure (Value.bool (← Op.equal t (.slice ad len cap) (.slice none 0 0))) : Sem Value).run P w' = _
    rw [Sem.run_bind, run_equal_nil ht]
    cases ad <;> rfl
  · show (do pure (Value.bool (!(← Op.equal t (.slice ad len cap) (.slice none 0 0)))) : Sem Value).run P w' = _
    rw [Sem.run_bind, run_equal_nil ht]
    cases ad <;> rfl

/-- operations that read -/
theorem readOp_sound {R : Type} {K : C → Option R} {r : R} (h : Rel E pl st a w) {o : Oper} (hc : readOp P st K o.op = some r) :
    ∃ c v, K c = some r ∧ CRel pl st.objs w (E.ok pl st.objs w) c v ∧ ∀ w', (isLoad o.op = true → Grown w w') → (execOp a.eval o).run P w' = .ok (.value v) w' := by
  have pure' : ∀ {op : Op}, o.op = op → (match pureOp P st op with | some c => K c | none => none) = some r →
      ∃ c v, K c = some r ∧ CRel pl st.objs w (E.ok pl st.objs w) c v ∧ ∀ w', (isLoad o.op = true → Grown w w') → (execOp a.eval o).run P w' = .ok (.value v) w' := by
    intro op he hp
    split at hp
    · rename_i c hcc
      rw [← he] at hcc
      obtain ⟨v, hv, hr⟩ := pureOp_sound (P := P) h hcc
      exact ⟨c, v, hp, hv, fun w' _ => hr w'⟩
    · cases hp
  obtain ⟨dst, op, type, pos, after, guard⟩ := o
  simp only at hc pure'
  have fin : ∀ {s : Sem Value} {v : Value} {w' : World}, s.run P w' = .ok v w' → (do pure (Next.value (← s)) : Sem Next).run P w' = .ok (.value v) w' := fun hs => by
    rw [Sem.run_bind, hs]; rfl
  unfold readOp at hc
  split at hc
  · -- pick
    rename_i c x y
    have hcv := h.eval c
    split at hc
    · rename_i he
      rw [he] at hcv
      exact ⟨_, _, hc, h.eval x, fun w' _ => by simp [execOp, CRel.bool hcv rfl, asBool]⟩
    · rename_i he
      rw [he] at hcv
      exact ⟨_, _, hc, h.eval y, fun w' _ => by simp [execOp, CRel.bool hcv rfl, asBool]⟩
    · rename_i b he
      rw [he] at hcv
      rcases brC_some hc with ⟨hb, hk⟩ | ⟨hb, hk⟩
      · exact ⟨_, _, hk, h.eval x, fun w' _ => by simp [execOp, CRel.bool hcv rfl, asBool, show b = true from hb]⟩
      · exact ⟨_, _, hk, h.eval y, fun w' _ => by simp [execOp, CRel.bool hcv rfl, asBool, show b = false from hb]⟩
    · cases hc
  · -- load
    rename_i t x
    have hx := h.eval x
    split at hc
    · rename_i l he
      rw [he] at hx
      obtain ⟨c, v, h1, h2, h3⟩ := loadOp_sound (P := P) h hx hc
      exact ⟨c, v, h1, h2, fun w' hg => by simp only [execOp]; exact fin (h3 w' (hg rfl))⟩
    · cases hc
  · -- indexAddr
    rename_i t x i
    have hi := h.eval i
    split at hc
    · rename_i n hn
      obtain ⟨k, hk⟩ := intOf_some hn
      rw [hk] at hi
      obtain ⟨c, v, h1, h2, h3⟩ := indexAddrOp_sound (P := P) (k0 := k) h (h.eval x) hc
      exact ⟨c, v, h1, h2, fun w' hg => by simp only [execOp, CRel.int hi]; exact fin (h3 w')⟩
    · cases hc
  · -- index
    rename_i t x i
    have hi := h.eval i
    split at hc
    · rename_i n hn
      obtain ⟨k, hk⟩ := intOf_some hn
      rw [hk] at hi
      obtain ⟨c, v, h1, h2, h3⟩ := indexOp_sound (P := P) (k0 := k) h (h.eval x) hc
      exact ⟨c, v, h1, h2, fun w' hg => by simp only [execOp, CRel.int hi]; exact fin (h3 w')⟩
    · cases hc
  · -- quo
    rename_i t x y z
    have hx := h.eval x
    have hy := h.eval y
    split at hc
    · rename_i k m k' n e1 e2
      rw [e1] at hx
      rw [e2] at hy
      by_cases hk : k = k'
      · subst hk
        simp only [decide_true, cond_true] at hc
        obtain ⟨hne, hc⟩ := guardC_some hc
        refine ⟨_, _, hc, crel_int _ _, fun w' _ => ?_⟩
        simp only [execOp, CRel.int hx, CRel.int hy]
        apply fin
        rw [eqGuard_at_int]
        have hne' : (n : Int) ≠ 0 := hne
        simp [binOp, Op.intDiv, hne']
      · simp [hk] at hc
    · cases hc
  · -- rem
    rename_i t x y z
    have hx := h.eval x
    have hy := h.eval y
    split at hc
    · rename_i k m k' n e1 e2
      rw [e1] at hx
      rw [e2] at hy
      by_cases hk : k = k'
      · subst hk
        simp only [decide_true, cond_true] at hc
        obtain ⟨hne, hc⟩ := guardC_some hc
        refine ⟨_, _, hc, crel_int _ _, fun w' _ => ?_⟩
        simp only [execOp, CRel.int hx, CRel.int hy]
        apply fin
        rw [eqGuard_at_int]
        have hne' : (n : Int) ≠ 0 := hne
        simp [binOp, Op.intDiv, hne']
      · simp [hk] at hc
    · cases hc
  · -- eql
    rename_i t x y z
    split at hc
    · rename_i l e1 e2
      have hx := h.eval x
      have hy := h.eval y
      rw [e1] at hx
      rw [e2] at hy
      cases he : (elemT P t).isSome with
      | false => rw [he] at hc; cases hc
      | true =>
        rw [he] at hc
        obtain ⟨e, he⟩ := Option.isSome_iff_exists.1 he
        obtain ⟨ad, len, cap, hv, b, hb, hk⟩ := nilC_sound h hx hc
        refine ⟨_, .bool b, hk, by cases b <;> exact .inr ⟨rfl, rfl⟩, fun w' _ => ?_⟩
        simp only [execOp, hv, show a.eval y = _ from (LR.one' hy (by simp)).2]
        apply fin
        rw [run_nilEq (.inl rfl) (elemT_some he), hb]
        rfl
    · exact pure' rfl hc
  · -- neq
    rename_i t x y z
    split at hc
    · rename_i l e1 e2
      have hx := h.eval x
      have hy := h.eval y
      rw [e1] at hx
      rw [e2] at hy
      cases he : (elemT P t).isSome with
      | false => rw [he] at hc; cases hc
      | true =>
        rw [he] at hc
        obtain ⟨e, he⟩ := Option.isSome_iff_exists.1 he
        obtain ⟨ad, len, cap, hv, b, hb, hk⟩ := nilC_sound h hx hc
        refine ⟨_, .bool b, hk, by cases b <;> exact .inr ⟨rfl, rfl⟩, fun w' _ => ?_⟩
        simp only [execOp, hv, show a.eval y = _ from (LR.one' hy (by simp)).2]
        apply fin
        rw [run_nilEq (.inr rfl) (elemT_some he), hb]
        rfl
    · exact pure' rfl hc
  · -- add
    rename_i t x y z
    split at hc
    · rename_i s u e1 e2
      have hx := h.eval x
      have hy := h.eval y
      rw [e1] at hx
      rw [e2] at hy
      obtain ⟨hle, hc⟩ := guardC_some hc
      refine ⟨_, _, hc, crel_str _, fun w' _ => ?_⟩
      simp only [execOp, CRel.str hx, CRel.str hy]
      apply fin
      rw [eqGuard_at_string]
      have hle' : ¬ (IntKind.i64.max < (ByteArray.size s : Int) + (ByteArray.size u : Int)) := by simp only [IntKind.max_i64]; omega
      have e : ((ByteArray.size s + ByteArray.size u : Nat) : Int) = (ByteArray.size s : Int) + (ByteArray.size u : Int) := by omega
      simp only [Sem.run_bind, Sem.run_pure, Result.andThen_ok, binOp, Op.stringOp, e, gt_iff_lt, if_neg hle']
      rfl
    · exact pure' rfl hc
  · -- slice
    rename_i t x lo hi
    have hx := h.eval x
    split at hc
    · rename_i s l u e1 e2 e3
      rw [e1] at hx
      cases ht : isStrT P t with
      | false => rw [ht] at hc; cases hc
      | true =>
        rw [ht] at hc
        obtain ⟨⟨g1, g2, g3⟩, hc⟩ := guardC_some hc
        refine ⟨_, _, hc, crel_str _, fun w' _ => ?_⟩
        simp only [execOp, CRel.str hx]
        exact fin (run_sliceStr h e2 e3 (isStrT_some ht) g1 g2 g3 w')
    · rename_i s xs l u e1 e2 e3
      rw [e1] at hx
      split at hc
      · rename_i e he
        by_cases hsz : sizeT P e = some s.n
        · simp only [hsz, decide_true, cond_true] at hc
          obtain ⟨⟨g1, g2, g3⟩, hc⟩ := guardC_some hc
          have hcr : CR w (E.ok pl st.objs w) (.slice s) xs [a.eval x] := (LR.one' hx (by simp)).2
          obtain ⟨ad, cap, hy, hlc, hpart⟩ := hcr.part (lo := (l.getD 0).toNat) (hi := (u.getD (List.length xs : Int)).toNat) (by omega) (by omega)
          refine ⟨_, _, hc, .inr ⟨rfl, hpart⟩, fun w' _ => ?_⟩
          simp only [execOp, hy]
          exact fin (run_slice h e2 e3 (elemT_some he) hsz hlc g1 g2 g3 w')
        · simp [hsz] at hc
      · cases hc
    · cases hc
  · exact pure' rfl hc

end
end Go.AI
