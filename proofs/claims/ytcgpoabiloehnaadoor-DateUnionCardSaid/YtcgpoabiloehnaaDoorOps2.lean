/-
  What the operations do: those that read.
-/
import Derived.Test.YtcgpoabiloehnaaDoorOps1
set_option linter.unusedVariables false
set_option linter.unusedSimpArgs false
namespace Go.AI
open Go

section
variable {P : Program} {E : Env} {pl : Pl} {st : St} {a : Act} {w : World} {objs : Objs} {ok : Nat → Prop}

theorem mapM'_all2 {A B C : Type} {f : A → Option B} {R : A → C → Prop} {S : B → C → Prop} (hf : ∀ a b c, f a = some b → R a c → S b c) : ∀ {as : List A} {bs : List B} {cs : List C},
    mapM' f as = some bs → All2 R as cs → All2 S bs cs
  | [], _, [], h, _ => by cases h; exact trivial
  | [], _, _ :: _, _, h => by cases h
  | _ :: _, _, [], _, h => by cases h
  | a :: as, bs, c :: cs, h, h' => by
    simp only [mapM'] at h
    split at h
    · rename_i b bs' h1 h2
      cases h
      exact ⟨hf a b c h1 h'.1, mapM'_all2 hf h2 h'.2⟩
    · cases h

theorem Rel.evals (h : Rel E pl st a w) (xs : List Operand) : All2 (CRel pl st.objs w (E.ok pl st.objs w)) (xs.map (evalO st.α)) (xs.map a.eval) := by
  induction xs with
  | nil => exact trivial
  | cons x r ih => exact ⟨h.eval x, ih⟩

theorem minmax_fold (mx : Bool) (f : Value → Value → Sem Value) (g : Int → Int → Int) (hf : ∀ x y w, (f (.int .i64 x) (.int .i64 y)).run P w = .ok (.int .i64 (g x y)) w) :
    ∀ (l : List Int) (x : Int) (w : World), ((l.map (Value.int .i64)).foldlM f (.int .i64 x)).run P w = .ok (.int .i64 (l.foldl g x)) w
  | [], x, w => by simp
  | y :: r, x, w => by
    simp only [List.map_cons, List.foldlM_cons, Sem.run_bind, hf, Result.andThen_ok, List.foldl_cons]
    exact minmax_fold mx f g hf r (g x y) w

theorem ints_of {cs : List C} {ns : List Int} (h : mapM' int64Of cs = some ns) : ∀ {vs : List Value}, All2 (CRel pl objs w ok) cs vs → vs = ns.map (Value.int .i64) := by
  induction cs generalizing ns with
  | nil => intro vs hv; cases h; rw [hv.nilL]; rfl
  | cons c r ih =>
    intro vs hv
    simp only [mapM'] at h
    split at h
    · rename_i n ms h1 h2
      cases h
      cases vs with
      | nil => cases hv
      | cons v vs =>
        have hc := int64Of_some h1
        subst hc
        rw [List.map_cons, CRel.int hv.1, ih h2 hv.2]
    · cases h

theorem elemT_some {t e : TypeId} (h : elemT P t = some e) : P.underlying t = some (.slice e) := by
  unfold elemT at h
  split at h
  · cases h; assumption
  · cases h
theorem isStrT_some {t : TypeId} (h : isStrT P t = true) : P.underlying t = some .string := by
  unfold isStrT at h
  split at h
  · assumption
  · cases h
theorem arrT_some {t e : TypeId} {n : Nat} (h : arrT P t = some (n, e)) : P.underlying t = some (.array n e) := by
  unfold arrT at h
  split at h
  · cases h; assumption
  · cases h
theorem fieldOff_some {s : TypeId} {i o : Nat} (h : fieldOff P s i = some o) : ∃ fs f, P.underlying s = some (.struct fs) ∧ fs[i]? = some f ∧ f.offset = o := by
  unfold fieldOff at h
  split at h
  · rename_i fs hu
    obtain ⟨f, hf, rfl⟩ := Option.map_eq_some_iff.1 h
    exact ⟨fs, f, hu, hf, rfl⟩
  · cases h
theorem fieldAt_some {s : TypeId} {i o : Nat} (h : fieldAt P s i = some o) : ∃ fs f n, P.underlying s = some (.struct fs) ∧ fs[i]? = some f ∧ f.offset = o ∧ sizeT P f.type = some n ∧ 0 < n := by
  unfold fieldAt at h
  split at h
  · rename_i o' n h1 h2
    obtain ⟨fs, f, hu, hf, rfl⟩ := fieldOff_some h1
    have ht : fieldT P s i = some f.type := by simp [fieldT, hu, hf]
    rw [ht] at h2
    cases hn : Nat.blt 0 n with
    | false => rw [hn] at h; cases h
    | true =>
      rw [hn] at h
      cases h
      exact ⟨fs, f, n, hu, hf, rfl, h2, by simp [Nat.blt] at hn; omega⟩
  · cases h

theorem run_fieldAt {s : TypeId} {i o : Nat} (h : fieldAt P s i = some o) (b p : Nat) : Sure P (Instr.fieldAt s (.pointer (some ⟨b, p, none⟩)) i) (.pointer (some ⟨b, p + o, none⟩)) := by
  obtain ⟨fs, f, n, hu, hf, rfl, hs, hn⟩ := fieldAt_some h
  intro w
  have hn' : n ≠ 0 := by omega
  simp [Instr.fieldAt, run_underlying hu, hf, Instr.sureAddr, fieldPlace, run_size hs, hn', Addr.add_lit]

/-- a slice of the function's own: its value, and what lies behind it -/
theorem HeapR.slice (h : HeapR E pl objs w) {k : Key} {s : Sh} {xs : List (Val s)} {y : Value} (hlk : lookO objs k = some (.slice s xs)) (hl : LR pl objs w ok (.sl k) y) :
    0 < s.n ∧ ((pl.blk k = none ∧ (∃ ad, y = .slice ad 0 0) ∧ xs = []) ∨ ∃ b cap cur e, pl.blk k = some b ∧ y = .slice (some ⟨b, 0, none⟩) xs.length cap ∧ w.heap[b]? = some (.cells cur e (0, 0)) ∧
      cap ≤ maxLen ∧ xs.length ≤ cap ∧ cur.size = cap * s.n ∧ Rows w (E.ok pl objs w) s xs cur.toList) := by
  obtain ⟨hn, ho⟩ := h.obj k _ hlk
  refine ⟨hn, ?_⟩
  rcases hl s xs hlk with ⟨h0, h1⟩ | ⟨b, cap, cur, e, hb, hy, hw, hc⟩
  · rcases ho with ⟨_, h2⟩ | ⟨b, cur, e, cap, hb, _⟩
    · exact .inl ⟨h0, h1, h2⟩
    · rw [h0] at hb; cases hb
  · rcases ho with ⟨h0, _⟩ | ⟨b2, cur2, e2, cap2, hb2, hw2, hm, hlc, hc2, hr⟩
    · rw [h0] at hb; cases hb
    · rw [hb] at hb2; cases hb2
      rw [hw] at hw2; cases hw2
      have hcap : cap = cap2 := Nat.eq_of_mul_eq_mul_right hn (hc.symm.trans hc2)
      subst hcap
      exact .inr ⟨b, cap, cur, e, hb, hy, hw, hm, hlc, hc, hr⟩

theorem lenL_sound (h0 : HeapR E pl objs w) {t : TypeId} {l : L} {n : Int} {y : Value} (h : lenL P objs t l = some n) (hl : CRel pl objs w ok (.one l) y) (ty : TypeId) (ts : Array TypeId) (hts : ts[0]? = some t) : Sure P (Builtin.len_ ts ty #[y]) (.int .i64 n) := by
  intro w'
  have hs : ∀ a k c, (elemT P t).isSome = true → (Builtin.len_ ts ty #[.slice a k c]).run P w' = .ok (.int .i64 k) w' := fun a k c he => by
    obtain ⟨e, he⟩ := Option.isSome_iff_exists.1 he
    simp [Builtin.len_, hts, run_underlying (elemT_some he), goInt]
  unfold lenL at h
  split at h
  · rename_i s xs
    cases he : (elemT P t).isSome with
    | false => rw [he] at h; cases h
    | true =>
      rw [he] at h
      cases h
      have := (LR.one' hl (by simp)).2
      simp only [LR, CR] at this
      obtain ⟨a, cap, h1, _⟩ := this
      cases h1
      exact hs a _ cap he
  · rename_i s
    cases he : isStrT P t with
    | false => rw [he] at h; cases h
    | true =>
      rw [he] at h
      cases h
      rw [CRel.str hl]
      simp [Builtin.len_, hts, run_underlying (isStrT_some he), goInt]
  · cases he : (elemT P t).isSome with
    | false => rw [he] at h; cases h
    | true =>
      rw [he] at h
      cases h
      have := (LR.one' hl (by simp)).2
      simp only [LR] at this
      rw [this]
      exact hs none 0 0 he
  · rename_i k
    split at h
    · rename_i s xs hlk
      cases he : (elemT P t).isSome with
      | false => rw [he] at h; cases h
      | true =>
        rw [he] at h
        cases h
        obtain ⟨_, h2⟩ := h0.slice hlk (LR.one' hl (by simp)).2
        rcases h2 with ⟨_, ⟨ad, rfl⟩, rfl⟩ | ⟨b, cap, cur, e, _, rfl, _⟩
        · exact hs ad 0 0 he
        · exact hs _ _ _ he
    · cases h
  · cases h

theorem binOp'_sound {op : BinOp} {t : TypeId} {c d : C} {l : L} {x y : Value} (h : binOp' P op t c d = some l) (hc : CRel pl objs w ok c x) (hd : CRel pl objs w ok d y) (p q : Operand) :
    ∃ v, CRel pl objs w ok (.one l) v ∧ Sure P (do eqGuard op t p q x y; binOp op t x y) v := by
  unfold binOp' at h
  split at h
  · rename_i k m k' n
    by_cases e : k = k'
    · subst e
      simp only [decide_true, cond_true] at h
      rw [CRel.int hc, CRel.int hd]
      exact binOp_int h t p q
    · simp [e] at h
  · rw [CRel.str hc, CRel.str hd]
    exact binOp_str h t p q
  · split at h
    · rename_i b1 b2 h1 h2
      cases hb : isBoolT P t with
      | false => rw [hb] at h; cases h
      | true =>
        rw [hb] at h
        rw [CRel.bool hc h1, CRel.bool hd h2]
        exact binOp_bool (isBoolT_some hb) h p q
    · cases h
  · rename_i xs ys
    obtain ⟨vx, rfl, hx⟩ := hc
    obtain ⟨vy, rfl, hy⟩ := hd
    cases hst : isStructT P t with
    | false => rw [hst] at h; cases h
    | true =>
    cases hg : P.eqGuardType P.depth t with
    | true => rw [hst, hg] at h; cases h
    | false =>
      rw [hst, hg] at h
      simp only [Bool.not_false, Bool.and_true, cond_true] at h
      have hval : ∀ r, eqT P depthT t xs ys = some r → ∀ w', (Op.equalIn 10000 t (.agg vx) (.agg vy)).run P w' = .ok r w' := fun r hr => by
        have hd : ∃ d, P.underlying t = some d ∧ aggD d = true := by
          unfold isStructT at hst
          split at hst
          · exact ⟨_, by assumption, rfl⟩
          · cases hst
        obtain ⟨d, hu, ha⟩ := hd
        exact eqT_sound depthT 10000 (by decide) hr ⟨d, hu, .inl ⟨ha, vx, rfl, hx⟩⟩ ⟨d, hu, .inl ⟨ha, vy, rfl, hy⟩⟩
      split at h
      · rename_i r hr
        cases h
        refine ⟨_, crel_bool _, fun w' => ?_⟩
        rw [Sem.run_bind, run_eqGuard_agg w' _ t p q vx vy hg]
        simp only [Result.andThen_ok]
        rw [run_eql_struct, hval r hr w']
        rfl
      · rename_i r hr
        cases h
        refine ⟨_, crel_bool _, fun w' => ?_⟩
        rw [Sem.run_bind, run_eqGuard_agg w' _ t p q vx vy hg]
        simp only [Result.andThen_ok]
        rw [run_neq_struct, hval r hr w']
        rfl
      · cases h
  · cases h

/-- operations that read the operands alone -/
theorem pureOp_sound (h : Rel E pl st a w) {o : Oper} {c : C} (hc : pureOp P st o.op = some c) :
    ∃ v, CRel pl st.objs w (E.ok pl st.objs w) c v ∧ ∀ w', (execOp a.eval o).run P w' = .ok (.value v) w' := by
  obtain ⟨dst, op, type, pos, after, guard⟩ := o
  simp only at hc
  have fin : ∀ {s : Sem Value} {v : Value}, Sure P s v → ∀ w', (do pure (Next.value (← s)) : Sem Next).run P w' = .ok (.value v) w' := fun hs w' => by
    rw [Sem.run_bind, hs w']; rfl
  unfold pureOp at hc
  split at hc
  · rename_i x
    cases hc
    exact ⟨_, h.eval x, fun w' => rfl⟩
  · rename_i x
    cases hc
    exact ⟨_, h.eval x, fun w' => rfl⟩
  · -- nilCheck
    rename_i x
    have hx := h.eval x
    split at hc
    · rename_i k off he
      cases hc
      rw [he] at hx
      obtain ⟨b, hb, hy⟩ := (LR.one' hx (by simp)).2
      refine ⟨_, hx, fun w' => ?_⟩
      simp [execOp, hy]
    · rename_i g he
      cases hc
      rw [he] at hx
      have hy := (LR.one' hx (by simp)).2
      simp only [LR] at hy
      refine ⟨_, hx, fun w' => ?_⟩
      simp [execOp, hy]
    · rename_i k he
      split at hc
      · rename_i g f cc hlk
        cases hc
        rw [he] at hx
        obtain ⟨fs, cs, hf, hy⟩ := (LR.one' hx (by simp)).2 g f cc hlk
        refine ⟨_, hx, fun w' => ?_⟩
        simp [execOp, hy]
      · cases hc
    · cases hc
  · -- fieldAddr
    rename_i s x i
    have hx := h.eval x
    split at hc
    · rename_i k off o he ho
      cases hc
      rw [he] at hx
      obtain ⟨b, hb, hy⟩ := (LR.one' hx (by simp)).2
      refine ⟨.pointer (some ⟨b, off + o, none⟩), .inr ⟨rfl, b, hb, rfl⟩, fun w' => ?_⟩
      simp only [execOp, hy]
      exact fin (run_fieldAt ho b off) w'
    · rename_i s2 xs i2 off o he ho
      cases hc
      rw [he] at hx
      obtain ⟨b, o2, p, hi, hr, hy⟩ := (LR.one' hx (by simp)).2
      refine ⟨.pointer (some ⟨b, p + off + o, none⟩), .inr ⟨rfl, b, o2, p, hi, hr, by rw [Nat.add_assoc]⟩, fun w' => ?_⟩
      simp only [execOp, hy]
      exact fin (run_fieldAt ho b _) w'
    · rename_i k i2 off o he ho
      split at hc
      · rename_i s2 xs hlk
        cases hc
        rw [he] at hx
        obtain ⟨b, p, hb, hi, hy⟩ := (LR.one' hx (by simp)).2 s2 xs hlk
        refine ⟨.pointer (some ⟨b, p + off + o, none⟩), .inr ⟨rfl, fun s3 xs3 h3 => ?_⟩, fun w' => ?_⟩
        · rw [hlk] at h3; cases h3
          exact ⟨b, p, hb, hi, by rw [Nat.add_assoc]⟩
        · simp only [execOp, hy]
          exact fin (run_fieldAt ho b _) w'
      · cases hc
    · cases hc
  · -- field
    rename_i s x i
    have hx := h.eval x
    split at hc
    · rename_i ls o t he ho ht
      split at hc
      · rename_i n hn
        rw [he] at hx
        obtain ⟨vs, hy, hv⟩ := hx
        cases hle : Nat.ble (o + n) ls.length with
        | false => rw [hle] at hc; cases hc
        | true =>
          rw [hle] at hc
          obtain ⟨fs, f, hu, hf, rfl⟩ := fieldOff_some ho
          have : t = f.type := by simp [fieldT, hu, hf] at ht; exact ht.symm
          subst this
          obtain ⟨v, hv1, hr⟩ := run_part' (P := P) hc hn (by simpa using hle) hv
          refine ⟨v, hv1, fun w' => ?_⟩
          simp only [execOp, hy]
          refine fin (fun w' => ?_) w'
          simp [Instr.field, run_underlying hu, hf, asAgg, hr w']
      · cases hc
    · cases hc
  · -- binOp
    rename_i op t x y z
    obtain ⟨l, hl, rfl⟩ := Option.map_eq_some_iff.1 hc
    obtain ⟨v, hv, hr⟩ := binOp'_sound (P := P) hl (h.eval x) (h.eval y) x y
    exact ⟨v, hv, fun w' => by simp only [execOp]; exact fin hr w'⟩
  · -- unOp
    rename_i op t x
    have hx := h.eval x
    split at hc
    · rename_i he
      cases hc
      rw [he] at hx
      refine ⟨.bool false, .inr ⟨rfl, rfl⟩, fun w' => ?_⟩
      simp only [execOp, CRel.bool hx rfl]
      exact fin (fun w' => by simp [Op.unary]) w'
    · rename_i he
      cases hc
      rw [he] at hx
      refine ⟨.bool true, .inr ⟨rfl, rfl⟩, fun w' => ?_⟩
      simp only [execOp, CRel.bool hx rfl]
      exact fin (fun w' => by simp [Op.unary]) w'
    · rename_i b he
      cases hc
      rw [he] at hx
      refine ⟨.bool (!b), crel_bool _, fun w' => ?_⟩
      simp only [execOp, CRel.bool hx rfl]
      exact fin (fun w' => by simp [Op.unary]) w'
    · rename_i k n he
      cases hc
      rw [he] at hx
      refine ⟨_, crel_int _ _, fun w' => ?_⟩
      simp only [execOp, CRel.int hx]
      exact fin (fun w' => by simp [Op.unary, Op.intArith]) w'
    · cases hc
  · -- convert
    rename_i s d x
    have hx := h.eval x
    split at hc
    · rename_i ds k k' n hs hd he
      cases hc
      rw [he] at hx
      refine ⟨_, crel_int _ _, fun w' => ?_⟩
      simp only [execOp, CRel.int hx]
      refine fin (fun w' => ?_) w'
      simp [convert, run_underlying hs, run_underlying hd, Conv.intToInt]
    · cases hc
  · -- makeFunc
    rename_i g first caps
    cases hz : (Nat.beq first.size 0 && Nat.beq caps.size 0) with
    | false => rw [hz] at hc; cases hc
    | true =>
      rw [hz] at hc
      cases hc
      rw [Bool.and_eq_true] at hz
      have h1 : first = #[] := Array.size_eq_zero_iff.1 (Nat.eq_of_beq_eq_true hz.1)
      have h2 : caps = #[] := Array.size_eq_zero_iff.1 (Nat.eq_of_beq_eq_true hz.2)
      subst h1; subst h2
      refine ⟨.func (.func g) #[] #[], .inr ⟨rfl, rfl⟩, fun w' => ?_⟩
      simp [execOp, Instr.makeFunc]
  · -- makeInterface
    rename_i t x
    have hx := h.eval x
    split at hc
    · rename_i fs he hu
      cases hc
      rw [he] at hx
      obtain ⟨vs, hy, hv⟩ := hx
      have : vs = #[] := by
        have := hv.nilL
        simpa using this
      subst this
      refine ⟨.iface t (.agg #[]), .inr ⟨rfl, rfl⟩, fun w' => ?_⟩
      simp only [execOp, hy]
      exact fin (fun w' => by simp [Instr.makeInterface, run_underlying hu]) w'
    · cases hc
  · -- extract
    rename_i t i
    have hx := h.eval t
    split at hc
    · rename_i cs he
      rw [he] at hx
      obtain ⟨vs, hy, hv⟩ := hx
      split at hc
      · rename_i p hp
        cases hc
        obtain ⟨v, hg, hr⟩ := hv.get i p hp
        have hg' : vs[i]? = some v := by simpa using hg
        refine ⟨v, ?_, fun w' => ?_⟩
        · unfold PR at hr
          unfold wrapC
          split at hr
          · rename_i hb
            obtain ⟨vs, rfl, hv⟩ := hr
            rw [hb]
            exact ⟨vs, rfl, hv⟩
          · rename_i hb
            obtain ⟨l, hl, hr⟩ := hr
            have hb : p.1 = false := by simpa using hb
            rw [hb, hl]
            exact hr
        · simp [execOp, hy, Instr.extract, hg']
      · cases hc
    · cases hc
  · -- call
    rename_i cl
    split at hc
    · rename_i bi hcal
      have hargs := h.evals cl.args.toList
      have hmap : cl.args.map a.eval = (cl.args.toList.map a.eval).toArray := by
        obtain ⟨l⟩ := cl.args
        exact List.map_toArray (f := a.eval) (l := l)
      split at hc
      · rename_i l hb hl
        rw [hl] at hargs
        split at hc
        · rename_i t ht
          obtain ⟨n, hn, rfl⟩ := Option.map_eq_some_iff.1 hc
          obtain ⟨y, hy, hr⟩ := hargs.oneL
          refine ⟨.int .i64 n, crel_int _ _, fun w' => ?_⟩
          have := lenL_sound h.heap hn hr type cl.argTypes ht w'
          simp [execOp, resolve, hcal, invoke, builtin, hmap, hy, this]
        · cases hc
      · rename_i cs hb
        split at hc
        · rename_i ns hns
          obtain ⟨n, hn, rfl⟩ := Option.map_eq_some_iff.1 hc
          have hvs := ints_of hns hargs
          refine ⟨.int .i64 n, crel_int _ _, fun w' => ?_⟩
          cases ns with
          | nil => cases hn
          | cons x r =>
            simp only [minmax, Option.some.injEq] at hn
            have := minmax_fold (P := P) false Builtin.min2 (fun a b => bif false then (bif decide (b > a) then b else a) else (bif decide (b < a) then b else a)) (fun x y w => by
              by_cases h : y < x <;> simp [Builtin.min2, h]) r x w'
            simp [execOp, resolve, hcal, invoke, builtin, hmap, hvs, Builtin.min_, this]
            exact hn
        · cases hc
      · rename_i cs hb
        split at hc
        · rename_i ns hns
          obtain ⟨n, hn, rfl⟩ := Option.map_eq_some_iff.1 hc
          have hvs := ints_of hns hargs
          refine ⟨.int .i64 n, crel_int _ _, fun w' => ?_⟩
          cases ns with
          | nil => cases hn
          | cons x r =>
            simp only [minmax, Option.some.injEq] at hn
            have := minmax_fold (P := P) true Builtin.max2 (fun a b => bif true then (bif decide (b > a) then b else a) else (bif decide (b < a) then b else a)) (fun x y w => by
              by_cases h : y > x <;> simp [Builtin.max2, h]) r x w'
            simp [execOp, resolve, hcal, invoke, builtin, hmap, hvs, Builtin.max_, this]
            exact hn
        · cases hc
      · cases hc
    · cases hc
  · cases hc

end
end Go.AI
