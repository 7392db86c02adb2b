/-
  Calls, as an operation.
-/
import Derived.Test.YtcgpoabiloehnaaDoorCall
set_option linter.unusedVariables false
set_option linter.unusedSimpArgs false
namespace Go.AI
open Go

section
variable {P : Program} {E : Env} {pl : Pl} {st : St} {a : Act} {w : World} {objs : Objs} {ok ok' : Nat → Prop} {H : Hints} {call : Call}

theorem mkOs_keys : ∀ {ps : List (Key × OP)} {x : PayOs ps}, (mkOs ps x).map (·.1) = ps.map (·.1)
  | [], _ => rfl
  | p :: ps, x => by simp [mkOs, mkOs_keys]

/-- memory that grows and keeps its size at least -/
def Grows (w w' : World) : Prop := w.heap.size ≤ w'.heap.size ∧ Grown w w'

theorem callOp_soundG (hE : E.Good) {f : FuncId} (hcall : Snd P E.G E.lo f (call f)) {R : Type} {K : C → St → Option R} {X : TypeId → St → Option R} {r : R} (h : Rel E pl st a w) {dst : Nat} {args : List C} {vs : Array Value}
    (hv : All2 (CRel pl st.objs w (E.ok pl st.objs w)) args vs.toList) (hc : callOp H call f dst st args K X = some r) :
    Enters P f ∧ Calls P f vs w (fun e w'' => CallOut E K X r a e w'' ∧ ((send st.objs (H.byRef f) args).keys = [] → Grows w w'')) := by
  unfold callOp at hc
  simp only at hc
  generalize hs : send st.objs (H.byRef f) args = s at hc ⊢
  cases hdis : s.lent.any (fun k => s.keys.any (keyB k)) with
  | true => rw [hdis] at hc; cases hc
  | false =>
    rw [hdis] at hc
    simp only [cond_false] at hc
    obtain ⟨hh, ha⟩ := send_sound hE h hv hs hdis
    have grows : ∀ {pl'' : Pl} {o : Objs} {w'' : World}, HeapR (E.callee pl st w s) pl'' o w'' → s.keys = [] → Grows w w'' := fun h2 hk =>
      ⟨h2.keep.size, fun b hb => h2.keep.block b hb (fun ⟨k, o, hm, _⟩ => by rw [hk] at hm; cases hm)⟩
    have contract : ∀ res, call f s.args s.objs = some res → Enters P f ∧ Calls P f vs w (EndR (E.callee pl st w s) res) := fun res hr =>
      hcall (E.callee pl st w s) (pl.sent s.keys) w s.args s.objs vs res (Env.callee_good hE h s) rfl rfl rfl rfl rfl hh ha hr
    have back : ∀ {c : C} {o : Objs} {pl'' : Pl} {w'' : World} {v : Value}, apartK ((o.map (·.1)).map (backK s.keys dst)) = true → HeapR (E.callee pl st w s) pl'' o w'' → CRel pl'' o w'' ((E.callee pl st w s).ok pl'' o w'') c v → _ :=
      fun {c o pl'' w'' v} h1 h2 h3 => back_sound (dst := dst) hE h hs hdis h1 h2 h3
    split at hc
    · rename_i hret
      split at hc
      · rename_i c o hr
        cases hap : apartK ((o.map (·.1)).map (backK s.keys dst)) with
        | false => rw [hap] at hc; cases hc
        | true =>
          rw [hap] at hc
          simp only [cond_true] at hc
          refine ⟨(contract _ hr).1, (contract _ hr).2.mono fun e w'' he => ?_⟩
          obtain ⟨v, pl'', rfl, h1, h2⟩ := he
          obtain ⟨pl3, h3, h4⟩ := back hap h1 h2
          exact ⟨.inl ⟨v, rfl, pl3, _, _, hc, h3, h4⟩, grows h1⟩
      · rename_i t o hr
        cases hap : apartK ((o.map (·.1)).map (backK s.keys dst)) with
        | false => rw [hap] at hc; cases hc
        | true =>
          rw [hap] at hc
          simp only [cond_true] at hc
          refine ⟨(contract _ hr).1, (contract _ hr).2.mono fun e w'' he => ?_⟩
          obtain ⟨pl'', rfl, h1⟩ := he
          obtain ⟨pl3, h3, _⟩ := back (c := .one .dead) (v := undef) hap h1 (.inl rfl)
          exact ⟨.inr ⟨t, _, pl3, rfl, hc, h3⟩, grows h1⟩
      · cases hc
    · rename_i p hret
      cases hap : apartK ((p.os.map (·.1)).map (backK s.keys dst)) with
      | false => rw [hap] at hc; cases hc
      | true =>
        rw [hap] at hc
        simp only [cond_true] at hc
        -- a call that returns
        have ret : ∀ {c : C} {o : Objs} {x : p.Pay}, call f s.args s.objs = some (.ret c o) → p.un c o = some x →
            K ((p.mk' x).1.map (L.ren (backR s.keys dst (p.mk' x).2))) (receive (bif (p.mk' x).1.imm || (p.mk' x).2.any (fun q => q.2.imm) then st.freezes s.lent else st) dst s.keys (p.mk' x).2) = some r →
            Enters P f ∧ Calls P f vs w (fun e w'' => CallOut E K X r a e w'' ∧ (s.keys = [] → Grows w w'')) := by
          intro c o x hr hx hk
          refine ⟨(contract _ hr).1, (contract _ hr).2.mono fun e w'' he => ?_⟩
          obtain ⟨v, pl'', rfl, h1, h2⟩ := he
          unfold RP.un at hx
          split at hx
          · rename_i x1 x2 hx1 hx2
            cases hx
            obtain ⟨h5, h6⟩ := h1.weaken (objs' := mkOs p.os x2) (fun k ob' ho => look_mkOs hx2 ho)
            obtain ⟨pl3, h3, h4⟩ := back (by rw [mkOs_keys]; exact hap) h5 ((CP.mk_un hx1 h2).id h6)
            exact ⟨.inl ⟨v, rfl, pl3, _, _, hk, h3, h4⟩, grows h1⟩
          · cases hx
        split at hc
        · obtain ⟨c, o, x, hr, hx, hk⟩ := callC_some hc
          exact ret hr hx hk
        · rename_i os hos
          cases hap2 : apartK ((os.map (·.1)).map (backK s.keys dst)) with
          | false => rw [hap2] at hc; cases hc
          | true =>
            rw [hap2] at hc
            simp only [cond_true] at hc
            rcases callXC_some hc with ⟨c, o, x, hr, hx, hk⟩ | ⟨t, o, x, hr, hx, hk⟩
            · exact ret hr hx hk
            · refine ⟨(contract _ hr).1, (contract _ hr).2.mono fun e w'' he => ?_⟩
              obtain ⟨pl'', rfl, h1⟩ := he
              obtain ⟨h5, h6⟩ := h1.weaken (objs' := mkOs os x) (fun k ob' ho => look_mkOs hx ho)
              obtain ⟨pl3, h3, _⟩ := back (c := .one .dead) (v := undef) (by rw [mkOs_keys]; exact hap2) h5 (.inl rfl)
              exact ⟨.inr ⟨t, _, pl3, rfl, hk, h3⟩, grows h1⟩

theorem map_toArr {A B : Type} (f : A → B) (xs : Array A) : xs.map f = (xs.toList.map f).toArray := by
  obtain ⟨l⟩ := xs
  simp

theorem callOp_sound (hE : E.Good) {f : FuncId} (hcall : Snd P E.G E.lo f (call f)) {R : Type} {K : C → St → Option R} {X : TypeId → St → Option R} {r : R} (h : Rel E pl st a w) {dst : Nat} {args : List C} {vs : Array Value}
    (hv : All2 (CRel pl st.objs w (E.ok pl st.objs w)) args vs.toList) (hc : callOp H call f dst st args K X = some r) : Enters P f ∧ Calls P f vs w (CallOut E K X r a) :=
  (callOp_soundG hE hcall h hv hc).imp_right fun h => h.mono fun _ _ h => h.1

/-! ### one operation, whatever it is -/
/-- what stands behind an operation -/
def OpOut (E : Env) {R : Type} (K : C → St → Option R) (r : R) (o : Oper) (a : Act) (a' : Act) (w' : World) : Prop :=
  ∃ v, a' = a.put o.dst v ∧ Out E K r a v w'
def OpPan (E : Env) {R : Type} (X : TypeId → St → Option R) (r : R) (e : Exit) (a' : Act) (w' : World) : Prop :=
  ∃ t st' pl', e = .panic (panV t) ∧ X t st' = some r ∧ Rel E pl' st' a' w'

theorem run_next {s : Sem Value} {v : Value} {w w' : World} (h : s.run P w = .ok v w') : (do pure (Next.value (← s)) : Sem Next).run P w = .ok (.value v) w' := by
  rw [Sem.run_bind, h]; rfl

theorem callV_soundG (hE : E.Good) (hcall : ∀ f, Snd P E.G E.lo f (call f))
    {R : Type} {K : C → St → Option R} {X : TypeId → St → Option R} {r : R} (h : Rel E pl st a w) {o : Oper} {c : Go.Call} {x : Operand} (ho : o.op = .call c) (hcal : c.callee = .value x)
    (hc : (match evalO st.α x with
      | .one (.fn g) => callOp H call g (o.dst.getD 0) st (c.args.toList.map (evalO st.α)) K X
      | .one (.clo k) => match lookO st.objs k with
        | some (.clo g first caps) => callOp H call g (o.dst.getD 0) st ((first.map fun p => wrapC p.1 p.2) ++ c.args.toList.map (evalO st.α) ++ caps.map .one) K X
        | _ => none
      | _ => none) = some r) :
    o.wp P a w (fun a' w' => OpOut E K r o a a' w' ∧ (bareCall H st c = true → Grows w w')) (OpPan E X r) := by
  -- a call
  have enter : ∀ {g : FuncId} {args : List C} {vs : Array Value}, (execOp a.eval o).run P w = (callFunc g vs).run P w → All2 (CRel pl st.objs w (E.ok pl st.objs w)) args vs.toList → callOp H call g (o.dst.getD 0) st args K X = some r →
      (bareCall H st c = true → (send st.objs (H.byRef g) args).keys = []) → o.wp P a w (fun a' w' => OpOut E K r o a a' w' ∧ (bareCall H st c = true → Grows w w')) (OpPan E X r) := by
    intro g args vs he hv hk hbare
    obtain ⟨⟨fn, hf, hb, hn⟩, hcalls⟩ := callOp_soundG hE (hcall g) h hv hk
    unfold Oper.wp
    rw [he]
    have : (callFunc g vs).run P w = .ok (.enter g vs) w := by
      have hn' : fn.name ≠ "runtime.NumGoroutine" := by simpa using hn
      have hb' : fn.body ≠ none := by
        intro e
        rw [e] at hb
        cases hb
      simp [callFunc, hf, hn', hb']
    rw [this]
    refine hcalls.mono fun e w' hout => ?_
    obtain ⟨hout, hgr⟩ := hout
    rcases hout with ⟨v, rfl, ho⟩ | ⟨t, st', pl', rfl, hx, hr⟩
    · exact ⟨⟨v, rfl, ho⟩, fun hb => hgr (hbare hb)⟩
    · exact ⟨t, st', pl', rfl, hx, hr⟩
  split at hc
  · rename_i g hg
    have hx := h.eval x
    rw [hg] at hx
    have hv : a.eval x = .func (.func g) #[] #[] := (LR.one' hx (by simp)).2
    refine enter (g := g) (vs := c.args.map a.eval) ?_ ?_ hc (fun hb => by unfold bareCall at hb; simp only [hcal, hg] at hb; exact List.isEmpty_iff.1 hb)
    · simp [execOp, ho, resolve, hcal, hv, Deferred.ofValue, invoke]
    · rw [Array.toList_map]; exact h.evals _
  · rename_i k hk
    split at hc
    · rename_i g first caps hlk
      have hx := h.eval x
      rw [hk] at hx
      obtain ⟨fs, cs, hfn, hv⟩ := (LR.one' hx (by simp)).2 g first caps hlk
      obtain ⟨_, fs2, cs2, hfn2, hfs, hcs⟩ := h.heap.obj k _ hlk
      rw [hfn] at hfn2
      cases hfn2
      refine enter (g := g) (vs := fs ++ c.args.map a.eval ++ cs) ?_ ?_ hc (fun hb => by unfold bareCall at hb; simp only [hcal, hk, hlk] at hb; exact List.isEmpty_iff.1 hb)
      · simp [execOp, ho, resolve, hcal, hv, Deferred.ofValue, invoke]
      · simp only [Array.toList_append, Array.toList_map]
        refine All2.append (All2.append ?_ (h.evals _)) ?_
        · refine hfs.mapL fun p y hp => ?_
          unfold PR at hp
          unfold wrapC
          split at hp
          · rename_i hb
            obtain ⟨vs, rfl, hv⟩ := hp
            rw [hb]
            exact ⟨vs, rfl, hv⟩
          · rename_i hb
            obtain ⟨l, hl, hp⟩ := hp
            have hb : p.1 = false := by simpa using hb
            rw [hb, hl]
            exact hp
        · exact hcs.mapL fun l y hl => .inr hl
    · cases hc
  · cases hc

/-- an append: the place below which nothing turns -/
theorem appendV_sound (hE : E.Good) {R : Type} {K : C → St → Option R} {X : TypeId → St → Option R} {r : R} (h : Rel E pl st a w) {o : Oper} {c : Go.Call} (ho' : o.op = .call c) (hcal : c.callee = .builtin .append)
    (hc : (match c.args.toList.map (evalO st.α), c.argTypes[0]?, c.argTypes[1]? with
      | [.one a, .one b], some t, some t' => bif Nat.beq t t' then (match elemT P t with
          | some e => appendOp P e (o.dst.getD 0) st a b K
          | none => none) else none
      | _, _, _ => none) = some r) :
    o.wp P a w (fun a' w' => OpOut E K r o a a' w' ∧ ∀ x, c.args[0]? = some x → ∃ v, a' = a.put o.dst v ∧ AppF (a.eval x) v w w') (OpPan E X r) := by
  split at hc
  · rename_i la lb t t' hl ht ht'
    cases hb : Nat.beq t t' with
    | false => rw [hb] at hc; cases hc
    | true =>
      rw [hb] at hc
      simp only [cond_true] at hc
      have e := Nat.eq_of_beq_eq_true hb
      subst e
      split at hc
      · rename_i e he
        have hargs := h.evals c.args.toList
        rw [hl] at hargs
        have hval : ∃ ya yb, c.args.toList.map a.eval = [ya, yb] ∧ CRel pl st.objs w (E.ok pl st.objs w) (.one la) ya ∧ CRel pl st.objs w (E.ok pl st.objs w) (.one lb) yb := by
          generalize c.args.toList.map a.eval = us at hargs
          match us, hargs with
          | [ya, yb], hh => exact ⟨ya, yb, rfl, hh.1, hh.2.1⟩
          | [], hh => cases hh
          | [_], hh => cases hh.2
          | _ :: _ :: _ :: _, hh => cases hh.2.2
        obtain ⟨ya, yb, hys, ha, hb⟩ := hval
        obtain ⟨v, w', hr, ho, hap⟩ := appendOp_sound (P := P) (t := t) (ty := o.type) hE h (elemT_some he) ha hb hc
        unfold Oper.wp
        have hrun : (execOp a.eval o).run P w = .ok (.value v) w' := by
          have h2 : (Builtin.append_ c.argTypes o.type #[ya, yb]).run P w = .ok v w' := by
            rw [← hr]
            unfold Builtin.append_
            simp [ht, ht']
          simp [execOp, ho', resolve, hcal, invoke, builtin, map_toArr, hys, h2]
        rw [hrun]
        refine ⟨⟨v, rfl, ho⟩, fun x hx => ⟨v, rfl, ?_⟩⟩
        have e1 : a.eval x = ya := by
          have h0 : (c.args.toList.map a.eval)[0]? = some (a.eval x) := by simp [hx]
          rw [hys] at h0
          exact (Option.some.inj h0).symm
        rw [e1]
        exact hap
      · cases hc
  · cases hc

theorem opC_sound (hE : E.Good) (hcall : ∀ f, Snd P E.G E.lo f (call f))
    {R : Type} {K : C → St → Option R} {X : TypeId → St → Option R} {r : R} (h : Rel E pl st a w) {f : FuncId} {o : Oper} (hc : opC P H call f (o.dst.getD 0) st K X o.op = some r) :
    o.wp P a w (OpOut E K r o a) (OpPan E X r) := by
  have val : ∀ {s : Sem Value} {v : Value} {w' : World}, execOp a.eval o = (do pure (Next.value (← s)) : Sem Next) → s.run P w = .ok v w' → Out E K r a v w' → o.wp P a w (OpOut E K r o a) (OpPan E X r) := by
    intro s v w' he hr ho
    unfold Oper.wp
    rw [he, run_next hr]
    exact ⟨v, rfl, ho⟩
  have read : ∀ {op : Op}, o.op = op → readOp P st (fun c => K c st) op = some r → o.wp P a w (OpOut E K r o a) (OpPan E X r) := by
    intro op he hr
    rw [← he] at hr
    obtain ⟨c, v, hk, hv, hrun⟩ := readOp_sound (P := P) h hr
    unfold Oper.wp
    rw [hrun w (fun _ _ _ => rfl)]
    exact ⟨v, rfl, pl, c, st, hk, h, hv⟩
  obtain ⟨dst, op, type, pos, after, guard⟩ := o
  simp only at hc read
  unfold opC at hc
  split at hc
  · -- assign
    rename_i x
    have := assignOp_sound hE h (h.eval x) hc
    exact ⟨a.eval x, rfl, this⟩
  · -- alloc
    rename_i t
    obtain ⟨v, w', hr, ho⟩ := allocOp_sound (P := P) hE h hc
    exact val rfl hr ho
  · -- box
    rename_i t x
    obtain ⟨v, w', hr, ho⟩ := boxOp_sound (P := P) hE h (h.eval x) hc
    exact val rfl hr ho
  · -- store
    rename_i t x y
    split at hc
    · rename_i l hl
      have hx := h.eval x
      rw [hl] at hx
      obtain ⟨w', hr, ho⟩ := storeOp_sound (P := P) hE h hx (h.eval y) hc
      unfold Oper.wp
      simp only [execOp, Sem.run_bind, hr, Result.andThen_ok, Sem.run_pure]
      exact ⟨undef, rfl, ho⟩
    · cases hc
  · -- build
    rename_i t parts
    have hp : All2 (fun (p : Nat × C) (q : Nat × Value) => p.1 = q.1 ∧ CRel pl st.objs w (E.ok pl st.objs w) p.2 q.2) (parts.toList.map fun p => (p.1, evalO st.α p.2)) (parts.map fun (i, x) => (i, a.eval x)).toList := by
      rw [Array.toList_map]
      generalize parts.toList = l
      induction l with
      | nil => exact trivial
      | cons p r ih => exact ⟨⟨rfl, h.eval p.2⟩, ih⟩
    obtain ⟨v, hr, ho⟩ := buildOp_sound (P := P) h hp hc
    exact val rfl hr ho
  · -- buildSlice
    rename_i t n parts
    obtain ⟨v, w', hr, ho⟩ := buildSliceOp_sound (P := P) hE h hc
    exact val rfl hr ho
  · -- makeSlice
    rename_i t n c
    split at hc
    · rename_i n' c' hn hcc
      obtain ⟨k1, e1⟩ := intOf_some hn
      obtain ⟨k2, e2⟩ := intOf_some hcc
      have h1 := h.eval n
      have h2 := h.eval c
      rw [e1] at h1
      rw [e2] at h2
      obtain ⟨v, w', hr, ho⟩ := makeSliceOp_sound (P := P) hE h (k1 := k1) (k2 := k2) hc
      refine val (s := Instr.makeSlice t (a.eval n) (a.eval c)) rfl ?_ ho
      rw [CRel.int h1, CRel.int h2]
      exact hr
    · cases hc
  · -- makeFunc
    rename_i g first caps
    cases hz : (Nat.beq first.size 0 && Nat.beq caps.size 0) with
    | true =>
      rw [hz] at hc
      simp only [cond_true] at hc
      rw [Bool.and_eq_true] at hz
      have h1 : first = #[] := Array.size_eq_zero_iff.1 (Nat.eq_of_beq_eq_true hz.1)
      have h2 : caps = #[] := Array.size_eq_zero_iff.1 (Nat.eq_of_beq_eq_true hz.2)
      subst h1; subst h2
      refine val (s := Instr.makeFunc (.func g) (#[].map a.eval) (#[].map a.eval)) (v := .func (.func g) #[] #[]) (w' := w) rfl (by simp [Instr.makeFunc]) ⟨pl, _, _, hc, h, .inr ⟨rfl, rfl⟩⟩
    | false =>
      rw [hz] at hc
      simp only [cond_false] at hc
      have := makeFuncOp_sound hE h (h.evals first.toList) (h.evals caps.toList) hc
      refine val (s := Instr.makeFunc (.func g) (first.map a.eval) (caps.map a.eval)) rfl ?_ this
      simp only [Instr.makeFunc, Sem.run_pure, map_toArr]
  · -- slice
    rename_i t x lo hi
    split at hc
    · rename_i k l u e1 e2 e3
      have hx := h.eval x
      rw [e1] at hx
      obtain ⟨v, hr, ho⟩ := sliceOwn_sound (P := P) hE h hx e2 e3 hc
      exact val rfl hr ho
    · exact read rfl hc
  · -- s[:0:0]
    rename_i t x lo hi mx
    split at hc
    · rename_i l u m e1 e2 e3
      obtain ⟨v, hr, ho⟩ := emptyOp_sound (P := P) hE h (h.eval x) e1 e2 e3 hc
      exact val rfl hr ho
    · cases hc
  · -- panic
    rename_i x
    split at hc
    · rename_i t ht
      have hx := h.eval x
      rw [ht] at hx
      have hv : a.eval x = .iface t (.agg #[]) := (LR.one' hx (by simp)).2
      unfold Oper.wp
      have : (execOp a.eval { dst := dst, op := Op.panic x, type := type, pos := pos, after := after, guard := guard }).run P w = .halt (.panic (.iface t (.agg #[]))) w := by
        simp [execOp, hv, Instr.panic]
      rw [this]
      exact ⟨t, st, pl, rfl, hc, h⟩
    · cases hc
  · -- call
    rename_i c
    split at hc
    · rename_i x hcal
      exact Oper.wp_mono (fun a' w' h => h.1) (callV_soundG hE hcall h (o := { dst := dst, op := Op.call c, type := type, pos := pos, after := after, guard := guard }) rfl hcal hc)
    · rename_i hcal
      exact Oper.wp_mono (fun a' w' h => h.1) (appendV_sound hE h (o := { dst := dst, op := Op.call c, type := type, pos := pos, after := after, guard := guard }) rfl hcal hc)
    · exact read rfl hc
  · exact read rfl hc

end
end Go.AI
