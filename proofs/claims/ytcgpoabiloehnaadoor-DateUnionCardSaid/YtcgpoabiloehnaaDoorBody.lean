/-
  Functions: from a body to a contract.
-/
import Derived.Test.YtcgpoabiloehnaaDoorCode2
set_option linter.unusedVariables false
set_option linter.unusedSimpArgs false
namespace Go.AI
open Go

section
variable {P : Program} {E : Env} {pl : Pl} {st : St} {a : Act} {w : World} {H : Hints} {call : Call} {objs : Objs} {ok : Nat → Prop}

theorem mapM_run {A B : Type} {f : A → Sem B} : ∀ (l : List A) (vs : List B), All2 (fun x v => (f x).run P w = .ok v w) l vs → (l.mapM f).run P w = .ok vs w
  | [], [], _ => by simp
  | [], _ :: _, h => by cases h
  | _ :: _, [], h => by cases h
  | x :: l, v :: vs, h => by
    have ih := mapM_run l vs h.2
    simp [List.mapM_cons, h.1, ih]

def resSem (tmps : Array Value) : ResultVar → Sem Value
  | .tmp t => pure (tmps.getD t undef)
  | .cell a t => do loadVar t (← asAddr (tmps.getD a undef))

theorem resOne_sound (h : Rel E pl st a w) {x : ResultVar} {c : C} (hc : resOne P st x = some c) : ∃ v, (resSem a.tmps x).run P w = .ok v w ∧ CRel pl st.objs w (E.ok pl st.objs w) c v := by
  cases x with
  | tmp t =>
    cases hc
    exact ⟨_, rfl, h.slot t⟩
  | cell ad t =>
    simp only [resOne] at hc
    split at hc
    · rename_i l hl
      have hy := h.slot ad
      rw [hl] at hy
      obtain ⟨c', v, e, hv, hr⟩ := loadOp_sound (P := P) h hy hc
      cases e
      have hrun := hr w (fun _ _ => rfl)
      refine ⟨v, ?_, hv⟩
      simp only [resSem]
      generalize a.tmps.getD ad undef = y at hrun
      cases y <;> first
        | (simp [Instr.loadAt, Instr.sureAddr] at hrun; done)
        | skip
      rename_i o
      cases o with
      | none => simp [Instr.loadAt, Instr.sureAddr] at hrun
      | some ad' =>
        simp [Instr.loadAt, Instr.sureAddr] at hrun
        simp [asAddr, hrun]
    · cases hc

theorem compC_sound {c : C} {p : Bool × List L} {v : Value} (h : compC c = some p) (hc : CRel pl objs w ok c v) : PR pl objs w ok p v := by
  unfold compC at h
  split at h
  · cases h
  · rename_i l hl
    cases h
    unfold PR
    exact ⟨l, rfl, hc⟩
  · cases h
    unfold PR
    exact hc
  · cases h

theorem resC_sound (h : Rel E pl st a w) {fn : Func} {c : C} (hc : resC P st fn.results.toList = some c) : ∃ v, (results fn a.tmps).run P w = .ok v w ∧ CRel pl st.objs w (E.ok pl st.objs w) c v := by
  have hall : ∀ {l : List ResultVar} {cs : List C}, mapM' (resOne P st) l = some cs → ∃ vs, All2 (fun x v => (resSem a.tmps x).run P w = .ok v w) l vs ∧ All2 (CRel pl st.objs w (E.ok pl st.objs w)) cs vs := by
    intro l
    induction l with
    | nil => intro cs hcs; cases hcs; exact ⟨[], trivial, trivial⟩
    | cons x l ih =>
      intro cs hcs
      simp only [mapM'] at hcs
      split at hcs
      · rename_i b bs h1 h2
        cases hcs
        obtain ⟨v, hv, hr⟩ := resOne_sound h h1
        obtain ⟨vs, hvs, hrs⟩ := ih h2
        exact ⟨v :: vs, ⟨hv, hvs⟩, ⟨hr, hrs⟩⟩
      · cases hcs
  have hres : results fn a.tmps = (do
      let vs ← fn.results.mapM (resSem a.tmps)
      pure (if h : vs.size = 1 then vs[0] else .tuple vs)) := rfl
  have hrun : ∀ {vs : List Value}, All2 (fun x v => (resSem a.tmps x).run P w = .ok v w) fn.results.toList vs → (fn.results.mapM (resSem a.tmps)).run P w = .ok vs.toArray w := fun hvs => by
    have := mapM_run _ _ hvs
    rw [Array.mapM_eq_mapM_toList]
    simp [this]
  unfold resC at hc
  split at hc
  · rename_i c0 h1
    cases hc
    obtain ⟨vs, h2, h3⟩ := hall h1
    obtain ⟨v, rfl, hv⟩ := h3.oneL
    refine ⟨v, ?_, hv⟩
    rw [hres, Sem.run_bind, hrun h2]
    simp
  · rename_i cs hne h1
    obtain ⟨vs, h2, h3⟩ := hall h1
    obtain ⟨ps, hps, rfl⟩ := Option.map_eq_some_iff.1 hc
    refine ⟨.tuple vs.toArray, ?_, ⟨vs.toArray, rfl, ?_⟩⟩
    · rw [hres, Sem.run_bind, hrun h2]
      have hn : vs.length ≠ 1 := fun e => by
        have := h3.length
        rw [e] at this
        obtain ⟨c0, rfl⟩ := List.length_eq_one_iff.1 this
        exact hne c0 rfl
      simp [hn]
    · exact mapM'_all2 (R := CRel pl st.objs w (E.ok pl st.objs w)) (S := PR pl st.objs w (E.ok pl st.objs w)) (fun c v p hcp hr => compC_sound hcp hr) hps h3
  · cases hc

theorem normL_sound {l : L} {y : Value} (h : LR' pl objs w ok l y) : LR' pl objs w ok (normL l) y := by
  refine ⟨h.1, ?_⟩
  have h := h.2
  cases l with
  | tt => rw [show y = _ from h]; rfl
  | ff => rw [show y = _ from h]; rfl
  | velt s xs i off => trivial
  | elt k i off => trivial
  | _ => exact h
theorem kill_sound {p : Key → Bool} {l : L} {y : Value} (h : LR' pl objs w ok l y) : LR' pl objs w ok (l.kill p) y := by
  cases hk : l.key with
  | none => rw [kill_none hk]; exact h
  | some k =>
    rw [kill_key hk]
    split
    · exact ⟨h.1, trivial⟩
    · exact h

theorem Weak.map {f : L → L} (hf : ∀ (pl : Pl) (objs : Objs) (w : World) (ok : Nat → Prop) l y, LR' pl objs w ok l y → LR' pl objs w ok (f l) y) (hd : f .dead = .dead) (o : Obj) : Weak o (o.map f) where
  obj := fun pl objs w ok k h => ObjR.map (f := f) (fun b hb => ⟨hb, rfl⟩) (fun l y hl => hf _ _ _ _ l y hl) hd rfl rfl (fun _ _ => rfl) h
  sl := fun s xs e => Obj.map_slice e
  clo := fun g f' c e => by
    cases o with
    | cells _ => cases e
    | slice _ _ => cases e
    | clo g2 f2 c2 => cases e; exact ⟨_, _, rfl⟩

theorem leave_sound (hE : E.Good) (h : Rel E pl st a w) {c : C} {v : Value} (hc : CRel pl st.objs w (E.ok pl st.objs w) c v) (p : Option RP) :
    ∃ pl', HeapR E pl' (leave p st c).2 w ∧ CRel pl' (leave p st c).2 w (E.ok pl' (leave p st c).2 w) (leave p st c).1 v := by
  have h0 : Rel E pl ⟨[c], st.objs⟩ { tmps := #[v], defers := [] } w := ⟨rfl, ⟨hc, trivial⟩, h.heap⟩
  have hfit : ∃ pl', Rel E pl' (leaveSt p st c) { tmps := #[v], defers := [] } w := by
    cases p with
    | some p => exact fit_sound hE _ h0
    | none => exact fit_sound hE _ h0
  obtain ⟨pl', h1⟩ := hfit
  unfold leave
  simp only
  generalize leaveSt p st c = st1 at h1
  have hs := h1.slot 0
  simp only [List.size_toArray, List.length_cons, List.length_nil, Nat.zero_add, Array.getD_eq_getD_getElem?] at hs
  have hs' : CRel pl' st1.objs w (E.ok pl' st1.objs w) (getS st1.α 0) v := by simpa using hs
  obtain ⟨dead, hdead⟩ : ∃ d : Key → Bool, d = (fun k => !(reach st1.objs 64 (((getS st1.α 0).map normL).leaves.filterMap L.key ++ (st1.objs.map (·.1)).filter isImp) []).any (keyB k)) := ⟨_, rfl⟩
  obtain ⟨h2, h3⟩ := h1.heap.weaken (objs' := mapO (fun l => (normL l).kill dead) (st1.objs.filter fun p => !dead p.1)) (fun k ob' ho => by
    rw [lookO_mapO] at ho
    obtain ⟨ob, hob, rfl⟩ := Option.map_eq_some_iff.1 ho
    rw [lookO_filter st1.objs (fun k => !dead k)] at hob
    split at hob
    · exact ⟨ob, hob, Weak.map (fun pl objs w ok l y hl => kill_sound (normL_sound hl)) rfl ob⟩
    · cases hob)
  have h4 := (hs'.map (f := normL) (fun l y hl => normL_sound hl) rfl).map (f := L.kill dead) (fun l y hl => h3 _ _ (kill_sound hl)) rfl
  subst hdead
  exact ⟨pl', h2, h4⟩

/-- THE LAW: what a reading of a function's text yields is a contract of the function -/
theorem body_sound {G : World → Prop} {lo : Nat} (hcall : ∀ g, Snd P G lo g (call g)) {f : FuncId} {fn : Func} (hf : P.funcs[f]? = some fn) (hname : (fn.name == "runtime.NumGoroutine") = false)
    {p : List C → Objs → Option Res} (hp : ∀ args objs r, p args objs = some r → ∃ k, bodyC P H call f fn k args objs = some r) : Snd P G lo f p := by
  intro E pl w args objs vs r hE eG eL e0 eP eO hh ha hr
  obtain ⟨k, hk⟩ := hp args objs r hr
  unfold bodyC at hk
  split at hk
  · cases hk
  · rename_i c hb
    refine ⟨⟨fn, hf, by rw [hb]; rfl, hname⟩, calls_of_wp hf hb ?_⟩
    subst eG
    subst eL
    have hlen : vs.size = args.length := by rw [ha.length]; simp
    have hrel : Rel E pl ⟨args ++ List.replicate (fn.ntmps - args.length) (.one .dead), objs⟩ { tmps := vs ++ Array.replicate (fn.ntmps - vs.size) undef, defers := [] } w :=
      ⟨rfl, by
        simp only [Array.toList_append, Array.toList_replicate, hlen]
        exact ha.append (All2.replicate _ (.inl rfl)), hh⟩
    refine wp_mono (codeC_sound hE hcall f k c hk hrel) fun e a' w' ⟨e', st', pl', he, hk', hr'⟩ => ?_
    subst he
    have fin : ∀ {r0 : Res}, (match resC P st' fn.results.toList with
        | some r => (let z := leave (H.ret f) st' r; some (.ret z.1 z.2) : Option Res)
        | none => none) = some r0 → ∃ v, (results fn a'.tmps).run P w' = .ok v w' ∧ EndR E r0 (.returned v) w' := by
      intro r0 h0
      split at h0
      · rename_i c0 hc0
        cases h0
        obtain ⟨v, hv, hcv⟩ := resC_sound hr' hc0
        obtain ⟨pl2, h2, h3⟩ := leave_sound hE hr' hcv (H.ret f)
        exact ⟨v, hv, v, pl2, rfl, h2, h3⟩
      · cases h0
    cases e' with
    | normal =>
      obtain ⟨v, hv, hend⟩ := fin hk'
      exact ⟨hr'.defers, v, hv, hend⟩
    | ret =>
      obtain ⟨v, hv, hend⟩ := fin hk'
      exact ⟨hr'.defers, v, hv, hend⟩
    | exit id => cases hk'
    | pan t =>
      cases hk'
      obtain ⟨pl2, h2, _⟩ := leave_sound hE hr' (c := .one .dead) (v := undef) (.inl rfl) none
      exact ⟨hr'.defers, pl2, rfl, h2⟩

end
end Go.AI
