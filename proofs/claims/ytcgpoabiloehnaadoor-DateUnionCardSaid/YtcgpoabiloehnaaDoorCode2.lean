/-
  Code, whole.
-/
import Derived.Test.YtcgpoabiloehnaaDoorDraw2
set_option linter.unusedVariables false
set_option linter.unusedSimpArgs false
namespace Go.AI
open Go

section
variable {P : Program} {E : Env} {pl : Pl} {st : St} {a : Act} {w : World} {H : Hints} {call : Call}

theorem fitL_sound (hE : E.Good) (h : Rel E pl st a w) {os : List (Key × OP)} {i n : Nat} {lp : LP} : ∃ pl', Rel E pl' (fitL os i n lp st) a w := by
  unfold fitL
  split
  · exact ⟨pl, h.freeze hE _⟩
  · rename_i key k hk
    cases hc : (keyB k key || isImp key) with
    | true => exact ⟨pl, h⟩
    | false =>
      rw [Bool.or_eq_false_iff] at hc
      exact ⟨_, h.rename hE (fun e => by subst e; simp at hc) hc.2⟩
  · rename_i key hk
    split
    · rename_i s hs
      cases hc : (Nat.blt 0 s.n && !isImp key) with
      | false => exact ⟨pl, h⟩
      | true =>
        rw [Bool.and_eq_true] at hc
        exact ⟨_, h.ownNil hE (by simpa using hc.2) (blt_true hc.1) hk⟩
    · exact ⟨pl, h⟩
  · exact ⟨pl, h⟩

theorem fitLs_sound (hE : E.Good) {os : List (Key × OP)} {i : Nat} : ∀ (lps : List LP) {n : Nat} {pl : Pl} {st : St}, Rel E pl st a w → ∃ pl', Rel E pl' (fitLs os i n lps st) a w
  | [], n, pl, st, h => ⟨pl, h⟩
  | lp :: r, n, pl, st, h => by
    obtain ⟨pl1, h1⟩ := fitL_sound hE h (os := os) (i := i) (n := n) (lp := lp)
    exact fitLs_sound hE r h1
theorem fit_sound (hE : E.Good) {os : List (Key × OP)} : ∀ (ps : List (Nat × CP)) {pl : Pl} {st : St}, Rel E pl st a w → ∃ pl', Rel E pl' (fit os ps st) a w
  | [], pl, st, h => ⟨pl, h⟩
  | p :: r, pl, st, h => by
    obtain ⟨pl1, h1⟩ := fitLs_sound hE p.2.leaves h (os := os) (i := p.1) (n := 0)
    exact fit_sound hE r h1

theorem mkSs_un {objs : Objs} {ok : Nat → Prop} {us : List Value} : ∀ {ps : List (Nat × CP)} {α α0 : List C} {x : PaySs ps}, unSs α ps = some x → All2 (CRel pl objs w ok) α us → All2 (CRel pl objs w ok) α0 us → All2 (CRel pl objs w ok) (mkSs ps x α0) us
  | [], _, _, _, _, _, h => h
  | p :: r, α, α0, x, h, ha, h0 => by
    simp only [unSs] at h
    split at h
    · rename_i x1 x2 h1 h2
      cases h
      simp only [mkSs]
      refine mkSs_un h2 ha ?_
      by_cases hi : p.1 < α.length
      · have hg : α[p.1]? = some (getS α p.1) := by simp [getS, List.getD_eq_getElem?_getD, hi]
        obtain ⟨v, hv, hr⟩ := ha.get p.1 _ hg
        have := h0.set p.1 (CP.mk_un h1 hr)
        rwa [set_self hv] at this
      · have hl : α0.length ≤ p.1 := by rw [h0.length, ← ha.length]; omega
        rw [List.set_eq_of_length_le hl]
        exact h0
    · cases h

/-- a state, read by a pattern -/
theorem SP.mk_un (h : Rel E pl st a w) {p : SP} {x : p.Pay} (hx : p.un st = some x) : Rel E pl (p.mk' x) a w := by
  unfold SP.un at hx
  cases hn : Nat.beq p.n st.α.length with
  | false => rw [hn] at hx; cases hx
  | true =>
    rw [hn] at hx
    simp only [cond_true] at hx
    have hn := Nat.eq_of_beq_eq_true hn
    split at hx
    · rename_i x1 x2 h1 h2
      cases hx
      obtain ⟨h3, h4⟩ := h.heap.weaken (objs' := mkOs p.os x2) (fun k ob' ho => look_mkOs h2 ho)
      refine ⟨h.defers, ?_, h3⟩
      have hs : All2 (CRel pl (mkOs p.os x2) w (E.ok pl (mkOs p.os x2) w)) st.α a.tmps.toList := h.slots.imp fun c y hc => hc.id h4
      refine mkSs_un h1 hs ?_
      refine All2.ofGet ?_ (fun i c y hc hy => ?_)
      · rw [List.length_replicate, hn, h.slots.length]
      · rw [List.getElem?_replicate] at hc
        split at hc
        · cases hc; exact .inl rfl
        · cases hc
    · cases hx

theorem Ex.beq_eq {e e' : Ex} (h : e.beq e' = true) : e = e' := by
  cases e <;> cases e' <;> simp only [Ex.beq] at h <;> first
    | rfl
    | (cases h; done)
    | rw [Nat.eq_of_beq_eq_true h]

theorem onX_sound (hE : E.Good) {R : Type} {K : Ex → St → Option R} {r : R} : ∀ {xs : List (Ex × SP)} {e : Ex} {st : St} {pl : Pl} {z : PayX xs}, unX xs e st = some z → onX xs z K = some r → Rel E pl st a w → Post E K r (exM e) a w
  | [], _, _, _, z, _, _, _ => z.elim
  | p :: xs, e, st, pl, z, h, hk, hr => by
    simp only [unX] at h
    cases hb : p.1.beq e with
    | true =>
      rw [hb] at h
      simp only [cond_true] at h
      obtain ⟨x, hx, rfl⟩ := Option.map_eq_some_iff.1 h
      obtain ⟨pl', h1⟩ := fit_sound hE p.2.slots hr (os := p.2.os)
      have h2 := SP.mk_un h1 hx
      have e1 := Ex.beq_eq hb
      subst e1
      simp only [onX, sumC] at hk
      exact ⟨p.1, _, pl', rfl, hk, h2⟩
    | false =>
      rw [hb] at h
      simp only [cond_false] at h
      obtain ⟨z', hz, rfl⟩ := Option.map_eq_some_iff.1 h
      simp only [onX, sumC] at hk
      exact onX_sound hE hz hk hr

theorem codeC_sound (hE : E.Good) (hcall : ∀ f, Snd P E.G E.lo f (call f)) (f : FuncId) (k : Nat) : ∀ (c : Code) {R : Type} {K : Ex → St → Option R} {r : R} {pl : Pl} {st : St} {a : Act} {w : World},
    codeC P H call f k c st K = some r → Rel E pl st a w → c.wp P (Post E K r) a w
  | .skip, R, K, r, pl, st, a, w, h, hr => wp_skip ⟨.normal, st, pl, rfl, by simpa only [codeC] using h, hr⟩
  | .exit id, R, K, r, pl, st, a, w, h, hr => wp_exit ⟨.exit id, st, pl, rfl, by simpa only [codeC] using h, hr⟩
  | .ret, R, K, r, pl, st, a, w, h, hr => wp_ret ⟨.ret, st, pl, rfl, by simpa only [codeC] using h, hr⟩
  | .region id ops draw, R, K, r, pl, st, a, w, h, hr => by
    simp only [codeC] at h
    cases draw with
    | true =>
      simp only [cond_true] at h
      cases hm : (P.follows .mixedOrders && noSelect (zipN 0 ops.toList)) with
      | false => rw [hm] at h; cases h
      | true =>
        rw [hm] at h
        simp only [cond_true] at h
        rw [Bool.and_eq_true] at hm
        have hr' : Rel E pl st a { w with drawn := w.drawn + 1 } := hr.grow hE ⟨rfl, rfl, rfl, Nat.le_refl _, fun _ _ _ => rfl⟩
        split at h
        · rename_i p xs hh
          obtain ⟨x, hx, hk⟩ := loopC_some h
          have h1 := draw_sound (H := H) (N := w.heap.size) (w := { w with drawn := w.drawn + 1 }) hE hcall hm.2 ops.size (Lst.nil ops) ⟨fun _ => rfl, fun _ => ⟨Nat.le_refl _, fun d hd => by cases hd⟩⟩ hr' hx
          refine wp_region_any hm.1 (wpAny_of_F _ _ _ _ (wpAnyF_mono (fun e a w hq => ?_) _ _ _ _ h1))
          rcases hq with ⟨rfl, st', pl', hun, hrel⟩ | ⟨t, st', pl', rfl, hx, hrel⟩
          · obtain ⟨pl2, h2⟩ := fit_sound hE p.slots hrel (os := p.os)
            exact ⟨.normal, p.mk' x, pl2, rfl, hk, SP.mk_un h2 hun⟩
          · cases hx
        · have h1 := draw_sound (H := H) (N := w.heap.size) (w := { w with drawn := w.drawn + 1 }) hE hcall hm.2 ops.size (Lst.nil ops) ⟨fun _ => rfl, fun _ => ⟨Nat.le_refl _, fun d hd => by cases hd⟩⟩ hr' h
          refine wp_region_any hm.1 (wpAny_of_F _ _ _ _ (wpAnyF_mono (fun e a w hq => ?_) _ _ _ _ h1))
          rcases hq with ⟨rfl, st', pl', hk, hrel⟩ | ⟨t, st', pl', rfl, hx, hrel⟩
          · exact ⟨.normal, st', pl', rfl, hk, hrel⟩
          · exact ⟨.pan t, _, pl', rfl, hx, hrel⟩
    | false =>
      simp only [cond_false] at h
      refine wp_region ?_
      have := opsC_sound (Q := Post E K r) hE hcall (fun st pl a w hk hr => ⟨.normal, st, pl, rfl, hk, hr⟩) (fun e a w ⟨t, st', pl', he, hx, hr⟩ => ⟨.pan t, st', pl', he, hx, hr⟩) ops.toList 0 rfl hr h
      rw [List.range_eq_range']
      simpa using this
  | .seq x y, R, K, r, pl, st, a, w, h, hr => by
    simp only [codeC] at h
    refine wp_seq (wp_mono (codeC_sound hE hcall f k x h hr) fun e a' w' ⟨e', st', pl', he, hk, hr'⟩ => ?_)
    subst he
    cases e' with
    | normal => exact codeC_sound hE hcall f k y hk hr'
    | exit id => exact ⟨.exit id, st', pl', rfl, hk, hr'⟩
    | ret => exact ⟨.ret, st', pl', rfl, hk, hr'⟩
    | pan t => exact ⟨.pan t, st', pl', rfl, hk, hr'⟩
  | .cond c x y, R, K, r, pl, st, a, w, h, hr => by
    simp only [codeC] at h
    split at h
    · rename_i d
      have ans : ∀ {l : L} {b : Bool}, getS st.α d = .one l → boolOf l = some b → a.eval (.tmp d) = .bool b := fun hd hb => by
        have := hr.answer hd hb
        simp [Act.eval, this]
      split at h
      · rename_i hs
        exact wp_cond_true (ans hs rfl) (codeC_sound hE hcall f k x h hr)
      · rename_i hs
        exact wp_cond_false (ans hs rfl) (codeC_sound hE hcall f k y h hr)
      · rename_i b hs
        rcases brC_some h with ⟨hb, hk⟩ | ⟨hb, hk⟩
        · have hb' : b = true := hb
          have hr2 := hr.refine (c' := .one .tt) hs (fun v hv => by rw [CRel.bool hv (b := b) rfl, hb']; exact .inr ⟨rfl, rfl⟩)
          exact wp_cond_true (by rw [ans hs (b := b) rfl, hb']) (codeC_sound hE hcall f k x hk hr2)
        · have hb' : b = false := hb
          have hr2 := hr.refine (c' := .one .ff) hs (fun v hv => by rw [CRel.bool hv (b := b) rfl, hb']; exact .inr ⟨rfl, rfl⟩)
          exact wp_cond_false (by rw [ans hs (b := b) rfl, hb']) (codeC_sound hE hcall f k y hk hr2)
      · cases h
    · cases h
  | .block id b, R, K, r, pl, st, a, w, h, hr => by
    simp only [codeC] at h
    refine wp_block (wp_mono (codeC_sound hE hcall f k b h hr) fun e a' w' ⟨e', st', pl', he, hk, hr'⟩ => ?_)
    subst he
    cases e' with
    | normal => exact ⟨.normal, st', pl', rfl, hk, hr'⟩
    | exit id' =>
      simp only [exM, Exit.inBlock]
      simp only at hk
      cases hb : Nat.beq id' id with
      | true =>
        rw [hb] at hk
        have e := Nat.eq_of_beq_eq_true hb
        rw [if_pos e]
        exact ⟨.normal, st', pl', rfl, hk, hr'⟩
      | false =>
        rw [hb] at hk
        rw [if_neg (fun e => by subst e; simp at hb)]
        exact ⟨.exit id', st', pl', rfl, hk, hr'⟩
    | ret => exact ⟨.ret, st', pl', rfl, hk, hr'⟩
    | pan t => exact ⟨.pan t, st', pl', rfl, hk, hr'⟩
  | .loop b, R, K, r, pl, st, a, w, h, hr => by
    simp only [codeC] at h
    split at h
    · rename_i p xs hh
      split at h
      · rename_i x hx
        obtain ⟨z, hz, hk⟩ := loopC_some h
        obtain ⟨pl1, h1⟩ := fit_sound hE p.slots hr (os := p.os)
        have h2 := SP.mk_un h1 hx
        generalize hstep : (fun x => codeC P H call f k b (p.mk' x) fun e st => match e with
          | .normal => (p.un (fit p.os p.slots st)).map Sum.inl
          | e => (unX xs e st).map Sum.inr) = step at hz
        refine wp_loop_fuel (n := k) (fun n a w => ∃ x pl', iterC step n x = some z ∧ Rel E pl' (p.mk' x) a w) ⟨x, pl1, hz, h2⟩ (fun a w ⟨x, pl', h, _⟩ => by rw [iterC_zero] at h; cases h) (fun n a w ⟨x, pl', hi, hr⟩ => ?_)
        rw [iterC_succ] at hi
        split at hi
        · rename_i x' hs
          rw [← hstep] at hs
          refine wp_mono (codeC_sound hE hcall f k b hs hr) fun e a' w' ⟨e', st', pl2, he, hk2, hr2⟩ => ?_
          subst he
          cases e' with
          | normal =>
            obtain ⟨x2, hx2, e2⟩ := Option.map_eq_some_iff.1 hk2
            cases e2
            obtain ⟨pl3, h3⟩ := fit_sound hE p.slots hr2 (os := p.os)
            exact ⟨_, pl3, hi, SP.mk_un h3 hx2⟩
          | _ =>
            obtain ⟨x2, hx2, e2⟩ := Option.map_eq_some_iff.1 hk2
            cases e2
        · rename_i z' hs
          cases hi
          rw [← hstep] at hs
          refine wp_mono (codeC_sound hE hcall f k b hs hr) fun e a' w' ⟨e', st', pl2, he, hk2, hr2⟩ => ?_
          subst he
          cases e' with
          | normal =>
            obtain ⟨x2, hx2, e2⟩ := Option.map_eq_some_iff.1 hk2
            cases e2
          | exit id =>
            obtain ⟨x2, hx2, e2⟩ := Option.map_eq_some_iff.1 hk2
            cases e2
            exact onX_sound hE hx2 hk hr2
          | ret =>
            obtain ⟨x2, hx2, e2⟩ := Option.map_eq_some_iff.1 hk2
            cases e2
            exact onX_sound hE hx2 hk hr2
          | pan t =>
            obtain ⟨x2, hx2, e2⟩ := Option.map_eq_some_iff.1 hk2
            cases e2
            exact onX_sound hE hx2 hk hr2
        · cases hi
      · cases h
    · refine wp_loop_fuel (n := k) (fun n a w => ∃ st pl', unrollC (fun st K => codeC P H call f k b st K) n st K = some r ∧ Rel E pl' st a w) ⟨st, pl, h, hr⟩ (fun a w ⟨st, pl', h, _⟩ => by cases h) (fun n a w ⟨st, pl', hi, hr⟩ => ?_)
      simp only [unrollC] at hi
      refine wp_mono (codeC_sound hE hcall f k b hi hr) fun e a' w' ⟨e', st', pl2, he, hk2, hr2⟩ => ?_
      subst he
      cases e' with
      | normal => exact ⟨st', pl2, hk2, hr2⟩
      | exit id => exact ⟨.exit id, st', pl2, rfl, hk2, hr2⟩
      | ret => exact ⟨.ret, st', pl2, rfl, hk2, hr2⟩
      | pan t => exact ⟨.pan t, st', pl2, rfl, hk2, hr2⟩
  | .rangeFunc .., R, K, r, pl, st, a, w, h, hr => by simp [codeC] at h
  | .scope .., R, K, r, pl, st, a, w, h, hr => by simp [codeC] at h
  | .label .., R, K, r, pl, st, a, w, h, hr => by simp [codeC] at h
  | .goto .., R, K, r, pl, st, a, w, h, hr => by simp [codeC] at h
  | .refuse .., R, K, r, pl, st, a, w, h, hr => by simp [codeC] at h

end
end Go.AI
