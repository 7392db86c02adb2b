/-
  Contracts by shapes: what comes in and what goes out is plain; and how contracts make a table.
-/
import Derived.Test.YtcgpoabiloehnaaDoorBody
set_option linter.unusedVariables false
set_option linter.unusedSimpArgs false
namespace Go.AI
open Go

/-- arguments, and the objects that come with them -/
structure AP where
  args : List CP
  os : List (Key × OP)
@[reducible] def PayAs : List CP → Type
  | [] => Unit
  | p :: r => p.Pay × PayAs r
@[reducible] def AP.Pay (p : AP) : Type := PayAs p.args × PayOs p.os
def mkAs : (ps : List CP) → PayAs ps → List C
  | [], _ => []
  | p :: r, x => p.mk x.1 :: mkAs r x.2
def unAs : (ps : List CP) → List C → Option (PayAs ps)
  | [], [] => some ()
  | p :: r, c :: cs => match p.un c, unAs r cs with
    | some x, some y => some (x, y)
    | _, _ => none
  | _, _ => none
def AP.un (p : AP) (args : List C) (objs : Objs) : Option p.Pay := match unAs p.args args, unOs objs p.os with
  | some x, some y => some (x, y)
  | _, _ => none

/-- a contract that a function of plain values tells -/
def objC (ap : AP) (rp : RP) (g : ap.Pay → Option rp.Pay) : List C → Objs → Option Res := fun args objs =>
  (ap.un args objs).bind fun x => (g x).map fun y => .ret (rp.mk' y).1 (rp.mk' y).2

/-- a body, read -/
noncomputable def bodyT (P : Program) (H : Hints) (call : Call) (fid : FuncId) (f : Func) (k : Nat) (ap : AP) (rp : RP) (x : ap.Pay) : Option rp.Pay :=
  match f.body with
  | none => none
  | some c => codeC P H call fid k c ⟨mkAs ap.args x.1 ++ List.replicate (f.ntmps - ap.args.length) (.one .dead), mkOs ap.os x.2⟩ fun e st => match e with
    | .exit _ => none
    | .pan t => none
    | _ => match resC P st f.results.toList with
      | some r => rp.un (leave (some rp) st r).1 (leave (some rp) st r).2
      | none => none

section
variable {P : Program} {E : Env} {pl : Pl} {st : St} {a : Act} {w : World} {H : Hints} {call : Call} {objs : Objs} {ok : Nat → Prop}

theorem mkAs_len : ∀ {ps : List CP} {x : PayAs ps}, (mkAs ps x).length = ps.length
  | [], _ => rfl
  | p :: ps, x => by simp [mkAs, mkAs_len]
theorem mkAs_un {us : List Value} : ∀ {ps : List CP} {cs : List C} {x : PayAs ps} {us : List Value}, unAs ps cs = some x → All2 (CRel pl objs w ok) cs us → All2 (CRel pl objs w ok) (mkAs ps x) us
  | [], [], x, us, h, hl => by cases us with | nil => trivial | cons _ _ => exact hl.elim
  | [], _ :: _, _, _, h, _ => by simp [unAs] at h
  | _ :: _, [], _, _, h, _ => by simp [unAs] at h
  | p :: ps, c :: cs, x, [], h, hl => hl.elim
  | p :: ps, c :: cs, x, u :: us, h, hl => by
    simp only [unAs] at h
    split at h
    · rename_i x1 x2 h1 h2
      cases h
      exact ⟨CP.mk_un h1 hl.1, mkAs_un (us := us) h2 hl.2⟩
    · cases h

/-- what came in, in its shape -/
theorem AP.mk_un (hh : HeapR E pl objs w) {args : List C} {vs : List Value} (ha : All2 (CRel pl objs w (E.ok pl objs w)) args vs) {ap : AP} {x : ap.Pay} (hx : ap.un args objs = some x) :
    HeapR E pl (mkOs ap.os x.2) w ∧ All2 (CRel pl (mkOs ap.os x.2) w (E.ok pl (mkOs ap.os x.2) w)) (mkAs ap.args x.1) vs := by
  unfold AP.un at hx
  split at hx
  · rename_i x1 x2 h1 h2
    cases hx
    obtain ⟨h3, h4⟩ := hh.weaken (objs' := mkOs ap.os x2) (fun k ob' ho => look_mkOs h2 ho)
    exact ⟨h3, mkAs_un (us := vs) h1 (ha.imp fun c y hc => hc.id h4)⟩
  · cases hx

/-- a result, in its shape -/
theorem RP.mk_un (hh : HeapR E pl objs w) {c : C} {v : Value} (hc : CRel pl objs w (E.ok pl objs w) c v) {rp : RP} {y : rp.Pay} (hy : rp.un c objs = some y) :
    HeapR E pl (rp.mk' y).2 w ∧ CRel pl (rp.mk' y).2 w (E.ok pl (rp.mk' y).2 w) (rp.mk' y).1 v := by
  unfold RP.un at hy
  split at hy
  · rename_i x1 x2 h1 h2
    cases hy
    obtain ⟨h3, h4⟩ := hh.weaken (objs' := mkOs rp.os x2) (fun k ob' ho => look_mkOs h2 ho)
    exact ⟨h3, (CP.mk_un h1 hc).id h4⟩
  · cases hy

/-- THE LAW: a reading of a body is a contract -/
theorem bodyT_sound {G : World → Prop} {lo : Nat} (hcall : ∀ g, Snd P G lo g (call g)) {f : FuncId} {fn : Func} (hf : P.funcs[f]? = some fn) (hname : (fn.name == "runtime.NumGoroutine") = false)
    {ap : AP} {rp : RP} {g : ap.Pay → Option rp.Pay} (hg : ∀ x y, g x = some y → ∃ k, bodyT P H call f fn k ap rp x = some y) : Snd P G lo f (objC ap rp g) := by
  intro E pl w args objs vs r hE eG eL e0 eP eO hh ha hr
  unfold objC at hr
  obtain ⟨x, hx, hr⟩ := Option.bind_eq_some_iff.1 hr
  obtain ⟨y, hy, rfl⟩ := Option.map_eq_some_iff.1 hr
  obtain ⟨k, hk⟩ := hg x y hy
  obtain ⟨hh', ha'⟩ := AP.mk_un hh ha hx
  unfold bodyT at hk
  split at hk
  · cases hk
  · rename_i c hb
    refine ⟨⟨fn, hf, by rw [hb]; rfl, hname⟩, calls_of_wp hf hb ?_⟩
    subst eG
    subst eL
    have hlen : vs.size = ap.args.length := by rw [← mkAs_len (x := x.1), ha'.length]; simp
    have hrel : Rel E pl ⟨mkAs ap.args x.1 ++ List.replicate (fn.ntmps - ap.args.length) (.one .dead), mkOs ap.os x.2⟩ { tmps := vs ++ Array.replicate (fn.ntmps - vs.size) undef, defers := [] } w :=
      ⟨rfl, by
        simp only [Array.toList_append, Array.toList_replicate, hlen]
        exact ha'.append (All2.replicate _ (.inl rfl)), hh'⟩
    refine wp_mono (codeC_sound hE hcall f k c hk hrel) fun e a' w' ⟨e', st', pl', he, hk', hr'⟩ => ?_
    subst he
    have fin : (match resC P st' fn.results.toList with
        | some r => rp.un (leave (some rp) st' r).1 (leave (some rp) st' r).2
        | none => none) = some y → ∃ v, (results fn a'.tmps).run P w' = .ok v w' ∧ EndR E (.ret (rp.mk' y).1 (rp.mk' y).2) (.returned v) w' := by
      intro h0
      split at h0
      · rename_i c0 hc0
        obtain ⟨v, hv, hcv⟩ := resC_sound hr' hc0
        obtain ⟨pl2, h2, h3⟩ := leave_sound hE hr' hcv (some rp)
        obtain ⟨h4, h5⟩ := RP.mk_un h2 h3 h0
        exact ⟨v, hv, v, pl2, rfl, h4, h5⟩
      · cases h0
    cases e' with
    | normal =>
      obtain ⟨v, hv, hend⟩ := fin hk'
      exact ⟨hr'.defers, v, hv, hend⟩
    | ret =>
      obtain ⟨v, hv, hend⟩ := fin hk'
      exact ⟨hr'.defers, v, hv, hend⟩
    | exit id => cases hk'
    | pan t => cases hk'

/-! ### tables of contracts -/
abbrev Tab := FuncId → Option (List C → Objs → Option Res)
def callT (T : Tab) : Call := fun f args objs => match T f with
  | some p => p args objs
  | none => none
def TSnd (P : Program) (G : World → Prop) (lo : Nat) (T : Tab) : Prop := ∀ f p, T f = some p → Snd P G lo f p
def noTab : Tab := fun _ => none
def addT (f : FuncId) (p : List C → Objs → Option Res) (T : Tab) : Tab := fun g => bif Nat.beq f g then some p else T g

theorem TSnd.none {G : World → Prop} {lo : Nat} : TSnd P G lo noTab := fun _ _ h => by cases h
theorem TSnd.add {G : World → Prop} {lo : Nat} {T : Tab} {f : FuncId} {p : List C → Objs → Option Res} (hp : Snd P G lo f p) (hT : TSnd P G lo T) : TSnd P G lo (addT f p T) := by
  intro g q h
  unfold addT at h
  cases hb : Nat.beq f g with
  | true =>
    rw [hb] at h
    cases h
    rw [← Nat.eq_of_beq_eq_true hb]
    exact hp
  | false =>
    rw [hb] at h
    exact hT g q h
theorem TSnd.all {G : World → Prop} {lo : Nat} {T : Tab} (h : TSnd P G lo T) (f : FuncId) : Snd P G lo f (callT T f) := by
  intro E pl w args objs vs r hE eG eL e0 eP eO hh ha hr
  unfold callT at hr
  split at hr
  · rename_i p hp
    exact h f p hp E pl w args objs vs r hE eG eL e0 eP eO hh ha hr
  · cases hr

/-- functions by a table, or by their bodies -/
theorem denF_sound {G : World → Prop} {lo : Nat} {T : Tab} (hT : TSnd P G lo T) : ∀ (k : Nat) (f : FuncId), Snd P G lo f (denF P H T k f)
  | 0, f => by
    intro E pl w args objs vs r hE eG eL e0 eP eO hh ha hr
    cases hr
  | k + 1, f => by
    intro E pl w args objs vs r hE eG eL e0 eP eO hh ha hr
    simp only [denF] at hr
    split at hr
    · rename_i p hp
      exact hT f p hp E pl w args objs vs r hE eG eL e0 eP eO hh ha hr
    · split at hr
      · rename_i fn hf
        cases hn : (fn.name == "runtime.NumGoroutine") with
        | true => rw [hn] at hr; cases hr
        | false =>
          rw [hn] at hr
          simp only [cond_false] at hr
          exact body_sound (p := fun args objs => bodyC P H (denF P H T k) f fn k args objs) (denF_sound hT k) hf hn (fun args objs r h => ⟨k, h⟩) E pl w args objs vs r hE eG eL e0 eP eO hh ha hr
      · cases hr

/-- a contract may be told with less, or in other words -/
theorem Snd.weaken {G : World → Prop} {lo : Nat} {f : FuncId} {p q : List C → Objs → Option Res} (h : Snd P G lo f p) (hq : ∀ args objs r, q args objs = some r → p args objs = some r) : Snd P G lo f q :=
  fun E pl w args objs vs r hE eG eL e0 eP eO hh ha hr => h E pl w args objs vs r hE eG eL e0 eP eO hh ha (hq _ _ _ hr)

/-! ### calls, looked at -/
theorem castV_self {s : Sh} {x : Val s} : castV s s x = some x := by simp [castV]
theorem LP.un_mk {p : LP} {x : p.Pay} : p.un (p.mk x) = some x := by
  cases p <;> simp [LP.mk, LP.un, keyB_iff.2]
  rename_i s
  cases s <;> simp [LP.un, castV_self]
theorem unLs_mk : ∀ {ps : List LP} {x : PayLs ps}, unLs ps (mkLs ps x) = some x
  | [], _ => rfl
  | p :: r, x => by simp [mkLs, unLs, LP.un_mk, unLs_mk]
theorem unCs_mk : ∀ {ps : List (Bool × List LP)} {x : PayCs ps}, unCs ps (mkCs ps x) = some x
  | [], _ => rfl
  | p :: r, x => by simp [mkCs, unCs, unLs_mk, unCs_mk]
theorem CP.un_mk {p : CP} {x : p.Pay} : p.un (p.mk x) = some x := by
  cases p with
  | one l => simp [CP.mk, CP.un, LP.un_mk]
  | agg ls => simp [CP.mk, CP.un, unLs_mk]
  | tup cs => simp [CP.mk, CP.un, unCs_mk]
theorem OP.un_mk {p : OP} {x : p.Pay} : p.un (p.mk x) = some x := by
  cases p with
  | cells ls => simp [OP.mk, OP.un, unLs_mk]
  | slice s => simp [OP.mk, OP.un, castV_self]
  | clo g f c => simp [OP.mk, OP.un, unCs_mk, unLs_mk]
theorem unOs_mk : ∀ {ps : List (Key × OP)} {x : PayOs ps} {o : Objs}, (∀ k ob, lookO (mkOs ps x) k = some ob → lookO o k = some ob) → apartK (ps.map (·.1)) = true → unOs o ps = some x
  | [], _, _, _, _ => rfl
  | p :: ps, x, o, ho, ha => by
    simp only [List.map_cons, apartK, Bool.and_eq_true, Bool.not_eq_true'] at ha
    have h1 := ho p.1 (p.2.mk x.1) (by simp [mkOs, lookO, keyB_iff.2])
    have h2 : unOs o ps = some x.2 := unOs_mk (fun k ob hk => ho k ob (by
      have hne : keyB p.1 k = false := by
        cases hb : keyB p.1 k with
        | false => rfl
        | true =>
          exfalso
          have e := keyB_iff.1 hb
          subst e
          have : ((ps.map (·.1)).any (keyB p.1)) = true := by
            clear ho h1
            induction ps with
            | nil => simp [mkOs, lookO] at hk
            | cons q qs ih =>
              simp only [mkOs, lookO] at hk
              cases hq : keyB q.1 p.1 with
              | true =>
                have := keyB_iff.1 hq
                simp [this, keyB_iff.2]
              | false =>
                rw [hq] at hk
                simp only [cond_false] at hk
                simp only [List.map_cons, apartK, Bool.and_eq_true, List.any_cons, Bool.or_eq_false_iff] at ha
                have := ih (x := (x.1, x.2.2)) ⟨ha.1.2, ha.2.2⟩ hk
                simp only [List.map_cons, List.any_cons, this, Bool.or_true]
          rw [this] at ha
          cases ha.1
      simp only [mkOs, lookO, hne, cond_false]
      exact hk)) ha.2
    have h3 : p.2.un (p.2.mk x.1) = some x.1 := OP.un_mk
    simp only [unOs, h1, h3, h2]
theorem RP.un_mk {p : RP} {x : p.Pay} (ha : apartK (p.os.map (·.1)) = true) : p.un (p.mk' x).1 (p.mk' x).2 = some x := by
  have h1 : p.c.un (p.mk' x).1 = some x.1 := CP.un_mk
  have h2 : unOs (p.mk' x).2 p.os = some x.2 := unOs_mk (fun k ob h => h) ha
  simp only [RP.un, h1, h2]
/-- a call of a function whose contract is told by plain values -/
theorem callC_obj {R : Type} {ap : AP} {rp : RP} {g : ap.Pay → Option rp.Pay} {args : List C} {o : Objs} {K : rp.Pay → Option R} (ha : apartK (rp.os.map (·.1)) = true) :
    callC rp (objC ap rp g args o) K = ((ap.un args o).bind g).bind K := by
  unfold callC objC
  cases ap.un args o with
  | none => rfl
  | some x =>
    simp only [Option.bind_some]
    cases g x with
    | none => rfl
    | some y => simp only [Option.map_some, Option.bind_some, RP.un_mk ha]

end
end Go.AI
