/-
  Regions whose order is drawn: the abstract run tells what every order does.
-/
import Derived.Test.YtcgpoabiloehnaaDoorDraw
set_option linter.unusedVariables false
set_option linter.unusedSimpArgs false
namespace Go.AI
open Go

/-! ### what only adds to memory; what asks no memory -/
def Adds {α : Type} : Sem α → Prop
  | .pure _ => True
  | .halt _ => True
  | .load _ _ k => ∀ v, Adds (k v)
  | .shape _ k => ∀ s, Adds (k s)
  | .frozen _ k => ∀ b, Adds (k b)
  | .getObj _ k => ∀ o, Adds (k o)
  | .program k => ∀ p, Adds (k p)
  | .mark _ k => Adds k
  | .new _ k => ∀ r, Adds (k r)
  | .choose _ k => ∀ n, Adds (k n)
  | .store _ _ _ _ => False
  | .freeze _ _ _ => False
  | .setObj _ _ _ => False
  | .sys _ _ => False

theorem Adds.bind' {α β : Type} {x : Sem α} {f : α → Sem β} (hx : Adds x) (hf : ∀ a, Adds (f a)) : Adds (x.bind f) := by
  induction x with
  | pure a => exact hf a
  | halt h => exact trivial
  | load m a k ih => exact fun v => ih v (hx v)
  | shape r k ih => exact fun s => ih s (hx s)
  | frozen a k ih => exact fun b => ih b (hx b)
  | getObj r k ih => exact fun o => ih o (hx o)
  | program k ih => exact fun p => ih p (hx p)
  | new o k ih => exact fun p => ih p (hx p)
  | choose q k ih => exact fun p => ih p (hx p)
  | mark m k ih => exact ih hx
  | store m a v k _ => exact hx.elim
  | freeze a n k _ => exact hx.elim
  | setObj r o k _ => exact hx.elim
  | sys c k _ => exact hx.elim
theorem Adds.bind {α β : Type} {x : Sem α} {f : α → Sem β} (hx : Adds x) (hf : ∀ a, Adds (f a)) : Adds (x >>= f) := hx.bind' hf

theorem Grows.push (w : World) (o : Go.Obj) : Grows w { w with heap := w.heap.push o } :=
  ⟨by simp, fun i hi => by simp [Array.getElem?_push, Nat.ne_of_lt hi]⟩

theorem Adds.grows {α : Type} {P : Program} {x : Sem α} (hx : Adds x) : ∀ {w w' : World} {a : α}, x.run P w = .ok a w' → Grows w w' := by
  induction x with
  | pure a => intro w w' b h; cases h; exact Grows.refl w
  | halt h => intro w w' b h; cases h
  | load m a k ih =>
    intro w w' b h
    simp only [Sem.run] at h
    split at h
    · exact ih _ (hx _) h
    · split at h
      · exact ih _ (hx _) h
      · cases h
  | shape r k ih => intro w w' b h; exact ih _ (hx _) h
  | frozen a k ih => intro w w' b h; exact ih _ (hx _) h
  | getObj r k ih =>
    intro w w' b h
    simp only [Sem.run] at h
    split at h
    · cases h
    · exact ih _ (hx _) h
    · cases h
  | program k ih => intro w w' b h; exact ih _ (hx _) h
  | new o k ih => intro w w' b h; exact (Grows.push w o).trans (ih _ (hx _) h)
  | choose q k ih =>
    intro w w' b h
    simp only [Sem.run] at h
    split at h
    · exact ih _ (hx _) h
    · have h1 : Grows { w with drawn := w.drawn + 1 } w' := ih _ (hx _) h
      exact h1
  | mark m k ih => intro w w' b h; exact ih hx h
  | store m a v k _ => exact hx.elim
  | freeze a n k _ => exact hx.elim
  | setObj r o k _ => exact hx.elim
  | sys c k _ => exact hx.elim

def Fixed {α : Type} : Sem α → Prop
  | .pure _ => True
  | .halt _ => True
  | .program k => ∀ p, Fixed (k p)
  | .mark _ k => Fixed k
  | _ => False

theorem Fixed.bind' {α β : Type} {x : Sem α} {f : α → Sem β} (hx : Fixed x) (hf : ∀ a, Fixed (f a)) : Fixed (x.bind f) := by
  induction x with
  | pure a => exact hf a
  | halt h => exact trivial
  | program k ih => exact fun p => ih p (hx p)
  | mark m k ih => exact ih hx
  | _ => exact hx.elim
theorem Fixed.bind {α β : Type} {x : Sem α} {f : α → Sem β} (hx : Fixed x) (hf : ∀ a, Fixed (f a)) : Fixed (x >>= f) := hx.bind' hf

theorem Fixed.same {α : Type} {P : Program} {x : Sem α} (hx : Fixed x) {w w1 : World} {a : α} (w' : World) (h : x.run P w = .ok a w1) : x.run P w' = .ok a w' := by
  induction x with
  | pure b => cases h; rfl
  | halt b => cases h
  | program k ih => exact ih _ (hx _) h
  | mark m k ih => exact ih hx h
  | _ => exact hx.elim

theorem pure_adds {α : Type} (a : α) : Adds (pure a : Sem α) := trivial
theorem program_adds : Adds (program : Sem Program) := fun _ => trivial
theorem typeInfo_adds (t : TypeId) : Adds (typeInfo t) := by
  unfold typeInfo
  refine program_adds.bind fun p => ?_
  split <;> trivial
theorem underlying_adds (t : TypeId) : Adds (underlying t) := by
  unfold underlying
  refine program_adds.bind fun p => ?_
  split <;> trivial
theorem sizeOf_adds (t : TypeId) : Adds (sizeOf t) := (typeInfo_adds t).bind fun _ => trivial
theorem zeroValue_adds (t : TypeId) : Adds (zeroValue t) := by
  unfold zeroValue
  refine (typeInfo_adds t).bind fun i => ?_
  split <;> trivial
theorem newRow_adds (t : TypeId) (cs : Array Value) : Adds (newRow t cs) := fun _ => trivial
theorem askRoom_adds (n : Nat) : Adds (askRoom n) := by
  unfold askRoom
  split <;> trivial
theorem asInt_adds (v : Value) : Adds (asInt v) := by
  unfold asInt asIntOf
  refine Adds.bind ?_ fun _ => trivial
  split <;> trivial

theorem alloc_adds (t : TypeId) (v : Value) : Adds (Instr.alloc t true v) := by
  unfold Instr.alloc
  refine (zeroValue_adds t).bind fun z => ?_
  split
  · rename_i h; cases h
  · exact (newRow_adds _ _).bind fun _ => trivial
theorem box_adds (t : TypeId) (v : Value) : Adds (Instr.box t v) := (newRow_adds _ _).bind fun _ => trivial
theorem halt_adds {α : Type} (h : Halt) : Adds (.halt h : Sem α) := trivial
theorem choose_adds (q : Question) : Adds (choose q) := fun _ => trivial
theorem buildSlice_adds (t : TypeId) (n : Nat) (ps : Array (Nat × Value)) : Adds (Instr.buildSlice t n ps) := by
  unfold Instr.buildSlice
  dsimp only
  repeat' first
    | exact pure_adds _
    | exact halt_adds _
    | exact underlying_adds _
    | exact sizeOf_adds _
    | exact zeroValue_adds _
    | exact newRow_adds _ _
    | refine Adds.bind ?_ fun _ => ?_
    | split
theorem makeSlice_adds (t : TypeId) (n c : Value) : Adds (Instr.makeSlice t n c) := by
  unfold Instr.makeSlice
  dsimp only
  repeat' first
    | exact pure_adds _
    | exact halt_adds _
    | exact underlying_adds _
    | exact sizeOf_adds _
    | exact typeInfo_adds _
    | exact zeroValue_adds _
    | exact newRow_adds _ _
    | exact askRoom_adds _
    | exact asInt_adds _
    | exact choose_adds _
    | exact program_adds
    | refine Adds.bind ?_ fun _ => ?_
    | split

/-- what is made lies above all that was there -/
def FreshS (s : Sem Value) : Prop := ∀ (P : Program) (N : Nat) (w w' : World) (v : Value), N ≤ w.heap.size → s.run P w = .ok v w' → FreshV N v
theorem FreshS.bind {α : Type} {x : Sem α} {f : α → Sem Value} (hx : Adds x) (hf : ∀ a, FreshS (f a)) : FreshS (x >>= f) := by
  intro P N w w' v hN h
  rw [Sem.run_bind] at h
  generalize hr : x.run P w = res at h
  cases res with
  | ok a w1 => exact hf a P N w1 w' v (Nat.le_trans hN (hx.grows hr).1) h
  | halt a w1 => cases h
theorem FreshS.halt (h : Halt) : FreshS (.halt h) := fun P N w w' v _ hr => by cases hr
theorem FreshS.row (e : TypeId) (cs : Array Value) (n m : Nat) : FreshS (do pure (.slice (some (← newRow e cs)) n m)) := fun P N w w' v hN hr => by
  have : v = .slice (some ⟨w.heap.size, 0, none⟩) n m := by
    cases hr; rfl
  rw [this]
  exact hN
theorem buildSlice_fresh (t : TypeId) (n : Nat) (ps : Array (Nat × Value)) : FreshS (Instr.buildSlice t n ps) := by
  unfold Instr.buildSlice
  dsimp only
  repeat' first
    | exact FreshS.halt _
    | exact FreshS.row _ _ _ _
    | exact pure_adds _
    | exact halt_adds _
    | exact underlying_adds _
    | exact sizeOf_adds _
    | exact zeroValue_adds _
    | exact newRow_adds _ _
    | refine FreshS.bind ?_ fun _ => ?_
    | refine Adds.bind ?_ fun _ => ?_
    | split

theorem build_fixed (t : TypeId) (ps : Array (Nat × Value)) : Fixed (Instr.build t ps) := by
  have hT : ∀ t, Fixed (typeInfo t) := fun t => by
    unfold typeInfo
    exact Fixed.bind (fun _ => trivial) fun p => by split <;> trivial
  have hU : Fixed (underlying t) := by
    unfold underlying
    exact Fixed.bind (fun _ => trivial) fun p => by split <;> trivial
  have hM : ∀ {A B : Type} (f : A → Sem B), (∀ a, Fixed (f a)) → ∀ l : List A, Fixed (l.mapM f) := by
    intro A B f hf l
    induction l with
    | nil => simp only [List.mapM_nil]; trivial
    | cons a l ih =>
      simp only [List.mapM_cons]
      exact (hf a).bind fun _ => ih.bind fun _ => trivial
  unfold Instr.build
  refine Fixed.bind ?_ fun z => ?_
  · unfold zeroValue
    exact (hT t).bind fun i => by split <;> trivial
  · refine hU.bind fun u => ?_
    split
    · rename_i fs
      refine Fixed.bind ?_ fun ps => ?_
      · obtain ⟨l⟩ := fs
        simp only [List.mapM_toArray]
        refine Fixed.bind (hM _ (fun f => Fixed.bind (show Fixed (sizeOf f.type) from Fixed.bind (hT _) fun _ => ?_) fun _ => ?_) l) fun _ => ?_ <;> trivial
      · split <;> trivial
    · refine Fixed.bind (show Fixed (sizeOf _) from Fixed.bind (hT _) fun _ => ?_) fun s => ?_
      · trivial
      · split <;> trivial
    · trivial

section
variable {P : Program} {E : Env} {pl : Pl} {st : St} {a : Act} {w : World} {H : Hints} {call : Call}

theorem wp_grows {o : Oper} {K : Act → World → Prop} {Q : Exit → Act → World → Prop} (h2 : ∀ n w', (execOp a.eval o).run P w = .ok n w' → Grows w w' ∧ ∃ v, n = .value v)
    (h1 : o.wp P a w K Q) : o.wp P a w (fun a' w' => K a' w' ∧ Grows w w') Q := by
  unfold Oper.wp at *
  generalize hr : (execOp a.eval o).run P w = res at h1 h2 ⊢
  cases res with
  | ok n w' =>
    obtain ⟨g, v, rfl⟩ := h2 n w' rfl
    exact ⟨h1, g⟩
  | halt x w' => cases x <;> exact h1

theorem Adds.next {s : Sem Value} (hs : Adds s) {n : Next} {w' : World} (h : (do pure (Next.value (← s)) : Sem Next).run P w = .ok n w') : Grows w w' ∧ ∃ v, n = .value v := by
  rw [Sem.run_bind] at h
  generalize hr : s.run P w = res at h
  cases res with
  | ok v w1 =>
    cases h
    exact ⟨hs.grows hr, v, rfl⟩
  | halt x w1 => cases h

theorem Fixed.adds {α : Type} {x : Sem α} (hx : Fixed x) : Adds x := by
  induction x with
  | pure a => trivial
  | halt b => trivial
  | program k ih => exact fun p => ih p (hx p)
  | mark m k ih => exact ih hx
  | _ => exact hx.elim

theorem opC_soundG (hE : E.Good) (hcall : ∀ f, Snd P E.G E.lo f (call f))
    {R : Type} {K : C → St → Option R} {X : TypeId → St → Option R} {r : R} (h : Rel E pl st a w) {f : FuncId} {o : Oper} (hc : opC P H call f (o.dst.getD 0) st K X o.op = some r)
    (hg : growsB H st o.op = true) : o.wp P a w (fun a' w' => OpOut E K r o a a' w' ∧ Grows w w') (OpPan E X r) := by
  have h1 := opC_sound hE hcall h hc
  have rd : readOp P st (fun c => K c st) o.op = some r → o.wp P a w (fun a' w' => OpOut E K r o a a' w' ∧ Grows w w') (OpPan E X r) := fun hr => by
    obtain ⟨c, v, _, _, hrun⟩ := readOp_sound (P := P) h hr
    refine wp_grows (fun n w' hn => ?_) h1
    rw [hrun w (fun _ _ _ => rfl)] at hn
    cases hn
    exact ⟨Grows.refl w, v, rfl⟩
  obtain ⟨dst, op, type, pos, after, guard⟩ := o
  simp only at hc hg rd
  cases op with
  | assign x => exact wp_grows (fun n w' hr => by cases hr; exact ⟨Grows.refl w, _, rfl⟩) h1
  | build t ps => exact wp_grows (fun n w' hr => Adds.next (build_fixed t _).adds hr) h1
  | move x => exact rd hc
  | pick x y z => exact rd hc
  | load x y => exact rd hc
  | nilCheck x => exact rd hc
  | binOp op t x y z => exact rd hc
  | unOp op t x => exact rd hc
  | convert s d x => exact rd hc
  | fieldAddr s x i => exact rd hc
  | field s x i => exact rd hc
  | indexAddr t x i => exact rd hc
  | index t x i => exact rd hc
  | makeInterface t x => exact rd hc
  | extract t i => exact rd hc
  | slice t x lo hi mx =>
    cases mx with
    | some mx => cases hg
    | none =>
      simp only [growsB] at hg
      split at hg
      · rename_i s xs he
        refine rd ?_
        unfold opC at hc
        simp only [he] at hc
        exact hc
      · cases hg
  | alloc t => exact wp_grows (fun n w' hr => Adds.next (alloc_adds _ _) hr) h1
  | box t x => exact wp_grows (fun n w' hr => Adds.next (box_adds _ _) hr) h1
  | buildSlice t n ps => exact wp_grows (fun n w' hr => Adds.next (buildSlice_adds _ _ _) hr) h1
  | makeSlice t n c => exact wp_grows (fun n w' hr => Adds.next (makeSlice_adds _ _ _) hr) h1
  | makeFunc g first caps =>
    cases g with
    | func g => exact wp_grows (fun n w' hr => Adds.next (s := Instr.makeFunc (.func g) (first.map a.eval) (caps.map a.eval)) (by simp only [Instr.makeFunc]; exact pure_adds _) hr) h1
    | _ => cases hg
  | panic x => 
    unfold opC at hc
    simp only at hc
    split at hc
    · rename_i t ht
      have hx := h.eval x
      rw [ht] at hx
      have hv : a.eval x = .iface t (.agg #[]) := (LR.one' hx (by simp)).2
      refine wp_grows (fun n w' hr => ?_) h1
      have : (execOp a.eval { dst := dst, op := Op.panic x, type := type, pos := pos, after := after, guard := guard }).run P w = .halt (.panic (.iface t (.agg #[]))) w := by
        simp [execOp, hv, Instr.panic]
      rw [this] at hr
      cases hr
    · cases hc
  | call c =>
    simp only [growsB] at hg
    split at hg
    case h_2 => cases hg
    case h_4 => cases hg
    case h_3 =>
      rename_i b hb hx
      refine rd ?_
      unfold opC at hc
      simp only [hx] at hc
      cases b <;> first | exact hc | exact absurd rfl hb | exact (hb hx).elim
    rename_i x hx
    unfold opC at hc
    simp only [hx] at hc
    exact Oper.wp_mono (fun a' w' hh => ⟨hh.1, hh.2 hg⟩) (callV_soundG hE hcall h (o := { dst := dst, op := Op.call c, type := type, pos := pos, after := after, guard := guard }) rfl hx hc)
  | _ => cases hg

/-- a slice that is built -/
theorem buildSl_sound (hE : E.Good) (hcall : ∀ f, Snd P E.G E.lo f (call f))
    {R : Type} {K : C → St → Option R} {X : TypeId → St → Option R} {r : R} (h : Rel E pl st a w) {f : FuncId} {o : Oper} (hc : opC P H call f (o.dst.getD 0) st K X o.op = some r)
    (hb : isBuildSl o.op = true) : o.wp P a w (fun a' w' => OpOut E K r o a a' w' ∧ Grows w w' ∧ ∀ N, N ≤ w.heap.size → ∃ v, a' = a.put o.dst v ∧ FreshV N v) (OpPan E X r) := by
  have h1 := opC_sound hE hcall h hc
  obtain ⟨dst, op, type, pos, after, guard⟩ := o
  cases op with
  | buildSlice t n ps =>
    have hs : execOp a.eval { dst := dst, op := Op.buildSlice t n ps, type := type, pos := pos, after := after, guard := guard } = (do pure (Next.value (← Instr.buildSlice t n (ps.map fun (i, x) => (i, a.eval x)))) : Sem Next) := rfl
    unfold Oper.wp at *
    rw [hs] at h1 ⊢
    rw [Sem.run_bind] at h1 ⊢
    generalize hr : (Instr.buildSlice t n (ps.map fun (i, x) => (i, a.eval x))).run P w = res at h1 ⊢
    cases res with
    | ok v w' => exact ⟨h1, (buildSlice_adds _ _ _).grows hr, fun N hN => ⟨v, rfl, buildSlice_fresh _ _ _ P N w w' v hN hr⟩⟩
    | halt x w' => cases x <;> exact h1
  | _ => cases hb

theorem runA_sound (hE : E.Good) {R : Type} {K : C → St → Option R} {r : R} (h : Rel E pl st a w) {o : Oper} {dst : Nat} (hc : runA P dst st K o.op = some r) :
    ∃ v c pl' st', K c st' = some r ∧ Rel E pl' st' a w ∧ CRel pl' st'.objs w (E.ok pl' st'.objs w) c v ∧ ∀ w', (isLoad o.op = true → Grown w w') → (execOp a.eval o).run P w' = .ok (.value v) w' := by
  have read : readOp P st (fun c => K c st) o.op = some r → ∃ v c pl' st', K c st' = some r ∧ Rel E pl' st' a w ∧ CRel pl' st'.objs w (E.ok pl' st'.objs w) c v ∧ ∀ w', (isLoad o.op = true → Grown w w') → (execOp a.eval o).run P w' = .ok (.value v) w' := fun hr => by
    obtain ⟨c, v, hk, hv, hrun⟩ := readOp_sound (P := P) h hr
    exact ⟨v, c, pl, st, hk, h, hv, hrun⟩
  obtain ⟨dst', op, type, pos, after, guard⟩ := o
  simp only at hc read
  unfold runA at hc
  split at hc
  · rename_i x
    obtain ⟨pl', c, st', hk, hr, hv⟩ := assignOp_sound hE h (h.eval x) hc
    exact ⟨a.eval x, c, pl', st', hk, hr, hv, fun w' _ => rfl⟩
  · rename_i t parts
    have hp : All2 (fun (p : Nat × C) (q : Nat × Value) => p.1 = q.1 ∧ CRel pl st.objs w (E.ok pl st.objs w) p.2 q.2) (parts.toList.map fun p => (p.1, evalO st.α p.2)) (parts.map fun (i, x) => (i, a.eval x)).toList := by
      rw [Array.toList_map]
      generalize parts.toList = l
      induction l with
      | nil => exact trivial
      | cons p r ih => exact ⟨⟨rfl, h.eval p.2⟩, ih⟩
    obtain ⟨v, hr, pl', c, st', hk, hrel, hv⟩ := buildOp_sound (P := P) h hp hc
    exact ⟨v, c, pl', st', hk, hrel, hv, fun w' _ => run_next ((build_fixed t _).same w' hr)⟩
  · exact read hc

/-- the slots that are known to hold what is new; does the heap stand as at the beginning? -/
structure Inv (N : Nat) (z pf : Bool) (ds : List Nat) (a : Act) (w : World) : Prop where
  z : z = true → w.heap.size = N
  pf : pf = true → N ≤ w.heap.size ∧ ∀ d ∈ ds, FreshV N (a.tmps.getD d undef)

theorem beq_no {i j : Nat} (h : j ≠ i) : Nat.beq j i = false := by
  cases hb : Nat.beq j i with
  | false => rfl
  | true => exact absurd (Nat.eq_of_beq_eq_true hb) h
theorem put_other {a : Act} {dst : Option Nat} {v : Value} {d : Nat} (h : ∀ e, dst = some e → d ≠ e) : (a.put dst v).tmps.getD d undef = a.tmps.getD d undef := by
  cases dst with
  | none => rfl
  | some e => simp [Act.put, Array.getD_eq_getD_getElem?, Array.getElem?_setIfInBounds_ne (Ne.symm (h e rfl))]
theorem put_self {N : Nat} {a : Act} {v : Value} {d : Nat} (h : FreshV N v) : FreshV N ((a.put (some d) v).tmps.getD d undef) := by
  simp only [Act.put, Array.getD_eq_getD_getElem?, Array.getElem?_setIfInBounds]
  by_cases hd : d < a.tmps.size
  · simpa [hd] using h
  · simp [hd]; trivial
theorem dropN_mem {ds : List Nat} {dst : Option Nat} {d : Nat} (h : d ∈ dropN ds dst) : d ∈ ds ∧ ∀ e, dst = some e → d ≠ e := by
  cases dst with
  | none => exact ⟨h, fun e he => by cases he⟩
  | some e =>
    simp only [dropN, List.mem_filter, Bool.not_eq_true'] at h
    exact ⟨h.1, fun e' he => by cases he; intro hd; subst hd; simp at h⟩
theorem Inv.drop {N : Nat} {z pf : Bool} {ds : List Nat} (h : Inv N z pf ds a w) (dst : Option Nat) (v : Value) {w' : World} (hz : z = true → w' = w) (hw : pf = true → N ≤ w'.heap.size) : Inv N z pf (dropN ds dst) (a.put dst v) w' where
  z := fun hz' => by rw [hz hz']; exact h.z hz'
  pf := fun hp => ⟨hw hp, fun d hd => by
    obtain ⟨h1, h2⟩ := dropN_mem hd
    rw [put_other h2]
    exact (h.pf hp).2 d h1⟩
theorem Inv.next {N : Nat} {z pf : Bool} {ds : List Nat} (h : Inv N z pf ds a w) (o : Oper) (v : Value) {w' : World} (hw : pf = true → N ≤ w'.heap.size) (hv : pf = true → (isBuildSl o.op || freshApp ds o.op) = true → FreshV N v) :
    Inv N false pf (nextDs ds o) (a.put o.dst v) w' where
  z := fun e => by cases e
  pf := fun hp => ⟨hw hp, fun d hd => by
    unfold nextDs at hd
    cases hdst : o.dst with
    | none =>
      rw [hdst] at hd
      exact (h.pf hp).2 d hd
    | some e =>
      rw [hdst] at hd
      simp only at hd
      cases hb : (isBuildSl o.op || freshApp ds o.op) with
      | true =>
        rw [hb] at hd
        by_cases hde : d = e
        · subst hde
          exact put_self (hv hp hb)
        · rw [put_other (fun e' he => by cases he; exact hde)]
          rcases List.mem_cons.1 hd with hd | hd
          · exact absurd hd hde
          · exact (h.pf hp).2 d hd
      | false =>
        rw [hb] at hd
        simp only [cond_false] at hd
        obtain ⟨h1, h2⟩ := dropN_mem hd
        rw [put_other h2]
        exact (h.pf hp).2 d h1⟩

theorem stepA_sound (hE : E.Good) {N : Nat} {z : Bool} {R : Type} {K : St → Option R} {r : R} (h : Rel E pl st a w) {ops : Array Oper} {o : Oper} (hz : z = true → w.heap.size = N) (hc : stepA P ops.toList o st K = some r) :
    ∃ v st' pl', K st' = some r ∧ Rel E pl' st' (a.put o.dst v) w ∧ Stable N z P ops o v a w := by
  have hgr : ∀ w', RL N z w w' → Grown w w' := fun w' hg => by
    cases z with
    | false => exact hg.2
    | true =>
      have hN := hz rfl
      intro b hb
      exact (hg (by omega)).2 b (by omega)
  obtain ⟨st', h', hh⟩ := stepWith_sound h hc
  rcases hh with ⟨hw, hr⟩ | ⟨hw, hr⟩
  · obtain ⟨v, c, pl2, st2, hk, hrel, hv, hrun⟩ := runA_sound hE h' hr
    exact ⟨v, _, pl2, hk, hrel.put o.dst hv, .inl ⟨hw, fun w' hg => hrun w' fun hi => hgr w' (hg hi)⟩⟩
  · exact ⟨undef, _, pl, hr, h'.put o.dst ⟨#[], rfl, trivial⟩, .inr ⟨hw, rfl⟩⟩

theorem stepD_sound (hE : E.Good) (hcall : ∀ f, Snd P E.G E.lo f (call f)) {R : Type} {K : Bool → St → Option R} {X : TypeId → St → Option R} {r : R} (h : Rel E pl st a w) {F0 F1 : List Nat} {N : Nat} {z pf : Bool} {ds : List Nat} (hinv : Inv N z pf ds a w) {i : Nat} {f : FuncId} {ops : Array Oper} {o : Oper}
    (hc : stepD P H call F0 F1 pf ds i f ops.toList o st K X = some r) :
    (if Region.wanted o (yielded ops a.tmps) then o.wp P a w (fun a' w' => ∃ pf', Gr N (memN i F0, memN i F1) w w' ∧ Inv N false pf' (nextDs ds o) a' w' ∧ Next' E (K pf') r a' w') (OpPan E X r)
      else Inv N false pf (nextDs ds o) (a.put o.dst undef) w ∧ Next' E (K pf) r (a.put o.dst undef) w) := by
  obtain ⟨st', h', hh⟩ := stepWith_sound h hc
  rcases hh with ⟨hw, hr⟩ | ⟨hw, hr⟩
  · rw [if_pos hw]
    generalize hok : ((growsB H st' o.op || !memN i F1) && (growsB H st' o.op || (pf && freshApp ds o.op) || !memN i F0)) = ok at hr
    cases ok with
    | false => cases hr
    | true =>
      simp only [cond_true] at hr
      rw [Bool.and_eq_true] at hok
      have nxt : ∀ {b : Bool} a' w', OpOut E (fun c st' => K b (st'.put o.dst c)) r o a a' w' → (∃ v, a' = a.put o.dst v) ∧ Next' E (K b) r a' w' := fun a' w' ⟨v, e, pl', c, st', hk, hr, hv⟩ => by subst e; exact ⟨⟨v, rfl⟩, _, pl', hk, hr.put o.dst hv⟩
      cases hg : growsB H st' o.op with
      | true =>
        rw [hg] at hr
        simp only [Bool.true_or, Bool.and_true] at hr
        cases hb : isBuildSl o.op with
        | true =>
          refine Oper.wp_mono (fun a' w' hh => ?_) (buildSl_sound hE hcall h' hr hb)
          obtain ⟨h1, hgr, hfr⟩ := hh
          refine ⟨pf, ⟨fun _ => hgr.gn, fun _ => hgr⟩, ?_, (nxt a' w' h1).2⟩
          cases hp : pf with
          | false =>
            exact ⟨fun e => (by cases e), fun e => (by cases e)⟩
          | true =>
            rw [hp] at hinv
            obtain ⟨v, rfl, hv⟩ := hfr N (hinv.pf rfl).1
            exact hinv.next o v (fun hp => Nat.le_trans (hinv.pf hp).1 hgr.1) (fun _ _ => hv)
        | false =>
          refine Oper.wp_mono (fun a' w' hh => ?_) (opC_soundG hE hcall h' hr hg)
          obtain ⟨h1, hgr⟩ := hh
          refine ⟨pf, ⟨fun _ => hgr.gn, fun _ => hgr⟩, ?_, (nxt a' w' h1).2⟩
          obtain ⟨v, rfl⟩ := (nxt a' w' h1).1
          refine hinv.next o v (fun hp => Nat.le_trans (hinv.pf hp).1 hgr.1) (fun _ hbf => ?_)
          rw [hb, Bool.false_or] at hbf
          -- an append is none of those
          exfalso
          unfold freshApp at hbf
          split at hbf
          · rename_i c hop
            split at hbf
            · rename_i hcal
              rw [hop] at hg
              simp only [growsB, hcal] at hg
              cases hg
            · cases hbf
          · cases hbf
      | false =>
        rw [hg] at hok hr
        simp only [Bool.false_or, Bool.not_eq_true', Bool.or_eq_true] at hok hr
        cases hfa : (pf && freshApp ds o.op) with
        | false =>
          rw [hfa] at hok hr
          have hF0 : memN i F0 = false := hok.2.elim (fun e => by cases e) id
          refine Oper.wp_mono (fun a' w' hh => ?_) (opC_sound hE hcall h' hr)
          exact ⟨false, ⟨fun e => (by simp only [hF0] at e; cases e), fun e => (by simp only [hok.1] at e; cases e)⟩, ⟨fun e => (by cases e), fun e => (by cases e)⟩, (nxt a' w' hh).2⟩
        | true =>
          rw [hfa] at hr
          rw [Bool.and_eq_true] at hfa
          obtain ⟨hp, hfa⟩ := hfa
          have hfa0 := hfa
          unfold freshApp at hfa
          split at hfa
          · rename_i c hop
            split at hfa
            · rename_i hcal
              split at hfa
              · rename_i t hx
                have hr2 := hr
                rw [hop] at hr2
                unfold opC at hr2
                simp only [hcal] at hr2
                refine Oper.wp_mono (fun a' w' hh => ?_) (appendV_sound (P := P) hE h' hop hcal hr2)
                obtain ⟨h1, happ⟩ := hh
                obtain ⟨v, rfl, hap⟩ := happ _ hx
                have htd : t ∈ ds := by
                  simp only [memN, List.any_eq_true] at hfa
                  obtain ⟨y, hy, he⟩ := hfa
                  rw [Nat.eq_of_beq_eq_true he]
                  exact hy
                obtain ⟨hN, hds⟩ := hinv.pf hp
                obtain ⟨hv, hN', hsame⟩ := hap N hN (hds t htd)
                exact ⟨true, ⟨fun _ _ => ⟨hN', hsame⟩, fun e => (by simp only [hok.1] at e; cases e)⟩, by rw [hp] at hinv; exact hinv.next o v (fun _ => hN') (fun _ _ => hv), (nxt _ w' h1).2⟩
              · cases hfa
            · cases hfa
          · cases hfa
  · rw [if_neg (by simp [hw])]
    exact ⟨hinv.next o undef (fun hp => (hinv.pf hp).1) (fun _ _ => trivial), _, pl, hr, h'.put o.dst ⟨#[], rfl, trivial⟩⟩

/-! ### which are listed -/
structure Lst (ops : Array Oper) (done : List Nat) (listed : Array Bool) : Prop where
  size : listed.size = ops.size
  get : ∀ j, j < ops.size → listed[j]? = some (memN j done)
  lt : ∀ j, memN j done = true → j < ops.size

theorem Lst.nil (ops : Array Oper) : Lst ops [] (Array.replicate ops.size false) where
  size := by simp
  get := fun j hj => by simp [Array.getElem?_replicate, hj, memN]
  lt := fun j h => by cases h
theorem memN_cons (j i : Nat) (l : List Nat) : memN j (i :: l) = (Nat.beq j i || memN j l) := by simp [memN]
theorem Lst.cons {ops : Array Oper} {done : List Nat} {listed : Array Bool} (h : Lst ops done listed) {i : Nat} (hi : i < ops.size) : Lst ops (i :: done) (listed.setIfInBounds i true) where
  size := by simp [h.size]
  get := fun j hj => by
    rw [memN_cons]
    by_cases e : i = j
    · subst e
      simp [Array.getElem?_setIfInBounds, h.size, hj]
    · have : Nat.beq j i = false := beq_no (Ne.symm e)
      rw [Array.getElem?_setIfInBounds_ne (by simpa using e), h.get j hj, this, Bool.false_or]
  lt := fun j hj => by
    rw [memN_cons, Bool.or_eq_true] at hj
    rcases hj with hj | hj
    · rw [Nat.eq_of_beq_eq_true hj]; exact hi
    · exact h.lt j hj
theorem Lst.getF {ops : Array Oper} {done : List Nat} {listed : Array Bool} (h : Lst ops done listed) (j : Nat) : listed.getD j false = memN j done := by
  by_cases hj : j < ops.size
  · simp [Array.getD_eq_getD_getElem?, h.get j hj]
  · have h1 : memN j done = false := by
      cases hm : memN j done with
      | false => rfl
      | true => exact absurd (h.lt j hm) hj
    rw [h1, Array.getD_eq_getD_getElem?, Array.getElem?_eq_none (by rw [h.size]; omega)]
    rfl
theorem Lst.getT {ops : Array Oper} {done : List Nat} {listed : Array Bool} (h : Lst ops done listed) {j : Nat} (hj : j < ops.size) : listed.getD j true = memN j done := by
  simp [Array.getD_eq_getD_getElem?, h.get j hj]

theorem zipN_mem {o : Oper} {j : Nat} : ∀ {l : List Oper} {n : Nat}, (j, o) ∈ zipN n l ↔ n ≤ j ∧ l[j - n]? = some o
  | [], n => by simp [zipN]
  | x :: r, n => by
    simp only [zipN, List.mem_cons, Prod.mk.injEq, zipN_mem (l := r)]
    constructor
    · rintro (⟨rfl, rfl⟩ | ⟨h1, h2⟩)
      · simp
      · refine ⟨by omega, ?_⟩
        rw [show j - n = (j - (n + 1)) + 1 by omega]
        simpa using h2
    · rintro ⟨h1, h2⟩
      by_cases e : j = n
      · subst e
        simp at h2
        exact .inl ⟨rfl, h2.symm⟩
      · refine .inr ⟨by omega, ?_⟩
        rw [show j - n = (j - (n + 1)) + 1 by omega] at h2
        simpa using h2
theorem zip_mem {ops : Array Oper} {o : Oper} {j : Nat} : (j, o) ∈ zipN 0 ops.toList ↔ ops[j]? = some o := by
  rw [zipN_mem]
  simp

theorem Lst.ready {ops : Array Oper} {done : List Nat} {listed : Array Bool} (h : Lst ops done listed) {j : Nat} : j ∈ Region.ready .any ops listed ↔ ∃ o, ops[j]? = some o ∧ readyB done (j, o) = true := by
  rw [mem_ready]
  constructor
  · rintro ⟨h1, o, ho, hall⟩
    have hj := (Array.getElem?_eq_some_iff.1 ho).1
    refine ⟨o, ho, ?_⟩
    simp only [readyB, Bool.and_eq_true, Bool.not_eq_true', List.all_eq_true, Bool.or_eq_true, Array.mem_toList_iff]
    refine ⟨by rw [← h.getT hj]; exact h1, fun e he => ?_⟩
    cases hb : Region.binds .any e with
    | false => exact .inl rfl
    | true => exact .inr (by rw [← h.getF]; exact hall e he hb)
  · rintro ⟨o, ho, hr⟩
    have hj := (Array.getElem?_eq_some_iff.1 ho).1
    simp only [readyB, Bool.and_eq_true, Bool.not_eq_true', List.all_eq_true, Bool.or_eq_true, Array.mem_toList_iff] at hr
    refine ⟨by rw [h.getT hj]; exact hr.1, o, ho, fun e he hb => ?_⟩
    rcases hr.2 e he with h1 | h1
    · rw [hb] at h1; cases h1
    · rw [h.getF]; exact h1

theorem pickN_some {z : Bool} {done : List Nat} {l : List (Nat × Oper)} {i : Nat} {o : Oper} (h : pickN z done l = some (i, o)) : (i, o) ∈ l ∧ readyB done (i, o) = true := by
  have hm := List.mem_of_find?_eq_some h
  rw [List.mem_filter] at hm
  exact hm

theorem agreeL_some {R : Type} {r : R} : ∀ {l : List (Option R)}, agreeL l = some r → ∀ x ∈ l, x = some r
  | [], h, _, _ => by cases h
  | [x], h, y, hy => by rw [List.mem_singleton.1 hy]; exact h
  | x :: y :: l, h, z, hz => by
    obtain ⟨h1, h2⟩ := agreeC_some h
    rcases List.mem_cons.1 hz with rfl | hz
    · exact h1
    · exact agreeL_some h2 z hz

/-! ### a region whose order is drawn -/
def QD (E : Env) {R : Type} (K : St → Option R) (X : TypeId → St → Option R) (r : R) (e : Exit) (a : Act) (w : World) : Prop :=
  (e = .normal ∧ ∃ st pl, K st = some r ∧ Rel E pl st a w) ∨ ∃ t st pl, e = .panic (panV t) ∧ X t st = some r ∧ Rel E pl st.forget a w

theorem Rel.forget_of {a' : Act} (h : Rel E pl st a w) (hd : a'.defers = a.defers) (hs : a'.tmps.size = a.tmps.size) : Rel E pl st.forget a' w := by
  refine ⟨hd.trans h.defers, ?_, h.heap⟩
  refine All2.ofGet ?_ (fun i c y hc hy => ?_)
  · have := h.slots.length
    simp [St.forget, this, hs]
  · simp only [St.forget, List.getElem?_map] at hc
    cases hx : st.α[i]? with
    | none => rw [hx] at hc; cases hc
    | some x => rw [hx] at hc; cases hc; exact .inl rfl
theorem forget_twice : st.forget.forget = st.forget := by simp [St.forget]

theorem draw_sound (hE : E.Good) (hcall : ∀ f, Snd P E.G E.lo f (call f)) {R : Type} {K : St → Option R} {X : TypeId → St → Option R} {r : R} {f : FuncId} {ops : Array Oper} {F0 F1 : List Nat} {N : Nat}
    (hsel : noSelect (zipN 0 ops.toList) = true) :
    ∀ (n : Nat) {z pf : Bool} {ds done : List Nat} {listed : Array Bool} {pl : Pl} {st : St} {a : Act} {w : World}, Lst ops done listed → Inv N z pf ds a w → Rel E pl st a w → drawC P H call f ops (zipN 0 ops.toList) F0 F1 n z pf ds done st K X = some r →
      wpAnyF P .any ops (QD E K X r) N (fun j => (memN j F0, memN j F1)) n listed a w := by
  have hsel' : ∀ (j : Nat) (o : Oper) cs b, ops[j]? = some o → o.op ≠ .select cs b := fun j o cs b ho he => by
    have := List.all_eq_true.1 hsel (j, o) (zip_mem.2 ho)
    simp only [he] at this
    cases this
  have hQ : ∀ (o : Oper) v c a w, QD E K X r (.panic c) (a.put o.dst v) w → QD E K X r (.panic c) a w := by
    rintro o v c a w (⟨e, _⟩ | ⟨t, st, pl, e, hx, hr⟩)
    · cases e
    · refine .inr ⟨t, st, pl, e, hx, ?_⟩
      rw [← forget_twice]
      refine hr.forget_of ?_ ?_ <;> (unfold Act.put; cases o.dst <;> simp)
  have done' : ∀ {n done listed pl st a w}, Lst ops done listed → Rel E pl st a w → (bif (zipN 0 ops.toList).any (readyB done) then none else K st) = some r → wpAnyF P .any ops (QD E K X r) N (fun j => (memN j F0, memN j F1)) n listed a w := by
    intro n done listed pl st a w hl hr hc
    cases hany : (zipN 0 ops.toList).any (readyB done) with
    | true => rw [hany] at hc; cases hc
    | false =>
      rw [hany] at hc
      have hnil : Region.ready .any ops listed = [] := by
        rw [List.eq_nil_iff_forall_not_mem]
        intro j hj
        obtain ⟨o, ho, hrd⟩ := hl.ready.1 hj
        have := List.any_eq_false.1 hany (j, o) (zip_mem.2 ho)
        exact this hrd
      exact wpAnyF_done hnil (.inl ⟨rfl, st, pl, hc, hr⟩) n
  intro n
  induction n with
  | zero =>
    intro z pf ds done listed pl st a w hl _ hr hc
    exact done' hl hr hc
  | succ n ih =>
    intro z pf ds done listed pl st a w hl hinv hr hc
    simp only [drawC] at hc
    split at hc
    · rename_i i o hp
      obtain ⟨hm, hrd⟩ := pickN_some hp
      have ho := zip_mem.1 hm
      have hi := (Array.getElem?_eq_some_iff.1 ho).1
      cases hok : (okAhead ops (zipN 0 ops.toList) (bif z then F0 else F1) (blockB (zipN 0 ops.toList) i (zipN 0 ops.toList).length []) done i o && okBlock (blockB (zipN 0 ops.toList) i (zipN 0 ops.toList).length []) done) with
      | false => rw [hok] at hc; cases hc
      | true =>
        rw [hok] at hc
        simp only [cond_true] at hc
        rw [Bool.and_eq_true] at hok
        generalize blockB (zipN 0 ops.toList) i (zipN 0 ops.toList).length [] = B at hok
        obtain ⟨v, st', pl', hk, hrel, hst⟩ := stepA_sound (N := N) (z := z) hE hr hinv.z hc
        refine wpAnyF_first (B := fun j => memN j B) ho hsel' (hQ o v) n listed a w (fun j oj hj hji hun => ?_) (fun j hj => ?_) (hl.ready.2 ⟨o, ho, hrd⟩) hst (ih (hl.cons hi) (hinv.drop o.dst v (fun _ => rfl) (fun hp => (hinv.pf hp).1)) hrel hk)
        · have hjs := (Array.getElem?_eq_some_iff.1 hj).1
          rw [hl.getT hjs] at hun
          have h1 := List.all_eq_true.1 hok.1 (j, oj) (zip_mem.2 hj)
          have hb : Nat.beq j i = false := beq_no hji
          simp only [hun, hb, Bool.false_or] at h1
          cases hB : memN j B with
          | true =>
            rw [hB] at h1
            simp only [cond_true, List.any_eq_true, Bool.and_eq_true, Bool.or_eq_true, Array.mem_toList_iff] at h1
            obtain ⟨e, he, hbi, hon⟩ := h1
            exact ⟨e, he, hbi, hon.imp (fun h => Nat.eq_of_beq_eq_true h) id⟩
          | false =>
            rw [hB] at h1
            simp only [cond_false, Bool.and_eq_true, Bool.or_eq_true, Bool.not_eq_true'] at h1
            refine ⟨h1.1, fun hi => ?_⟩
            have h2 := h1.2.elim (fun h0 => by rw [hi] at h0; cases h0) id
            cases z <;> exact h2
        · rw [hl.getF]
          have h2 := hok.2
          unfold okBlock at h2
          rw [List.all_eq_true] at h2
          have hmem : j ∈ B := by
            simp only [memN, List.any_eq_true] at hj
            obtain ⟨x, hx, he⟩ := hj
            rw [Nat.eq_of_beq_eq_true he]; exact hx
          simpa using h2 j hmem
    · split at hc
      · rename_i hnone
        refine done' hl hr ?_
        have : (zipN 0 ops.toList).any (readyB done) = false := by
          rw [List.any_eq_false]
          intro p hp hrd
          have : p ∈ (zipN 0 ops.toList).filter (readyB done) := List.mem_filter.2 ⟨hp, hrd⟩
          rw [hnone] at this
          cases this
        rw [this]
        exact hc
      · rename_i p0 r0 hrdy
        have each : ∀ i o, (i, o) ∈ p0 :: r0 → wpOpG P ops (QD E K X r) N (fun j => (memN j F0, memN j F1)) i (wpAnyF P .any ops (QD E K X r) N (fun j => (memN j F0, memN j F1)) n (listed.setIfInBounds i true)) a w := by
          intro i o hm
          have hx := agreeL_some hc _ (List.mem_map_of_mem hm)
          have hm2 : (i, o) ∈ (zipN 0 ops.toList).filter (readyB done) := by rw [hrdy]; exact hm
          have ho := zip_mem.1 (List.mem_filter.1 hm2).1
          have hi := (Array.getElem?_eq_some_iff.1 ho).1
          have hs := stepD_sound hE hcall hr hinv hx
          unfold wpOpG Go.wpOp
          simp only [ho]
          split
          · rename_i hw
            rw [if_pos hw] at hs
            exact .inl (Oper.wp_mono2 (fun a' w' ⟨pf', hgr, hinv', st', pl', hk, hr'⟩ => ⟨hgr, ih (hl.cons hi) hinv' hr' hk⟩) (fun e a w ⟨t, st', pl', he, hx, hr'⟩ => .inr ⟨t, st', pl', he, hx, hr'.forget_of rfl rfl⟩) hs)
          · rename_i hw
            rw [if_neg hw] at hs
            obtain ⟨hinv', st', pl', hk, hr'⟩ := hs
            exact ⟨Gr.refl N _ w, ih (hl.cons hi) hinv' hr' hk⟩
        refine wpAnyF_all rfl (fun e => ?_) (fun j hj => ?_)
        · have hm2 : p0 ∈ (zipN 0 ops.toList).filter (readyB done) := by rw [hrdy]; exact List.mem_cons_self
          have := List.mem_filter.1 hm2
          have h2 := hl.ready.2 ⟨p0.2, zip_mem.1 this.1, this.2⟩
          rw [e] at h2
          cases h2
        · obtain ⟨oj, hoj, hrj⟩ := hl.ready.1 hj
          refine each j oj ?_
          rw [← hrdy]
          exact List.mem_filter.2 ⟨zip_mem.2 hoj, hrj⟩

end

end Go.AI
