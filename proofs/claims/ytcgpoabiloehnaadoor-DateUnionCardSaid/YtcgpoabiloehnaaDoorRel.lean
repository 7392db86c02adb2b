/-
  What it means that a machine's state holds what an abstract state says: plain values, cells, objects; and that this is kept by what the machine does.
-/
import Derived.Test.YtcgpoabiloehnaaDoorDef
import Derived.Test.YtcgpoabiloehnaaDoorAll2
import Derived.Laws.AppendOwn
namespace Go.AI
open Go

/-- a plain value in memory; 'ok': the blocks that nobody writes any more -/
def CR (w : World) (ok : Nat → Prop) : (s : Sh) → Val s → List Value → Prop
  | .int k, n, cs => cs = [.int k n]
  | .bool, b, cs => cs = [.bool b]
  | .str, x, cs => cs = [.string x]
  | .unit, _, cs => cs = []
  | .pair a b, x, cs => ∃ c1 c2, cs = c1 ++ c2 ∧ CR w ok a x.1 c1 ∧ CR w ok b x.2 c2
  | .slice s, xs, cs => ∃ a cap, cs = [.slice a xs.length cap] ∧ xs.length ≤ cap ∧ (0 < xs.length → ∃ b off, a = some ⟨b, off, none⟩ ∧ ok b ∧
      ∀ (i : Nat) (h : i < xs.length), ∃ c, CR w ok s xs[i] c ∧ ∀ j, j < c.length → w.cell? ⟨b, off + i * s.n + j, none⟩ = c[j]?)

/-- the row behind a slice -/
def RowR (w : World) (ok : Nat → Prop) (s : Sh) (xs : List (Val s)) (b off : Nat) : Prop :=
  ok b ∧ ∀ (i : Nat) (h : i < xs.length), ∃ c, CR w ok s xs[i] c ∧ ∀ j, j < c.length → w.cell? ⟨b, off + i * s.n + j, none⟩ = c[j]?

theorem CR.len {w : World} {ok : Nat → Prop} : ∀ {s : Sh} {x : Val s} {cs : List Value}, CR w ok s x cs → cs.length = s.n
  | .int _, _, _, h => by rw [show _ = _ from h]; rfl
  | .bool, _, _, h => by rw [show _ = _ from h]; rfl
  | .str, _, _, h => by rw [show _ = _ from h]; rfl
  | .unit, _, _, h => by rw [show _ = _ from h]; rfl
  | .pair a b, _, _, h => by
    obtain ⟨c1, c2, rfl, h1, h2⟩ := h
    simp [Sh.n, CR.len h1, CR.len h2]
  | .slice _, _, _, h => by
    obtain ⟨a, cap, rfl, _⟩ := h
    rfl

theorem CR.one {w : World} {ok : Nat → Prop} : ∀ {s : Sh} {x : Val s} {cs : List Value}, CR w ok s x cs → ∀ v ∈ cs, v.oneCell' = true
  | .int _, _, _, h => by rw [show _ = _ from h]; simp [Value.oneCell']
  | .bool, _, _, h => by rw [show _ = _ from h]; simp [Value.oneCell']
  | .str, _, _, h => by rw [show _ = _ from h]; simp [Value.oneCell']
  | .unit, _, _, h => by rw [show _ = _ from h]; simp
  | .pair a b, _, _, h => by
    obtain ⟨c1, c2, rfl, h1, h2⟩ := h
    intro v hv
    rcases List.mem_append.1 hv with hv | hv
    · exact CR.one h1 v hv
    · exact CR.one h2 v hv
  | .slice _, _, _, h => by
    obtain ⟨a, cap, rfl, _⟩ := h
    simp [Value.oneCell']

/-- blocks that are kept keep what is read out of them -/
theorem CR.mono {w w' : World} {ok ok' : Nat → Prop} (hk : ∀ b, ok b → ok' b ∧ w'.heap[b]? = w.heap[b]?) :
    ∀ {s : Sh} {x : Val s} {cs : List Value}, CR w ok s x cs → CR w' ok' s x cs
  | .int _, _, _, h => h
  | .bool, _, _, h => h
  | .str, _, _, h => h
  | .unit, _, _, h => h
  | .pair a b, _, _, h => by
    obtain ⟨c1, c2, rfl, h1, h2⟩ := h
    exact ⟨c1, c2, rfl, CR.mono hk h1, CR.mono hk h2⟩
  | .slice s, _, _, h => by
    obtain ⟨a, cap, rfl, hc, h⟩ := h
    refine ⟨a, cap, rfl, hc, fun h0 => ?_⟩
    obtain ⟨b, off, rfl, hb, hr⟩ := h h0
    refine ⟨b, off, rfl, (hk b hb).1, fun i hi => ?_⟩
    obtain ⟨c, hc, hj⟩ := hr i hi
    exact ⟨c, CR.mono hk hc, fun j hjl => by rw [← hj j hjl]; exact World.cell?_of_block (w := w) ((hk b hb).2)⟩

theorem RowR.mono {w w' : World} {ok ok' : Nat → Prop} (hk : ∀ b, ok b → ok' b ∧ w'.heap[b]? = w.heap[b]?) {s : Sh} {xs : List (Val s)} {b off : Nat}
    (h : RowR w ok s xs b off) : RowR w' ok' s xs b off :=
  ⟨(hk b h.1).1, fun i hi => by
    obtain ⟨c, hc, hj⟩ := h.2 i hi
    exact ⟨c, CR.mono hk hc, fun j hjl => by rw [← hj j hjl]; exact World.cell?_of_block (w := w) ((hk b h.1).2)⟩⟩

/-- where objects lie -/
structure Pl where
  blk : Key → Option Nat
  fn : Key → Option (Array Value × Array Value)

/-- blocks that objects lie in -/
def Mut (pl : Pl) (objs : Objs) (b : Nat) : Prop := ∃ k o, lookO objs k = some o ∧ pl.blk k = some b

/-- an element's place -/
def InRow (s : Sh) (len : Nat) (i : Int) (o : Nat) (at_ : Nat) : Prop := 0 ≤ i ∧ i < len ∧ at_ = o + i.toNat * s.n

def LR (pl : Pl) (objs : Objs) (w : World) (ok : Nat → Prop) : L → Value → Prop
  | .dead, _ => True
  | .tt, y => y = .bool true
  | .ff, y => y = .bool false
  | .v s x, y => CR w ok s x [y]
  | .box k off, y => ∃ b, pl.blk k = some b ∧ y = .pointer (some ⟨b, off, none⟩)
  | .sl k, y => ∀ s xs, lookO objs k = some (.slice s xs) →
      (pl.blk k = none ∧ ∃ ad, y = .slice ad 0 0) ∨ ∃ b cap cur e, pl.blk k = some b ∧ y = .slice (some ⟨b, 0, none⟩) xs.length cap ∧ w.heap[b]? = some (.cells cur e (0, 0)) ∧ cur.size = cap * s.n
  | .clo k, y => ∀ g f c, lookO objs k = some (.clo g f c) → ∃ fs cs, pl.fn k = some (fs, cs) ∧ y = .func (.func g) fs cs
  | .fn g, y => y = .func (.func g) #[] #[]
  | .velt s xs i off, y => ∃ b o p, InRow s xs.length i o p ∧ RowR w ok s xs b o ∧ y = .pointer (some ⟨b, p + off, none⟩)
  | .elt k i off, y => ∀ s xs, lookO objs k = some (.slice s xs) → ∃ b p, pl.blk k = some b ∧ InRow s xs.length i 0 p ∧ y = .pointer (some ⟨b, p + off, none⟩)
  | .nilp, y => y = .pointer none
  | .nilf, y => y = .nilFunc
  | .nils, y => y = .slice none 0 0
  | .nili, y => y = .nilIface
  | .nilm, y => y = .map none
  | .ifc t, y => y = .iface t (.agg #[])

/-- a cell: never an aggregate -/
def LR' (pl : Pl) (objs : Objs) (w : World) (ok : Nat → Prop) (l : L) (y : Value) : Prop := y.oneCell' = true ∧ LR pl objs w ok l y

/-- a component of a tuple, of a closure: an aggregate or not -/
def PR (pl : Pl) (objs : Objs) (w : World) (ok : Nat → Prop) (p : Bool × List L) (y : Value) : Prop :=
  if p.1 = true then ∃ vs : Array Value, y = .agg vs ∧ All2 (LR' pl objs w ok) p.2 vs.toList
  else ∃ l, p.2 = [l] ∧ (l = .dead ∨ LR' pl objs w ok l y)

def CRel (pl : Pl) (objs : Objs) (w : World) (ok : Nat → Prop) : C → Value → Prop
  | .one l, y => l = .dead ∨ LR' pl objs w ok l y
  | .agg ls, y => ∃ vs : Array Value, y = .agg vs ∧ All2 (LR' pl objs w ok) ls vs.toList
  | .tup cs, y => ∃ vs : Array Value, y = .tuple vs ∧ All2 (PR pl objs w ok) cs vs.toList

/-- a row of elements in a block -/
def Rows (w : World) (ok : Nat → Prop) (s : Sh) (xs : List (Val s)) (cur : List Value) : Prop :=
  ∀ (i : Nat) (h : i < xs.length), ∃ c, CR w ok s xs[i] c ∧ ∀ j, j < c.length → cur[i * s.n + j]? = c[j]?

def ObjR (pl : Pl) (objs : Objs) (w : World) (ok : Nat → Prop) (k : Key) : Obj → Prop
  | .cells ls => ∃ b cur e, pl.blk k = some b ∧ w.heap[b]? = some (.cells cur e (0, 0)) ∧ All2 (LR' pl objs w ok) ls cur.toList
  | .slice s xs => 0 < s.n ∧ ((pl.blk k = none ∧ xs = []) ∨ ∃ b cur e cap, pl.blk k = some b ∧ w.heap[b]? = some (.cells cur e (0, 0)) ∧ cap ≤ maxLen ∧ xs.length ≤ cap ∧ cur.size = cap * s.n ∧ Rows w ok s xs cur.toList)
  | .clo _ first caps => pl.blk k = none ∧ ∃ fs cs, pl.fn k = some (fs, cs) ∧ All2 (PR pl objs w ok) first fs.toList ∧ All2 (LR' pl objs w ok) caps cs.toList

/-- what a call must leave as it was: all but some blocks -/
structure Keeps (M : Nat → Prop) (w w' : World) : Prop where
  os : w'.os = w.os
  tape : w'.tape = w.tape
  output : w'.output = w.output
  size : w.heap.size ≤ w'.heap.size
  block : ∀ b, b < w.heap.size → ¬ M b → w'.heap[b]? = w.heap[b]?

theorem Keeps.refl (M : Nat → Prop) (w : World) : Keeps M w w := ⟨rfl, rfl, rfl, Nat.le_refl _, fun _ _ _ => rfl⟩
theorem Keeps.trans {M : Nat → Prop} {a b c : World} (h : Keeps M a b) (h' : Keeps (fun i => M i ∨ a.heap.size ≤ i) b c) : Keeps M a c :=
  ⟨h'.os.trans h.os, h'.tape.trans h.tape, h'.output.trans h.output, Nat.le_trans h.size h'.size, fun i hi hm =>
    (h'.block i (Nat.lt_of_lt_of_le hi h.size) (fun e => e.elim hm (fun e => by omega))).trans (h.block i hi hm)⟩
theorem Keeps.mono {M M' : Nat → Prop} {a b : World} (h : Keeps M a b) (hm : ∀ i, i < a.heap.size → M i → M' i) : Keeps M' a b :=
  ⟨h.os, h.tape, h.output, h.size, fun i hi hn => h.block i hi (fun e => hn (hm i hi e))⟩

/-- a name means the same before and behind -/
structure Same (pl : Pl) (objs : Objs) (w : World) (pl' : Pl) (objs' : Objs) (w' : World) (k : Key) : Prop where
  blk : pl'.blk k = pl.blk k
  fn : pl'.fn k = pl.fn k
  sl : ∀ s xs, lookO objs' k = some (.slice s xs) → ∃ xs', lookO objs k = some (.slice s xs') ∧ xs.length = xs'.length ∧
    ∀ b cur e, pl.blk k = some b → w.heap[b]? = some (.cells cur e (0, 0)) → ∃ cur' e', w'.heap[b]? = some (.cells cur' e' (0, 0)) ∧ cur'.size = cur.size
  clo : ∀ g f c, lookO objs' k = some (.clo g f c) → ∃ f' c', lookO objs k = some (.clo g f' c')

theorem Same.trans {pl pl' pl'' : Pl} {objs objs' objs'' : Objs} {w w' w'' : World} {k : Key} (h : Same pl objs w pl' objs' w' k) (h' : Same pl' objs' w' pl'' objs'' w'' k) : Same pl objs w pl'' objs'' w'' k where
  blk := h'.blk.trans h.blk
  fn := h'.fn.trans h.fn
  sl := fun s xs hl => by
    obtain ⟨xs1, h1, h2, h3⟩ := h'.sl s xs hl
    obtain ⟨xs2, h4, h5, h6⟩ := h.sl s xs1 h1
    refine ⟨xs2, h4, h2.trans h5, fun b cur e hb hw => ?_⟩
    obtain ⟨cur1, e1, hw1, hc1⟩ := h6 b cur e hb hw
    obtain ⟨cur2, e2, hw2, hc2⟩ := h3 b cur1 e1 (by rw [h.blk]; exact hb) hw1
    exact ⟨cur2, e2, hw2, hc2.trans hc1⟩
  clo := fun g f c hl => by
    obtain ⟨f1, c1, h1⟩ := h'.clo g f c hl
    exact h.clo g f1 c1 h1

/-- what stands around a call: memory as it was when the call began; blocks that may be written; blocks whose lists may be read; what is known of memory otherwise; the least block of an object -/
structure Env where
  w0 : World
  M : Nat → Prop
  A : Nat → Prop
  G : World → Prop
  lo : Nat
  pl0 : Pl
  objs0 : Objs

def Env.ok (E : Env) (pl : Pl) (objs : Objs) (w : World) (b : Nat) : Prop := b < w.heap.size ∧ (E.A b ∨ E.w0.heap.size ≤ b) ∧ ¬ Mut pl objs b

structure HeapR (E : Env) (pl : Pl) (objs : Objs) (w : World) : Prop where
  inj : ∀ k k' b, (lookO objs k).isSome → (lookO objs k').isSome → pl.blk k = some b → pl.blk k' = some b → k = k'
  own : ∀ k b, (lookO objs k).isSome → pl.blk k = some b → b < w.heap.size ∧ E.lo ≤ b ∧ (E.M b ∨ E.w0.heap.size ≤ b)
  obj : ∀ k o, lookO objs k = some o → ObjR pl objs w (E.ok pl objs w) k o
  keep : Keeps E.M E.w0 w
  imp : ∀ k, isImp k = true → (lookO objs k).isSome → Same E.pl0 E.objs0 E.w0 pl objs w k
  glob : E.G w

structure Rel (E : Env) (pl : Pl) (st : St) (a : Act) (w : World) : Prop where
  defers : a.defers = []
  slots : All2 (CRel pl st.objs w (E.ok pl st.objs w)) st.α a.tmps.toList
  heap : HeapR E pl st.objs w

end Go.AI
