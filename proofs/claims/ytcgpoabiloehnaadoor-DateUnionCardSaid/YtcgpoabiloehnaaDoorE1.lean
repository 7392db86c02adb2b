/-
  DateUnion: for every span and every list of spans the law's call returns true, and the arguments read behind it as they read before. The tables of the library that the row lists stand in memory as the program's text lays them.
-/
import Derived.Test.YtcgpoabiloehnaaDoorQ2
import Derived.Test.YtcgpoabiloehnaaDoorRows
import Derived.Test.YtcgpoabiloehnaaDoorTie
import Derived.Test.YtcgpoabiloehnaaDoorCards
import Derived.ProofKit
import Derived.LaidMore
import Derived.OpenShut
import Derived.Below
import Derived.Carry
import Derived.Deep.SlicePairs
import Derived.Lib.SmallJoins
import Derived.Lib.LaidTab
import Derived.Stop.Joined
import Derived.SevenTiedAt
set_option linter.unusedVariables false
set_option linter.unusedSimpArgs false
set_option maxRecDepth 100000
namespace Go.Proofs.YtcgpoabiloehnaaDoor
open Go Go.AI Go.ChangeShapes Go.WideShapes Go.ChangeAt Go.RowKit

theorem own : ownKnob Tryd.prog.godebug = none := by kernel_rfl
theorem laidOut : laidOutB Tryd.prog = true := by kernel_rfl

theorem gTab32 : Tryd.prog.globalNamed "math/bits.deBruijn32tab" = some 1 := by kernel_rfl
theorem gPow : Tryd.prog.globalNamed "internal/strconv.uint64pow10" = some 0 := by kernel_rfl
theorem tPow : (Tryd.prog.globals[0]?).map (·.type) = some 99 := by kernel_rfl
set_option maxRecDepth 100000 in
theorem powData {H : Type} : (Rows.laid_internal_strconv_uint64pow10 : DataW H) = Lib.tabData .u64 Lib.pow10Tab := by kernel_rfl

/-- what the condition gives the walk: the table of powers -/
theorem tab_of_laid {W : World} (h : laidMetH Tryd.prog Rows.dateUnionRow.laid W) : GD W := by
  rw [MakeChecks.laidMetH_plain _ _ _ (by kernel_rfl)] at h
  obtain ⟨ps, ⟨g0, t0, cs0, f0, p0, q0, hg0, ht0, hv0, hd0, ⟨g1, t1, cs1, f1, p1, q1, hg1, ht1, hv1, hd1, ⟨g2, t2, cs2, f2, p2, q2, hg2, ht2, hv2, hd2, _⟩, _⟩, _⟩, _⟩ := h
  obtain rfl := Option.some.inj (gPow.symm.trans hg2)
  obtain rfl := Option.some.inj (tPow.symm.trans ht2)
  unfold GD Lib.TabIs
  rw [hv2]
  rw [powData] at hd2
  rw [← Lib.cells_of_tab Tryd.underlying99 Tryd.underlying86 (by kernel_rfl) (by kernel_rfl) hd2]

set_option maxRecDepth 100000 in
/-- the heap that the program's own start leaves meets the condition -/
theorem door_met (os : Os) (args : Array Value) : laidMetH Tryd.prog Rows.dateUnionRow.laid ((World.doorLaid Tryd.prog 400 os).forCall (fun _ _ => 0) ⟨#[], args, []⟩).memory :=
  laidMetH_of_parts3 (fuel := 8) (laidMet_of_run' 8 (by kernel_rfl) (by kernel_rfl)) (by kernel_rfl) (by kernel_rfl)

/-- THE CALL: true; nothing below turns -/
theorem walk (W : World) (lo hi : Int) (a : Option Addr) (cap : Nat) (xs : List (Int × Int)) (hG : GD W) (hc : xs.length ≤ cap)
    (hcell : 0 < xs.length → ∃ b off, a = some ⟨b, off, none⟩ ∧ b < W.heap.size ∧ ∀ i (h : i < xs.length), W.cell? ⟨b, off + i * 2, none⟩ = some (.int .i64 (xs[i]).1) ∧ W.cell? ⟨b, off + i * 2 + 1, none⟩ = some (.int .i64 (xs[i]).2)) :
    Calls Tryd.prog 3 #[.agg #[.int .i64 lo, .int .i64 hi], .slice a xs.length cap] W fun e w' => e = .returned (.bool true) ∧ Below W.heap.size W w' := by
  let pl : Pl := ⟨fun _ => none, fun _ => none⟩
  let E : Env := { w0 := W, M := fun _ => False, A := fun _ => True, G := GD, lo := 1, pl0 := pl, objs0 := [] }
  have hpos : 1 ≤ W.heap.size := by
    have h := hG
    unfold GD Lib.TabIs at h
    unfold World.var? at h
    rw [gPow] at h
    apply Classical.byContradiction
    intro hn
    have : W.heap[0]? = none := Array.getElem?_eq_none (by omega)
    simp [this] at h
  have hE : E.Good := {
    glob := fun w w' hg hs hb ho ht => by
      have hg : GD w := hg
      show GD w'
      unfold GD Lib.TabIs at *
      unfold World.var? at *
      rw [gPow] at *
      have := hb 0 (by show 0 < 1; omega)
      simpa [this] using hg
    lo := hpos
    sub := fun b h => trivial }
  have hh : HeapR E pl [] W := {
    inj := fun k k' b h => by cases h
    own := fun k b h => by cases h
    obj := fun k o h => by cases h
    keep := Keeps.refl _ _
    imp := fun k _ h => by cases h
    glob := hG }
  have ha : All2 (CRel pl [] W (E.ok pl [] W)) [C.agg [L.v I64 lo, L.v I64 hi], C.one (L.v (.slice SpanS) xs)] (#[.agg #[.int .i64 lo, .int .i64 hi], .slice a xs.length cap] : Array Value).toList := by
    refine ⟨⟨#[.int .i64 lo, .int .i64 hi], rfl, ⟨rfl, rfl⟩, ⟨rfl, rfl⟩, trivial⟩, .inr ⟨rfl, a, cap, rfl, hc, fun h0 => ?_⟩, trivial⟩
    obtain ⟨b, off, rfl, hb, hx⟩ := hcell h0
    refine ⟨b, off, rfl, ⟨hb, .inl trivial, fun ⟨k, o, hk, _⟩ => by cases hk⟩, fun i hi => ⟨[.int .i64 (xs[i]).1, .int .i64 (xs[i]).2], ⟨[_], [_], rfl, rfl, rfl⟩, fun j hj => ?_⟩⟩
    have hj : j < 2 := hj
    obtain ⟨h1, h2⟩ := hx i hi
    match j, hj with
    | 0, _ => exact h1
    | 1, _ => exact h2
  have hr : p3 [C.agg [L.v I64 lo, L.v I64 hi], C.one (L.v (.slice SpanS) xs)] [] = some (.ret (.one (.v .bool true)) []) := rfl
  obtain ⟨_, hcalls⟩ := dateUnion_snd (lo := 1) E pl W _ [] _ _ hE rfl rfl rfl rfl rfl hh ha hr
  refine hcalls.mono fun e w' he => ?_
  obtain ⟨v, pl', rfl, h1, h2⟩ := he
  refine ⟨by rw [CRel.bool h2 (b := true) rfl], h1.keep.os, h1.keep.tape, h1.keep.output, h1.keep.size, fun k hk => h1.keep.block k hk (fun h => h)⟩
set_option maxRecDepth 100000 in
theorem lifted (os : Os) (started : os.Started) (H : Type) (enc : TypeId × Value → H) :
    ReturnsInHanded {} Tryd.checked os 3 .any (fun w args => (Rows.dateUnionSpec.pre enc Tryd.prog Tryd.f3 [] false w args ∧ laidMetH Tryd.prog Rows.dateUnionRow.laid w) ∧ sizedMet enc Tryd.prog Tryd.f3 (OpenSpec.ofChange Rows.dateUnionSpec) false w args)
      (Rows.dateUnionSpec.post enc Tryd.prog Tryd.f3 false true false false) := by
  refine returnsInHanded_of_change_and (C := Tryd.checked) (X := fun w _ => laidMetH Tryd.prog Rows.dateUnionRow.laid w) (fun _ _ _ hh h => h.of_heap hh) own started (by kernel_rfl) Tryd.func3
    (ChangeSpec.witness_shaped (enc := enc) (C := Tryd.checked) (os := os) (X := fun w _ => laidMetH Tryd.prog Rows.dateUnionRow.laid w) false (World.doorLaid Tryd.prog 400 os) #[.agg #[.int .i64 0, .int .i64 0], .slice none 0 0] 8 rfl (World.shaped_of_RefB (by kernel_rfl) (by kernel_rfl)) (by kernel_rfl) (by kernel_rfl) (by kernel_rfl) (door_met os _)) ?_
  intro W base args ds gs before hval0 hW _ _ hL _
  have hval : ∀ (j : Nat) t v, Tryd.f3.params[j]? = some t → args[j]? = some v → Value.okWide Tryd.prog W .any base t v := hval0
  have hW' := hW
  obtain ⟨p, q, hA0, hV, rfl, hfz, hnd⟩ := hW
  have hA : DataW.TrodAll enc Tryd.prog W 0 (fun _ => true) true Tryd.f3.params.toList args.toList ds p := hA0
  rw [Tryd.params3] at hA hval
  obtain ⟨v0, v1, d0, d1, p0, p1, rfl, rfl, rfl, h0, h1⟩ := trodAll_two hA
  obtain ⟨rfl, rfl⟩ := trodVars_none hV
  have hG := tab_of_laid hL
  -- the span
  have k0 := h0
  have lt0 : ∀ x ∈ p0, x.block < W.heap.size := by obtain ⟨m, hm⟩ := k0; exact DataW.trod_lt m _ _ _ hm
  obtain ⟨c0, c1, y0, y1, m, rfl, hd0, hp0, hy0, hy1⟩ := Joins.open_agg2 Tryd.underlying23 (by kernel_rfl) (by kernel_rfl) (hval 0 23 v0 rfl rfl) h0
  obtain ⟨lo, elo, -, -⟩ := DataW.trod_int Tryd.underlying3 hy0
  obtain ⟨hi, ehi, -, -⟩ := DataW.trod_int Tryd.underlying3 hy1
  obtain rfl : c0 = .int .i64 lo := by simpa using elo
  obtain rfl : c1 = .int .i64 hi := by simpa using ehi
  -- the list
  have k1 := h1
  have lt1 : ∀ x ∈ p1, x.block < W.heap.size := by obtain ⟨m, hm⟩ := k1; exact DataW.trod_lt m _ _ _ hm
  obtain ⟨a, len, cap, rfl⟩ := okWide_slice Tryd.underlying24 (hval 1 24 v1 rfl rfl)
  have row : ∃ xs : List (Int × Int), xs.length = len ∧ len ≤ cap ∧ (0 < xs.length → ∃ b off, a = some ⟨b, off, none⟩ ∧ b < W.heap.size ∧ ∀ i (h : i < xs.length), W.cell? ⟨b, off + i * 2, none⟩ = some (.int .i64 (xs[i]).1) ∧ W.cell? ⟨b, off + i * 2 + 1, none⟩ = some (.int .i64 (xs[i]).2)) := by
    obtain ⟨fuel, hf⟩ := k1
    rcases Deep.open_slice_pairs Tryd.underlying24 Tryd.underlying23 (by kernel_rfl) rfl rfl (by kernel_rfl) (by kernel_rfl) hf with ⟨hcs, _⟩ | ⟨x, l, c, mm, n, V0, V1, D0, D1, P0, P1, hcs, _, hl, hm, hmm, _, hx⟩
    · simp [Value.cells] at hcs
      obtain ⟨rfl, rfl, rfl⟩ := hcs
      exact ⟨[], rfl, Nat.le_refl _, fun h => absurd h (by simp)⟩
    · simp [Value.cells] at hcs
      obtain ⟨rfl, rfl, rfl⟩ := hcs
      have hlm : len ≤ mm := by rw [hmm]; simp; exact hl
      have each : ∀ i, i < len → ∃ z : Int × Int, W.cell? (x.add (i * 2)) = some (.int .i64 z.1) ∧ W.cell? (x.add (i * 2 + 1)) = some (.int .i64 z.2) := fun i hi => by
        obtain ⟨e1, e2, e3, e4⟩ := hx i (by omega)
        obtain ⟨n1, g1, -, -⟩ := DataW.trod_int Tryd.underlying3 e3
        obtain ⟨n2, g2, -, -⟩ := DataW.trod_int Tryd.underlying3 e4
        have g1 : V0 i = .int .i64 n1 := by simpa using g1
        have g2 : V1 i = .int .i64 n2 := by simpa using g2
        exact ⟨(n1, n2), by rw [e1, g1], by rw [e2, g2]⟩
      obtain ⟨Z, hZ⟩ : ∃ Z : Nat → Int × Int, ∀ i, i < len → W.cell? (x.add (i * 2)) = some (.int .i64 (Z i).1) ∧ W.cell? (x.add (i * 2 + 1)) = some (.int .i64 (Z i).2) := by
        refine ⟨fun i => if h : i < len then Classical.choose (each i h) else (0, 0), fun i h => ?_⟩
        simp only [dif_pos h]
        exact Classical.choose_spec (each i h)
      refine ⟨(List.range len).map Z, by simp, hl, fun hpos => ?_⟩
      have hpos' : 0 < len := by simpa using hpos
      obtain ⟨b, off, spot⟩ := x
      have h00 := (hZ 0 hpos').1
      have hs : spot = none := by
        cases spot with
        | none => rfl
        | some s =>
          exfalso
          simp only [World.cell?, Addr.add] at h00
          split at h00
          · simp at h00
          · cases h00
      subst hs
      refine ⟨b, off, rfl, ?_, fun i hi => ?_⟩
      · unfold World.cell? at h00
        split at h00
        · rename_i hb
          exact (Array.getElem?_eq_some_iff.1 hb).1
        · cases h00
      · have hi' : i < len := by simpa using hi
        have := hZ i hi'
        rw [Addr.add_lit, Addr.add_lit] at this
        simpa [Nat.add_assoc] using this
  obtain ⟨xs, hxl, hcap, hcells⟩ := row
  clear hA0 hval0
  simp only [List.append_nil] at hW'
  subst hxl
  refine (walk W lo hi a cap xs hG hcap hcells).mono fun e W' ⟨he, bel⟩ => ?_
  subst he
  exact ⟨_, rfl, _, _, _, [], _, [], hW', trodAll_mk1 (shut_bool Tryd.underlying4 _), trodAll_cons_mk (Below.trod laidOut (by kernel_rfl) (of_decide_eq_true (by kernel_rfl)) (by assumption) bel lt0) (trodAll_cons_mk (Below.trod laidOut (by kernel_rfl) (of_decide_eq_true (by kernel_rfl)) k1 bel lt1) trodAll_mk0), rfl, bel.frame _, fun h => by cases h⟩

theorem dateUnion_said : Rows.DateUnionSaid :=
  OpenClaim.holds_of_wide 3 Tryd.f3 rfl rfl rfl rfl rfl rfl rfl ⟨rfl, rfl, rfl, rfl, rfl⟩ rfl rfl rfl rfl rfl (by kernel_rfl) Tryd.func3 (by kernel_rfl)
    (of_decide_eq_true (by kernel_rfl)) (by unfold Func.isWrapper; first | (rw [if_pos (by decide +kernel)]; kernel_rfl) | (rw [if_neg (by decide +kernel)]; exact ⟨rfl, rfl⟩))
    (fun os started H enc _ => lifted os started H enc)

/-- THE TIED CARD -/
theorem dateUnion_holds : Rows.DateUnionCardSaid :=
  Claim7.holds_tied_plain_at .later [] [.data, .data, .data] true (true, "7eeb1740309ee59012045168d79c597bee0c0a84aa0991afa0cb586a9bfecab5") false
    dateUnion_said (fun _ h => by cases h) (by kernel_rfl) (fun _ h => by cases h) dateUnion_row_tie rfl ⟨rfl, rfl⟩ (by kernel_rfl) rfl
    (fun f fn hf hfn => by
      obtain rfl : f = 3 := Option.some.inj ((show Tryd.prog.funcNamed "udometer/udometerlaw01.DateUnion" = some 3 by kernel_rfl).symm.trans hf) |>.symm
      obtain rfl : fn = Tryd.f3 := (Option.some.inj (Tryd.func3.symm.trans hfn)).symm
      exact ⟨by kernel_rfl, fun j t ht => by
        rw [Tryd.params3] at ht
        have hm : t ∈ [23, 24] := by simpa using Array.mem_of_getElem? ht
        have hall : ([23, 24].all fun u => !Tryd.prog.wantsStandIn u) = true := by kernel_rfl
        exact (show Tryd.prog.wantsStandIn t = false by simpa using List.all_eq_true.1 hall t hm)⟩)
    (by kernel_rfl)
#print axioms dateUnion_holds
end Go.Proofs.YtcgpoabiloehnaaDoor
