/-
  slices.SortFunc over spans with days, compared by where they begin: its contract.
-/
import Derived.Test.YtcgpoabiloehnaaDoorShelf
import Derived.Test.YtcgpoabiloehnaaDoorC4
set_option linter.unusedVariables false
set_option linter.unusedSimpArgs false
namespace Go.AI
open Go Go.Sort Go.Proofs Go.Shelf Go.RowKit Go.Lib

/-- a span's cells -/
def encS (x : OkS) : List Value := [.int .i64 x.1.1, .int .i64 x.1.2]

set_option maxHeartbeats 1000000 in
theorem closure42 (x y : OkS) (W : World) : Calls Tryd.prog 42 #[.agg #[.int .i64 x.1.1, .int .i64 x.1.2], .agg #[.int .i64 y.1.1, .int .i64 y.1.2]] W fun e w' => e = .returned (.int .i64 (cmpS x y)) ∧ ∃ q os', w' = grow (W.drewN q) os' := by
  have hx := okS_iff.1 x.2
  have hy := okS_iff.1 y.2
  have hw : IntKind.i64.wrap (x.1.1 - y.1.1) = cmpS x y := wrap_i64 (by omega) (by omega)
  generalize cmpS x y = r at hw ⊢
  go_enter Tryd.func42, Tryd.ntmps42
  go_wp2
  go_ret
  exact ⟨rfl, 0, _, by rw [alloc_eq_grow, alloc_eq_grow, grow_grow]; rfl⟩

theorem encS_len (x : OkS) : (encS x).length = 2 := rfl
theorem flat_get {d : Array OkS} {i j : Nat} (hi : i < d.size) (hj : j < 2) : (flatK encS 2 d)[i * 2 + j]! = (encS d[i]!)[j]! := by
  rw [get_flatK encS 2 d (i * 2 + j) (by omega)]
  rw [show (i * 2 + j) / 2 = i by omega, show (i * 2 + j) % 2 = j by omega]

theorem Keeps.of_grow {w1 w' : World} (hs : w1.heap.size ≤ w'.heap.size) (hb : ∀ i, i < w1.heap.size → w'.heap[i]? = w1.heap[i]?) (ho : w'.os = w1.os) (ht : w'.tape = w1.tape) (hu : w'.output = w1.output) : Keeps (fun _ => False) w1 w' :=
  ⟨ho, ht, hu, hs, fun b h _ => hb b h⟩

theorem sort_snd {G : World → Prop} {lo : Nat} : Snd Tryd.prog G lo 41 p41 := by
  intro E pl w args objs vs r hE eG eL e0 eP eO hh ha hr
  unfold p41 objC at hr
  obtain ⟨x, hx, hr⟩ := Option.bind_eq_some_iff.1 hr
  obtain ⟨y, hy, rfl⟩ := Option.map_eq_some_iff.1 hr
  obtain ⟨hh', ha'⟩ := AP.mk_un hh ha hx
  obtain ⟨⟨⟨⟩, ⟨⟩, ⟨⟩⟩, xs, ⟨⟩⟩ := x
  unfold g41 at hy
  simp only at hy
  split at hy
  case isFalse => cases hy
  rename_i hsh
  rw [Bool.and_eq_true] at hsh
  have hn := short_iff.1 hsh.1
  have hok := allOk_iff.1 hsh.2
  cases hy
  -- the arguments
  obtain ⟨y0, y1, hvs, h0, h1⟩ : ∃ y0 y1, vs = #[y0, y1] ∧ CRel pl (mkOs ap41.os (xs, ())) w (E.ok pl (mkOs ap41.os (xs, ())) w) (.one (.sl (.imp 0))) y0 ∧ CRel pl (mkOs ap41.os (xs, ())) w (E.ok pl (mkOs ap41.os (xs, ())) w) (.one (.fn 42)) y1 := by
    obtain ⟨l⟩ := vs
    match l, ha' with
    | [y0, y1], h => exact ⟨y0, y1, rfl, h.1, h.2.1⟩
    | [], h => exact h.elim
    | [_], h => exact h.2.elim
    | _ :: _ :: _ :: _, h => exact h.2.2.elim
  subst hvs
  have hf : y1 = .func (.func 42) #[] #[] := (LR.one' h1 (by simp)).2
  subst hf
  have hlk : lookO (mkOs ap41.os (xs, ())) (.imp 0) = some (.slice SpanS xs) := rfl
  obtain ⟨_, hcase⟩ := hh'.slice hlk (LR.one' h0 (by simp)).2
  have hent : Enters Tryd.prog 41 := ⟨Tryd.f41, Tryd.func41, by kernel_rfl, by kernel_rfl⟩
  refine ⟨hent, ?_⟩
  have e41 : Tryd.sort41_ren.f 6 = 41 := rfl
  rcases hcase with ⟨hb0, ⟨ad, rfl⟩, hx0⟩ | ⟨b, cap, cur, e, hb, rfl, hw, hm, hlc, hcs, hrows⟩
  · -- nothing to sort
    have hc := AnyF.slices_SortFunc_none Tryd.sort41 ad 0 (.func (.func 42) #[] #[]) w
    rw [e41] at hc
    refine hc.mono fun e w' ⟨he, hw'⟩ => ?_
    subst he
    subst hw'
    have hs : sortA xs = xs := by
      have : xs = [] := hx0
      subst this
      have := sortA_length ([] : List (Int × Int))
      exact List.length_eq_zero_iff.1 (by simpa using this)
    rw [hs]
    exact ⟨_, pl, rfl, hh', ⟨#[], rfl, trivial⟩⟩
  · -- sorted in place
    have hlen := liftS_length xs hok
    generalize hd : (liftS xs hok).toArray = d
    have hds : d.size = xs.length := by rw [← hd]; simpa using hlen
    have hdi : ∀ i (h : i < xs.length), (d[i]!).1 = xs[i] := fun i h => by
      have h2 : i < (liftS xs hok).length := by omega
      have e1 : d[i]! = (liftS xs hok)[i] := by
        rw [getElem!_pos d i (by omega)]
        subst hd
        simp
      rw [e1]
      have h3 := liftS_map xs hok
      have h4 : ((liftS xs hok).map (·.1))[i]'(by simpa using h2) = xs[i] := by
        simp only [h3]
      simpa using h4
    have hbl := lt_of_heap hw
    have hcell : ∀ i j, i < xs.length → j < 2 → cur[i * 2 + j]? = some ((encS d[i]!)[j]!) := fun i j hi hj => by
      obtain ⟨c, hc, hcj⟩ := hrows i hi
      obtain ⟨c1, c2, rfl, h5, h6⟩ := hc
      have h5' : c1 = [.int .i64 (xs[i]).1] := h5
      have h6' : c2 = [.int .i64 (xs[i]).2] := h6
      subst h5'
      subst h6'
      have := hcj j (by simpa using hj)
      rw [Array.getElem?_toList] at this
      rw [show SpanS.n = 2 from rfl] at this
      rw [this]
      unfold encS
      rw [hdi i hi]
      match j, hj with
      | 0, _ => rfl
      | 1, _ => rfl
    have hH : HoldsK encS 2 w b 0 d := by
      intro t ht
      rw [size_flatK, hds] at ht
      have ht2 : t / 2 < xs.length := by omega
      refine ⟨?_, ?_⟩
      · rw [Nat.zero_add, cell_of_row w b t cur e _ hw, get_flatK _ _ _ _ (by omega)]
        have := hcell (t / 2) (t % 2) ht2 (Nat.mod_lt _ (by omega))
        rwa [show t / 2 * 2 + t % 2 = t by omega] at this
      · simp [World.frozen?, hw]
    have hcmp : CmpLays Tryd.prog 42 #[] encS 2 cmpS b 0 d.size w := fun m os dk _ x y => closure42 x y _
    have eg : ∀ args w, (callFunc 42 args).run Tryd.prog w = .ok (.enter 42 args) w := enters_of Tryd.func42 (by kernel_rfl) rfl
    have hc := AnyQ.slices_SortFunc_eq Tryd.sort41 2 Tryd.isAgg23 Tryd.sizeOf23 encS encS_len (fun x v hv => by simp [encS] at hv; rcases hv with rfl | rfl <;> rfl) cmpS swoS 42 #[] b 0 cap d w eg hcmp hH hbl (by omega)
    rw [e41, hds] at hc
    refine hc.mono fun e' w' ⟨he, n, os, hw'⟩ => ?_
    subst he
    have hpd : pdq (ltOf cmpS) d 0 xs.length (Lib.bitLen xs.length) true true = pdqS d := by unfold pdqS; rw [hds]
    rw [hpd] at hw'
    have hsA : sortA xs = (pdqS d).toList.map (·.1) := by unfold sortA; rw [dif_pos hok, hd]
    have hps := pdqS_size d
    -- the memory behind it
    have hw1 := setRow_heap w b cur (putCells id 0 (flatK encS 2 (pdqS d)) cur) e _ hw
    have hrel : Rel E pl ⟨[], mkOs ap41.os (xs, ())⟩ { tmps := #[], defers := [] } w := ⟨rfl, trivial, hh'⟩
    have hlen2 : (sortA xs).length = xs.length := sortA_length xs
    have hput : ∀ t, t < xs.length * 2 → (putCells id 0 (flatK encS 2 (pdqS d)) cur)[t]? = some ((encS (pdqS d)[t / 2]!)[t % 2]!) := fun t ht => by
      have htc : t < cur.size := by rw [hcs]; have := Nat.mul_le_mul_right 2 hlc; show t < cap * 2; omega
      unfold putCells
      rw [Array.getElem?_mapIdx, Array.getElem?_eq_getElem htc, Option.map_some, if_pos (by rw [size_flatK, hps, hds]; omega), Nat.sub_zero, id, get_flatK _ _ _ _ (by rw [hps, hds]; omega)]
    have h2 := hrel.writeElt hE (key := .imp 0) (s := SpanS) (xs := xs) hlk (xs' := sortA xs) hlen2 hb hw (cur' := putCells id 0 (flatK encS 2 (pdqS d)) cur) (by simp [putCells]) (fun ok' _ i hi => by
      refine ⟨[.int .i64 ((sortA xs)[i]).1, .int .i64 ((sortA xs)[i]).2], ⟨[_], [_], rfl, rfl, rfl⟩, fun j hj => ?_⟩
      have hj : j < 2 := hj
      have hi' : i < (pdqS d).size := by rw [hps, hds]; omega
      rw [Array.getElem?_toList, show SpanS.n = 2 from rfl, hput (i * 2 + j) (by omega), show (i * 2 + j) / 2 = i by omega, show (i * 2 + j) % 2 = j by omega]
      have e1 : ((pdqS d)[i]!).1 = (sortA xs)[i] := by
        rw [getElem!_pos _ i hi']
        simp only [hsA, List.getElem_map, Array.getElem_toList]
      unfold encS
      rw [e1]
      match j, hj with
      | 0, _ => rfl
      | 1, _ => rfl)
    have hkeep : Keeps (fun _ => False) (w.setRow b (putCells id 0 (flatK encS 2 (pdqS d)) cur)) w' := by
      rw [hw']
      unfold sortWorldK putRowK putRow mapBlock grow Sort.ahead
      refine Keeps.of_grow ?_ (fun i hi => ?_) rfl rfl rfl
      · simp [World.setRow]
      · have hi' : i < w.heap.size := by simpa [World.setRow] using hi
        rw [Array.getElem?_append_left (by simpa using hi')]
        by_cases hib : i = b
        · subst hib
          rw [hw1]
          simp [Array.getElem?_modify, hw, onCells]
        · rw [setRow_other w b i _ hib]
          simp [Array.getElem?_modify, Ne.symm hib]
    have h3 := h2.grow hE hkeep
    exact ⟨_, pl, rfl, h3.heap, ⟨#[], rfl, trivial⟩⟩
end Go.AI
