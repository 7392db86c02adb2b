/-
  What the operations do: slices that are made, appended to, cut; closures.
-/
import Derived.Test.YtcgpoabiloehnaaDoorOps9
set_option linter.unusedVariables false
set_option linter.unusedSimpArgs false
namespace Go.AI
open Go

section
variable {P : Program} {E : Env} {pl : Pl} {st : St} {a : Act} {w : World} {objs : Objs} {ok : Nat → Prop}

theorem makeSliceOp_sound (hE : E.Good) {R : Type} {K : C → St → Option R} {r : R} (h : Rel E pl st a w) {dst : Nat} {t : TypeId} {n c : Int} {k1 k2 : IntKind}
    (hc : makeSliceOp P dst t n c st K = some r) :
    ∃ v w', (Instr.makeSlice t (.int k1 n) (.int k2 c)).run P w = .ok v w' ∧ Out E K r a v w' := by
  unfold makeSliceOp at hc
  split at hc
  · rename_i e he
    split at hc
    · rename_i s by_ z hs hby hz
      generalize hcond : (decide (sizeT P e = some s.n) && Nat.blt 0 s.n && zeroFit s z.cells.toList) = b at hc
      cases b with
      | false => cases hc
      | true =>
        simp only [cond_true] at hc
        simp only [Bool.and_eq_true, decide_eq_true_eq] at hcond
        obtain ⟨⟨hsz, hpos⟩, hzf⟩ := hcond
        have hpos := blt_true hpos
        obtain ⟨⟨h0, hnc, hcb, hcm⟩, hc⟩ := guardC_some hc
        obtain ⟨⟨ie, hie, hiz⟩, hz1⟩ := zeroOf_some hz
        have hiesz := sizeT_info hsz hie
        obtain ⟨ie2, hie2, hieb⟩ := bytesT_some hby
        rw [hie] at hie2; cases hie2
        have hzl : z.cells.size = s.n := by
          have := (zeroFit_sound (w := w) (ok := fun _ => True) hzf).len
          simpa using this
        have hrun := run_make (P := P) w t e ie z (elemT_some he) hie hiz k1 k2 n c h0 hnc (by rw [hieb, Int.mul_comm]; omega) (by omega)
        have hsize : (madeCells z.cells (c.toNat * ie.size)).size = c.toNat * s.n := by rw [size_madeCells, hiesz]
        have hobj := h.alloc hE (key := .loc dst) rfl (o := .slice s (List.replicate n.toNat (zeroV s))) (cells := madeCells z.cells (c.toNat * ie.size)) (e := e) (fun pl2 objs2 w2 ok2 hb hheap _ _ hok => by
          refine ⟨hpos, .inr ⟨w.heap.size, _, e, c.toNat, hb, hheap, by simp only [maxLen]; omega, by simp; omega, hsize, ?_⟩⟩
          intro i hi
          simp only [List.length_replicate] at hi
          refine ⟨z.cells.toList, ?_, fun j hj => ?_⟩
          · rw [List.getElem_replicate]; exact zeroFit_sound hzf
          · have hj' : j < s.n := by simp [hzl] at hj; exact hj
            have hlt : i * s.n + j < c.toNat * s.n := by
              calc i * s.n + j < i * s.n + s.n := by omega
                _ = (i + 1) * s.n := by rw [Nat.add_mul, Nat.one_mul]
                _ ≤ c.toNat * s.n := Nat.mul_le_mul_right _ (by omega)
            rw [← hiesz] at hlt
            simp only [madeCells, Array.getElem?_toList, Array.getElem?_map]
            rw [Array.getElem?_range]
            rw [hiesz] at hlt ⊢
            simp only [hlt, if_true, Option.map_some, hzl]
            rw [(div_row (i := i) hj').2]
            simp [hzl, hj'])
        refine ⟨_, _, hrun, _, _, _, hc, hobj, .inr ⟨rfl, fun s2 xs2 h2 => ?_⟩⟩
        rw [lookO_new, if_pos rfl] at h2
        cases h2
        exact .inr ⟨w.heap.size, c.toNat, _, e, by simp, by simp, heap_alloc_new w _, hsize⟩
    · cases hc
  · cases hc

/-- a slice of the function's own that is cut short for good, or becomes a list -/
theorem turnTo_sound (hE : E.Good) (h : Rel E pl st a w) {dst : Nat} {k : Key} {s : Sh} {xs xs' : List (Val s)} (hlk : lookO st.objs k = some (.slice s xs)) {bo : Option Nat} {w' : World}
    (kp : Keeps (fun b => pl.blk k = some b) w w') (hb' : ∀ b, bo = some b → b < w'.heap.size ∧ (pl.blk k = some b ∨ w.heap.size ≤ b)) (hn : 0 < s.n)
    (ho : ∀ ok', (∀ b, E.ok pl st.objs w b → ok' b ∧ w'.heap[b]? = w.heap[b]?) → (bo = none ∧ xs' = []) ∨ ∃ b cur e cap, bo = some b ∧ w'.heap[b]? = some (.cells cur e (0, 0)) ∧ cap ≤ maxLen ∧ xs'.length ≤ cap ∧ cur.size = cap * s.n ∧ Rows w' ok' s xs' cur.toList) :
    ∃ pl', Rel E pl' (turnTo dst k s xs' st).2 a w' ∧ pl'.blk (turnTo dst k s xs' st).1 = bo ∧ lookO (turnTo dst k s xs' st).2.objs (turnTo dst k s xs' st).1 = some (.slice s xs') := by
  unfold turnTo
  cases hi : isImp k with
  | false =>
    simp only [cond_false]
    exact ⟨_, h.turnSlice hE hi hlk kp hb' hn ho, by simp, by rw [lookO_turn, if_pos rfl]⟩
  | true =>
    simp only [cond_true]
    have hne : k ≠ .loc dst := fun e => by subst e; cases hi
    have h1 := h.rename hE hne (K' := .loc dst) rfl
    have hlk1 : lookO (st.rename k (.loc dst)).objs (.loc dst) = some (.slice s xs) := by
      simp only [St.rename]
      have hno : lookO (mapO (L.ren fun k' => bif keyB k k' then some (.loc dst) else some k') (st.drop (.loc dst)).objs) (.loc dst) = none := by
        rw [lookO_mapO, lookO_drop, if_pos rfl]; rfl
      rw [lookO_rename hno, if_pos rfl, lookO_mapO, lookO_drop, if_neg hne, hlk]
      rfl
    have hmut : ∀ b, Mut ⟨fun k0 => if k0 = .loc dst then pl.blk k else pl.blk k0, fun k0 => if k0 = .loc dst then pl.fn k else pl.fn k0⟩ (st.rename k (.loc dst)).objs b → Mut pl st.objs b := by
      rintro b ⟨k0, o', ho', hb⟩
      simp only [St.rename] at ho'
      have hno : lookO (mapO (L.ren fun k' => bif keyB k k' then some (.loc dst) else some k') (st.drop (.loc dst)).objs) (.loc dst) = none := by
        rw [lookO_mapO, lookO_drop, if_pos rfl]; rfl
      rw [lookO_rename hno] at ho'
      by_cases e : k0 = .loc dst
      · rw [if_pos e, lookO_mapO, lookO_drop, if_neg hne, hlk] at ho'
        simp only [e, if_true] at hb
        exact ⟨k, _, hlk, hb⟩
      · rw [if_neg e] at ho'
        split at ho'
        · cases ho'
        · rw [lookO_mapO, lookO_drop, if_neg e] at ho'
          simp only [if_neg e] at hb
          obtain ⟨o1, ho1, _⟩ := Option.map_eq_some_iff.1 ho'
          obtain ⟨o2, ho2, _⟩ := Option.map_eq_some_iff.1 ho1
          exact ⟨k0, o2, ho2, hb⟩
    refine ⟨_, h1.turnSlice hE (key := .loc dst) rfl hlk1 (by simpa using kp) (by simpa using hb') hn (fun ok' hok' => ho ok' (fun b hb => hok' b ⟨hb.1, hb.2.1, fun e => hb.2.2 (hmut b e)⟩)), by simp, by rw [lookO_turn, if_pos rfl]⟩

theorem sliceOwn_sound (hE : E.Good) {R : Type} {K : C → St → Option R} {r : R} (h : Rel E pl st a w) {pop : Bool} {dst : Nat} {t : TypeId} {k : Key} {y : Value} {lo hi : Option Operand} {l u : Option Int}
    (hy : CRel pl st.objs w (E.ok pl st.objs w) (.one (.sl k)) y) (hl : optInt st.α lo = some l) (hu : optInt st.α hi = some u) (hc : sliceOwn P pop dst t st k l u K = some r) :
    ∃ v, (Instr.sliceAt t y (lo.map a.eval) (hi.map a.eval) none).run P w = .ok v w ∧ Out E K r a v w := by
  unfold sliceOwn at hc
  split at hc
  · rename_i e s xs he hlk
    by_cases hsz : sizeT P e = some s.n
    · simp only [hsz, decide_true, cond_true] at hc
      obtain ⟨⟨g1, g2, g3⟩, hk⟩ := guardC_some hc
      obtain ⟨hn, h1⟩ := h.heap.slice hlk (LR.one' hy (by simp)).2
      -- the value
      have hval : ∃ ad cap, y = .slice ad xs.length cap ∧ xs.length ≤ cap := by
        rcases h1 with ⟨_, ⟨ad, rfl⟩, rfl⟩ | ⟨b, cap, cur, e2, hb, rfl, hw, hm, hlc, hcs, hrows⟩
        · exact ⟨ad, 0, rfl, Nat.le_refl _⟩
        · exact ⟨_, cap, rfl, hlc⟩
      obtain ⟨ad, cap, hyy, hlc⟩ := hval
      have hrun := run_slice (P := P) h hl hu (elemT_some he) hsz (ad := ad) (len := xs.length) (cap := cap) hlc g1 g2 g3 w
      rw [← hyy] at hrun
      cases hp : (pop && l.isNone) with
      | false =>
        rw [hp] at hk
        simp only [cond_false] at hk
        -- freeze, then a part of a list
        have h2 := (h.push hy).freeze hE k
        have hfr : St.freeze k ⟨st.α ++ [.one (.sl k)], st.objs⟩ = ⟨(st.freeze k).α ++ [.one (.v (.slice s) xs)], (st.freeze k).objs⟩ := by
          simp [St.freeze, hlk, C.map, L.frz]
        rw [hfr] at h2
        obtain ⟨h3, h4⟩ := h2.pop
        have hcr : CR w (E.ok pl (st.freeze k).objs w) (.slice s) xs [y] := (LR.one' h4 (by simp)).2
        obtain ⟨ad2, cap2, hy2, hlc2, hpart⟩ := hcr.part (lo := (l.getD 0).toNat) (hi := (u.getD (xs.length : Int)).toNat) (by omega) (by omega)
        rw [hyy] at hy2
        cases hy2
        exact ⟨_, hrun, pl, _, _, hk, h3, .inr ⟨rfl, hpart⟩⟩
      | true =>
        rw [hp] at hk
        simp only [cond_true] at hk
        simp only [Bool.and_eq_true, Option.isNone_iff_eq_none] at hp
        have hl0 := hp.2
        subst hl0
        simp only [Option.getD_none, Int.toNat_zero, Nat.zero_mul, Nat.sub_zero] at hrun
        have hlen : (xs.take (u.getD (xs.length : Int)).toNat).length = (u.getD (xs.length : Int)).toNat := by simp; omega
        obtain ⟨pl', h2, hb2, hlk2⟩ := turnTo_sound hE h (dst := dst) (xs' := xs.take (u.getD (xs.length : Int)).toNat) hlk (bo := pl.blk k) (w' := w) (Keeps.refl _ w) (fun b hb => ⟨(h.heap.own k b (by rw [hlk]; rfl) hb).1, .inl hb⟩) hn (fun ok' hok' => by
          rcases h1 with ⟨h0, _, hx⟩ | ⟨b, cap, cur, e2, hb, _, hw, hm, hlc, hcs, hrows⟩
          · exact .inl ⟨h0, by rw [hx]; simp⟩
          · refine .inr ⟨b, cur, e2, cap, hb, hw, hm, by omega, hcs, fun i hi => ?_⟩
            rw [hlen] at hi
            obtain ⟨c, hcc, hj⟩ := hrows i (by omega)
            exact ⟨c, by rw [List.getElem_take]; exact hcc.mono hok', hj⟩)
        refine ⟨_, hrun, pl', _, _, hk, h2, .inr ⟨rfl, fun s2 xs2 h3 => ?_⟩⟩
        rw [hlk2] at h3
        cases h3
        rw [hb2]
        rcases h1 with ⟨h0, hy0, hx⟩ | ⟨b, cap', cur, e2, hb, hy0, hw, hm, hlc', hcs, hrows⟩
        · obtain ⟨ad0, hy0⟩ := hy0
          rw [hyy] at hy0
          injection hy0 with e1 _ e3
          have : (u.getD (xs.length : Int)).toNat = 0 := by rw [hx] at g3 ⊢; simp at g3 ⊢; omega
          rw [this, e3]
          exact .inl ⟨h0, _, rfl⟩
        · rw [hyy] at hy0
          cases hy0
          refine .inr ⟨b, cap, cur, e2, hb, ?_, hw, hcs⟩
          rw [hlen]
          simp [Addr.add_zero']
    · simp [hsz] at hc
  · cases hc

theorem caps_sound {pl' : Pl} {objs' : Objs} {w' : World} {ok' : Nat → Prop} {f : L → L} (hleaf : ∀ l y, LR' pl objs w ok l y → LR' pl' objs' w' ok' (f l) y) : ∀ (caps : List C) (cs : List Value),
    (caps.any (fun c => match c with | .tup _ => true | .one .dead => true | _ => false)) = false → (caps.any (fun c => match c with | .one _ => false | _ => true)) = false →
    All2 (CRel pl objs w ok) caps cs → All2 (LR' pl' objs' w' ok') (caps.flatMap fun c => (C.map f c).cells) cs
  | [], cs, _, _, h => by rw [h.nilL]; exact trivial
  | _ :: _, [], _, _, h => by cases h
  | c :: r, v :: cs, h1, h2, h => by
    simp only [List.any_cons, Bool.or_eq_false_iff] at h1 h2
    have ih := caps_sound hleaf r cs h1.2 h2.2 h.2
    rw [List.flatMap_cons]
    cases c with
    | tup _ => simp at h1
    | agg _ => simp at h2
    | one l =>
      have hl : l ≠ .dead := fun e => by subst e; simp at h1
      exact ⟨hleaf l v (h.1.resolve_left hl), ih⟩

theorem makeFuncOp_sound (hE : E.Good) {R : Type} {K : C → St → Option R} {r : R} (h : Rel E pl st a w) {dst : Nat} {g : FuncId} {first caps : List C} {fs cs : List Value}
    (hf : All2 (CRel pl st.objs w (E.ok pl st.objs w)) first fs) (hcp : All2 (CRel pl st.objs w (E.ok pl st.objs w)) caps cs) (hc : makeFuncOp dst g first caps st K = some r) :
    Out E K r a (.func (.func g) fs.toArray cs.toArray) w := by
  unfold makeFuncOp at hc
  generalize hcond : ((first ++ caps).any (fun c => match c with | .tup _ => true | .one .dead => true | _ => false) || caps.any (fun c => match c with | .one _ => false | _ => true)) = b at hc
  cases b with
  | true => cases hc
  | false =>
    simp only [cond_false] at hc
    rw [Bool.or_eq_false_iff, List.any_append, Bool.or_eq_false_iff] at hcond
    obtain ⟨⟨hc1, hc2⟩, hc3⟩ := hcond
    have h1 := h.new hE (.loc dst) (.clo g (first.map fun c => compF (C.map (L.kill (keyB (.loc dst))) c)) (caps.flatMap fun c => (C.map (L.kill (keyB (.loc dst))) c).cells)) rfl
      (pl' := pl.setF (.loc dst) (fs.toArray, cs.toArray)) (w' := w) (Keeps.refl _ w) (fun k e => ⟨(pl.setF_other _ e).2, (pl.setF_other _ e).1⟩) (fun b hb => by simp at hb) (fun hleaf _ => by
        refine ⟨by simp, fs.toArray, cs.toArray, by simp, ?_, ?_⟩
        · refine All2.mapL (g := fun c => compF (C.map (L.kill (keyB (.loc dst))) c)) (R := fun c v => c ∈ first ∧ CRel pl st.objs w (E.ok pl st.objs w) c v) (fun c v ⟨hm, hr⟩ => ?_) (hf.impMem fun c v hm hr => ⟨hm, hr⟩)
          have hcm := (List.any_eq_false.1 hc1) c hm
          cases c with
          | tup _ => simp at hcm
          | one l =>
            have hl : l ≠ .dead := fun e => by subst e; simp at hcm
            exact ⟨_, rfl, .inr (hleaf l v (hr.resolve_left hl))⟩
          | agg ls =>
            obtain ⟨vs, rfl, hv⟩ := hr
            exact ⟨vs, rfl, hv.mapL hleaf⟩
        · simp only [List.toList_toArray]
          exact caps_sound hleaf caps cs hc2 hc3 hcp)
    refine ⟨_, _, _, hc, h1, .inr ⟨rfl, fun g2 f2 c2 h2 => ?_⟩⟩
    rw [lookO_new, if_pos rfl] at h2
    cases h2
    exact ⟨fs.toArray, cs.toArray, by simp, rfl⟩

end
end Go.AI
