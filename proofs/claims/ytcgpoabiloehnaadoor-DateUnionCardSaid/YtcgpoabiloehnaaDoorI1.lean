/-
  strconv.Itoa: its contract, where the table of powers stands in memory.
-/
import Derived.Test.YtcgpoabiloehnaaDoorS1
set_option linter.unusedVariables false
set_option linter.unusedSimpArgs false
namespace Go.AI
open Go Go.Sort Go.Proofs Go.Shelf Go.RowKit Go.Lib

/-- what is known of package variables: the table of powers -/
def GD (w : World) : Prop := Lib.TabIs Tryd.prog w "internal/strconv.uint64pow10" .u64 Lib.pow10Tab

def g37 (x : ap37.Pay) : Option rp37.Pay := if (decide (-9223372036854775808 ≤ x.1.1) && decide (x.1.1 ≤ 9223372036854775807)) = true then some (⟨(Lib.itoa x.1.1).toArray⟩, ()) else none
def p37 := objC ap37 rp37 g37

theorem itoa_snd {lo : Nat} : Snd Tryd.prog GD lo 37 p37 := by
  intro E pl w args objs vs r hE eG eL e0 eP eO hh ha hr
  unfold p37 objC at hr
  obtain ⟨x, hx, hr⟩ := Option.bind_eq_some_iff.1 hr
  obtain ⟨y, hy, rfl⟩ := Option.map_eq_some_iff.1 hr
  obtain ⟨hh', ha'⟩ := AP.mk_un hh ha hx
  obtain ⟨⟨n, ⟨⟩⟩, ⟨⟩⟩ := x
  unfold g37 at hy
  simp only at hy
  split at hy
  case isFalse => cases hy
  rename_i hb
  simp only [Bool.and_eq_true, decide_eq_true_eq] at hb
  cases hy
  obtain ⟨y0, hvs, h0⟩ : ∃ y0, vs = #[y0] ∧ CRel pl (mkOs ap37.os ()) w (E.ok pl (mkOs ap37.os ()) w) (.one (.v (.int .i64) n)) y0 := by
    obtain ⟨l⟩ := vs
    match l, ha' with
    | [y0], h => exact ⟨y0, rfl, h.1⟩
    | [], h => exact h.elim
    | _ :: _ :: _, h => exact h.2.elim
  subst hvs
  have hv : y0 = .int .i64 n := by
    have := CRel.int h0
    exact this
  subst hv
  refine ⟨⟨Tryd.f37, Tryd.func37, by kernel_rfl, by kernel_rfl⟩, ?_⟩
  have hG : GD w := by
    have := hh.glob
    rw [eG] at this
    exact this
  refine (Tryd.strconv_Itoa n hb.1 hb.2 w hG).mono fun e w' ⟨he, k, os, hw'⟩ => ?_
  subst he
  have hrel : Rel E pl ⟨[], mkOs ap37.os ()⟩ { tmps := #[], defers := [] } w := ⟨rfl, trivial, hh'⟩
  have hkeep : Keeps (fun _ => False) w w' := by
    rw [hw']
    refine Keeps.of_grow ?_ (fun i hi => ?_) rfl rfl rfl
    · show w.heap.size ≤ (w.heap ++ os).size
      simp
    · show (w.heap ++ os)[i]? = _
      rw [Array.getElem?_append_left hi]
  have h3 := hrel.grow hE hkeep
  exact ⟨_, pl, rfl, h3.heap, crel_str _⟩
end Go.AI
