/-
  The examples of the chapter: sanity() answers true.
-/
import Derived.Test.YtcgpoabiloehnaaDoorQ1
set_option linter.unusedVariables false
set_option maxRecDepth 100000
namespace Go.AI
open Go Go.Proofs

theorem val_call {ap : AP} {rp : RP} {g : ap.Pay → Option rp.Pay} {T : Tab} {f : FuncId} {args : List C} {v : rp.Pay} (hT : T f = some (objC ap rp g)) (ha : apartK (rp.os.map (·.1)) = true) (hv : (ap.un args []).bind g = some v) {R : Type} (K : rp.Pay → Option R) :
    callC rp (callT T f args []) K = K v := by
  simp only [callT, hT]
  rw [callC_obj ha, hv]
  rfl
theorem e12 : (ap12.un (C.agg [L.v I64 (1900 : Int), L.v I64 (3 : Int), L.v I64 (1 : Int)] :: []) []).bind (t12 (callT T26) 3000) = some ((((18321 : Int), ()), (((0 : Int), ()), ())), ()) := by kernel_rfl
theorem e13 : (ap13.un (C.one (L.v I64 (60000 : Int)) :: []) []).bind (t13 (callT T12) 3000) = some ((((2014 : Int), ((4 : Int), ((11 : Int), ()))), (((0 : Int), ()), ())), ()) := by kernel_rfl
theorem e14 : (ap14.un (C.one (L.v I64 (6 : Int)) :: []) []).bind (t14 (callT T30) 3000) = some ((((6 : Int), ((12 : Int), ())), (((0 : Int), ()), ())), ()) := by kernel_rfl
theorem e15 : (ap15.un (C.one (L.v I64 (1 : Int)) :: []) []).bind (t15 (callT T31) 3000) = some ((((31 : Int), ((58 : Int), ())), (((0 : Int), ()), ())), ()) := by kernel_rfl
theorem e16 : (ap16.un (C.one (L.v I64 (30 : Int)) :: C.one (L.v I64 (1 : Int)) :: []) []).bind (t16 (callT T15) 3000) = some ((((58 : Int), ()), (((0 : Int), ()), ())), ()) := by kernel_rfl
theorem e17 : (ap17.un (C.one (L.v I64 (10 : Int)) :: C.one (L.v I64 (3 : Int)) :: C.one (L.v I64 (2 : Int)) :: []) []).bind (t17 (callT T35) 3000) = some ((((7 : Int), ((9 : Int), ())), (((0 : Int), ()), ())), ()) := by kernel_rfl
theorem e18 : (ap18.un (C.agg [L.v I64 (1871 : Int), L.v I64 (3 : Int), L.v I64 (14 : Int)] :: []) []).bind (t18 (callT T36) 3000) = some ((((⟨#[49, 52, 32, 77, 97, 114, 32, 49, 56, 55, 49]⟩ : ByteArray), ()), (((0 : Int), ()), ())), ()) := by kernel_rfl
def exU : List (Int × Int) := [(5, 9), (0, 2), (3, 3), (20, 30)]
theorem exU_union : unionP exU = ([(0, 3), (5, 9), (20, 30)], 0) := by
  have he : errS exU = 0 := by decide
  have hok : allOk exU = true := by decide
  have hr : refUnionL exU = [(0, 3), (5, 9), (20, 30)] := by kernel_rfl
  unfold unionP
  rw [if_pos he, union_eq hok, hr]

theorem t4_run (k : Nat) (x : ap4.Pay) : t4 (callT T18) k x = some (true, ()) := by
  unfold t4
  rw [val_call (T := T18) (f := 12) (g := t12 (callT T26) 3000) rfl rfl e12, val_call (T := T18) (f := 13) (g := t13 (callT T12) 3000) rfl rfl e13, val_call (T := T18) (f := 14) (g := t14 (callT T30) 3000) rfl rfl e14,
    val_call (T := T18) (f := 15) (g := t15 (callT T31) 3000) rfl rfl e15, val_call (T := T18) (f := 16) (g := t16 (callT T15) 3000) rfl rfl e16, val_call (T := T18) (f := 17) (g := t17 (callT T35) 3000) rfl rfl e17]
  have h5 := c5 (T := T18) rfl (R := rp4.Pay)
  refine (h5 _ exU (by decide)).trans ?_
  rw [exU_union, val_call (T := T18) (f := 18) (g := t18 (callT T36) 3000) rfl rfl e18]
  simp only [brC_ite, bne_self_eq_false, Bool.false_eq_true, if_false, beq_self_eq_true, if_true, decide_true, Bool.and_self]
  have h7 := c7 (T := T18) rfl (R := rp4.Pay)
  refine (h7 _ [(0, 3), (5, 9), (20, 30)] [(0, 3), (5, 9), (20, 30)] (by decide)).trans ?_
  simp

noncomputable def T4 : Tab := addT 4 p4 T18
theorem T4_snd {lo : Nat} : TSnd Tryd.prog GD lo T4 := TSnd.add (run_snd (T := T18) T18_snd Tryd.func4 (by kernel_rfl) (t4_eq _) (fun x y h => ⟨0, by rw [t4_run]; exact h⟩)) T18_snd
/-- THE STATEMENT's FUNCTION: its contract -/
theorem dateUnion_snd {lo : Nat} : Snd Tryd.prog GD lo 3 p3 :=
  run_snd (T := T4) T4_snd Tryd.func3 (by kernel_rfl) (t3_eq _) (fun x y h => ⟨0, by rw [t3_run rfl rfl rfl rfl rfl rfl rfl rfl]; exact h⟩)
end Go.AI
