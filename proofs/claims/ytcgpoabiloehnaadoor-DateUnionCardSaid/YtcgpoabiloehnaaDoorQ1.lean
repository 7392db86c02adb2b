/-
  The table of contracts: every function that the statement reaches, one behind the other.
-/
import Derived.Test.YtcgpoabiloehnaaDoorC8
import Derived.Test.YtcgpoabiloehnaaDoorI1
import Derived.Test.YtcgpoabiloehnaaDoorTree4
set_option linter.unusedVariables false
set_option maxRecDepth 100000
namespace Go.AI
open Go Go.Proofs

theorem auto_snd {G : World → Prop} {lo : Nat} {T : Tab} (hT : TSnd Tryd.prog G lo T) {f : FuncId} {fn : Func} (hf : Tryd.prog.funcs[f]? = some fn) (hname : (fn.name == "runtime.NumGoroutine") = false) {ap : AP} {rp : RP}
    {t : Nat → ap.Pay → Option rp.Pay} (ht : ∀ k x, bodyT Tryd.prog HH (callT T) f fn k ap rp x = t k x) (k0 : Nat) : Snd Tryd.prog G lo f (objC ap rp (t k0)) :=
  bodyT_sound hT.all hf hname (fun x y h => ⟨k0, by rw [ht]; exact h⟩)
theorem run_snd {G : World → Prop} {lo : Nat} {T : Tab} (hT : TSnd Tryd.prog G lo T) {f : FuncId} {fn : Func} (hf : Tryd.prog.funcs[f]? = some fn) (hname : (fn.name == "runtime.NumGoroutine") = false) {ap : AP} {rp : RP}
    {t : Nat → ap.Pay → Option rp.Pay} (ht : ∀ k x, bodyT Tryd.prog HH (callT T) f fn k ap rp x = t k x) {g : ap.Pay → Option rp.Pay} (hg : ∀ x y, g x = some y → ∃ k, t k x = some y) : Snd Tryd.prog G lo f (objC ap rp g) :=
  bodyT_sound hT.all hf hname (fun x y h => (hg x y h).imp fun k hk => by rw [ht]; exact hk)

variable {lo : Nat}
noncomputable def T37 : Tab := addT 37 p37 noTab
theorem T37_snd : TSnd Tryd.prog GD lo T37 := TSnd.add itoa_snd TSnd.none
noncomputable def T41 : Tab := addT 41 p41 T37
theorem T41_snd : TSnd Tryd.prog GD lo T41 := TSnd.add sort_snd T37_snd
noncomputable def T21 : Tab := addT 21 p21 T41
theorem T21_snd : TSnd Tryd.prog GD lo T21 := TSnd.add (run_snd (T := T41) T41_snd Tryd.func21 (by kernel_rfl) (t21_eq _) (fun x y h => ⟨0, by rw [t21_run]; exact h⟩)) T41_snd
noncomputable def T39 : Tab := addT 39 p39 T21
theorem T39_snd : TSnd Tryd.prog GD lo T39 := TSnd.add (run_snd (T := T21) T21_snd Tryd.func39 (by kernel_rfl) (t39_eq _) (fun x y h => ⟨0, by rw [t39_run rfl]; exact h⟩)) T21_snd
noncomputable def T49 : Tab := addT 49 p49 T39
theorem T49_snd : TSnd Tryd.prog GD lo T49 := TSnd.add (run_snd (T := T39) T39_snd Tryd.func49 (by kernel_rfl) (t49_eq _) (fun x y h => t49_run rfl x y h)) T39_snd
noncomputable def T38 : Tab := addT 38 p38 T49
theorem T38_snd : TSnd Tryd.prog GD lo T38 := TSnd.add (run_snd (T := T49) T49_snd Tryd.func38 (by kernel_rfl) (t38_eq _) (fun x y h => ⟨0, t38_run rfl 0 x y h⟩)) T49_snd
noncomputable def T19 : Tab := addT 19 p19 T38
theorem T19_snd : TSnd Tryd.prog GD lo T19 := TSnd.add (run_snd (T := T38) T38_snd Tryd.func19 (by kernel_rfl) (t19_eq _) (fun x y h => ⟨0, t19_run rfl 0 x y h⟩)) T38_snd
noncomputable def T40 : Tab := addT 40 p40 T19
theorem T40_snd : TSnd Tryd.prog GD lo T40 := TSnd.add (run_snd (T := T19) T19_snd Tryd.func40 (by kernel_rfl) (t40_eq _) (fun x y h => ⟨0, t40_run _ 0 x y h⟩)) T19_snd
noncomputable def T43 : Tab := addT 43 p43 T40
theorem T43_snd : TSnd Tryd.prog GD lo T43 := TSnd.add (run_snd (T := T40) T40_snd Tryd.func43 (by kernel_rfl) (t43_eq _) (fun x y h => ⟨0, t43_run _ 0 x y h⟩)) T40_snd
noncomputable def T20 : Tab := addT 20 p20 T43
theorem T20_snd : TSnd Tryd.prog GD lo T20 := TSnd.add (run_snd (T := T43) T43_snd Tryd.func20 (by kernel_rfl) (t20_eq _) (fun x y h => t20_run rfl rfl rfl x y h)) T43_snd
noncomputable def T22 : Tab := addT 22 p22 T20
theorem T22_snd : TSnd Tryd.prog GD lo T22 := TSnd.add (run_snd (T := T20) T20_snd Tryd.func22 (by kernel_rfl) (t22_eq _) (fun x y h => t22_run _ x y h)) T20_snd
noncomputable def T5 : Tab := addT 5 p5 T22
theorem T5_snd : TSnd Tryd.prog GD lo T5 := TSnd.add (run_snd (T := T22) T22_snd Tryd.func5 (by kernel_rfl) (t5_eq _) (fun x y h => ⟨0, t5_run rfl rfl 0 x y h⟩)) T22_snd
noncomputable def T6 : Tab := addT 6 p6 T5
theorem T6_snd : TSnd Tryd.prog GD lo T6 := TSnd.add (run_snd (T := T5) T5_snd Tryd.func6 (by kernel_rfl) (t6_eq _) (fun x y h => ⟨0, t6_run rfl rfl rfl rfl 0 x y h⟩)) T5_snd
noncomputable def T10 : Tab := addT 10 p10 T6
theorem T10_snd : TSnd Tryd.prog GD lo T10 := TSnd.add (run_snd (T := T6) T6_snd Tryd.func10 (by kernel_rfl) (t10_eq _) (fun x y h => ⟨0, by rw [t10_run]; exact h⟩)) T6_snd
noncomputable def T8 : Tab := addT 8 p8 T10
theorem T8_snd : TSnd Tryd.prog GD lo T8 := TSnd.add (run_snd (T := T10) T10_snd Tryd.func8 (by kernel_rfl) (t8_eq _) (fun x y h => t8_run rfl x y h)) T10_snd
noncomputable def T24 : Tab := addT 24 p24 T8
theorem T24_snd : TSnd Tryd.prog GD lo T24 := TSnd.add (run_snd (T := T8) T8_snd Tryd.func24 (by kernel_rfl) (t24_eq _) (fun x y h => t24_run _ x y h)) T8_snd
noncomputable def T25 : Tab := addT 25 p25 T24
theorem T25_snd : TSnd Tryd.prog GD lo T25 := TSnd.add (run_snd (T := T24) T24_snd Tryd.func25 (by kernel_rfl) (t25_eq _) (fun x y h => ⟨0, t25_run _ 0 x y h⟩)) T24_snd
noncomputable def T23 : Tab := addT 23 p23 T25
theorem T23_snd : TSnd Tryd.prog GD lo T23 := TSnd.add (run_snd (T := T25) T25_snd Tryd.func23 (by kernel_rfl) (t23_eq _) (fun x y h => t23_run _ x y h)) T25_snd
noncomputable def T9 : Tab := addT 9 p9 T23
theorem T9_snd : TSnd Tryd.prog GD lo T9 := TSnd.add (run_snd (T := T23) T23_snd Tryd.func9 (by kernel_rfl) (t9_eq _) (fun x y h => t9_run rfl rfl rfl x y h)) T23_snd
noncomputable def T11 : Tab := addT 11 p11 T9
theorem T11_snd : TSnd Tryd.prog GD lo T11 := TSnd.add (run_snd (T := T9) T9_snd Tryd.func11 (by kernel_rfl) (t11_eq _) (fun x y h => t11_run rfl rfl rfl x y h)) T9_snd
noncomputable def T7 : Tab := addT 7 p7 T11
theorem T7_snd : TSnd Tryd.prog GD lo T7 := TSnd.add (run_snd (T := T11) T11_snd Tryd.func7 (by kernel_rfl) (t7_eq _) (fun x y h => t7_run _ x y h)) T11_snd
noncomputable def p52 := objC ap52 rp52 (t52 (callT T7) 3000)
noncomputable def T52 : Tab := addT 52 p52 T7
theorem T52_snd : TSnd Tryd.prog GD lo T52 := TSnd.add (auto_snd (T := T7) T7_snd Tryd.func52 (by kernel_rfl) (t52_eq _) 3000) T7_snd
noncomputable def p45 := objC ap45 rp45 (t45 (callT T52) 3000)
noncomputable def T45 : Tab := addT 45 p45 T52
theorem T45_snd : TSnd Tryd.prog GD lo T45 := TSnd.add (auto_snd (T := T52) T52_snd Tryd.func45 (by kernel_rfl) (t45_eq _) 3000) T52_snd
noncomputable def p46 := objC ap46 rp46 (t46 (callT T45) 3000)
noncomputable def T46 : Tab := addT 46 p46 T45
theorem T46_snd : TSnd Tryd.prog GD lo T46 := TSnd.add (auto_snd (T := T45) T45_snd Tryd.func46 (by kernel_rfl) (t46_eq _) 3000) T45_snd
noncomputable def p47 := objC ap47 rp47 (t47 (callT T46) 3000)
noncomputable def T47 : Tab := addT 47 p47 T46
theorem T47_snd : TSnd Tryd.prog GD lo T47 := TSnd.add (auto_snd (T := T46) T46_snd Tryd.func47 (by kernel_rfl) (t47_eq _) 3000) T46_snd
noncomputable def p34 := objC ap34 rp34 (t34 (callT T47) 3000)
noncomputable def T34 : Tab := addT 34 p34 T47
theorem T34_snd : TSnd Tryd.prog GD lo T34 := TSnd.add (auto_snd (T := T47) T47_snd Tryd.func34 (by kernel_rfl) (t34_eq _) 3000) T47_snd
noncomputable def p32 := objC ap32 rp32 (t32 (callT T34) 3000)
noncomputable def T32 : Tab := addT 32 p32 T34
theorem T32_snd : TSnd Tryd.prog GD lo T32 := TSnd.add (auto_snd (T := T34) T34_snd Tryd.func32 (by kernel_rfl) (t32_eq _) 3000) T34_snd
noncomputable def p33 := objC ap33 rp33 (t33 (callT T32) 3000)
noncomputable def T33 : Tab := addT 33 p33 T32
theorem T33_snd : TSnd Tryd.prog GD lo T33 := TSnd.add (auto_snd (T := T32) T32_snd Tryd.func33 (by kernel_rfl) (t33_eq _) 3000) T32_snd
noncomputable def p28 := objC ap28 rp28 (t28 (callT T33) 3000)
noncomputable def T28 : Tab := addT 28 p28 T33
theorem T28_snd : TSnd Tryd.prog GD lo T28 := TSnd.add (auto_snd (T := T33) T33_snd Tryd.func28 (by kernel_rfl) (t28_eq _) 3000) T33_snd
noncomputable def p27 := objC ap27 rp27 (t27 (callT T28) 3000)
noncomputable def T27 : Tab := addT 27 p27 T28
theorem T27_snd : TSnd Tryd.prog GD lo T27 := TSnd.add (auto_snd (T := T28) T28_snd Tryd.func27 (by kernel_rfl) (t27_eq _) 3000) T28_snd
noncomputable def p44 := objC ap44 rp44 (t44 (callT T27) 3000)
noncomputable def T44 : Tab := addT 44 p44 T27
theorem T44_snd : TSnd Tryd.prog GD lo T44 := TSnd.add (auto_snd (T := T27) T27_snd Tryd.func44 (by kernel_rfl) (t44_eq _) 3000) T27_snd
noncomputable def p26 := objC ap26 rp26 (t26 (callT T44) 3000)
noncomputable def T26 : Tab := addT 26 p26 T44
theorem T26_snd : TSnd Tryd.prog GD lo T26 := TSnd.add (auto_snd (T := T44) T44_snd Tryd.func26 (by kernel_rfl) (t26_eq _) 3000) T44_snd
noncomputable def p12 := objC ap12 rp12 (t12 (callT T26) 3000)
noncomputable def T12 : Tab := addT 12 p12 T26
theorem T12_snd : TSnd Tryd.prog GD lo T12 := TSnd.add (auto_snd (T := T26) T26_snd Tryd.func12 (by kernel_rfl) (t12_eq _) 3000) T26_snd
noncomputable def p13 := objC ap13 rp13 (t13 (callT T12) 3000)
noncomputable def T13 : Tab := addT 13 p13 T12
theorem T13_snd : TSnd Tryd.prog GD lo T13 := TSnd.add (auto_snd (T := T12) T12_snd Tryd.func13 (by kernel_rfl) (t13_eq _) 3000) T12_snd
noncomputable def p29 := objC ap29 rp29 (t29 (callT T13) 3000)
noncomputable def T29 : Tab := addT 29 p29 T13
theorem T29_snd : TSnd Tryd.prog GD lo T29 := TSnd.add (auto_snd (T := T13) T13_snd Tryd.func29 (by kernel_rfl) (t29_eq _) 3000) T13_snd
noncomputable def p30 := objC ap30 rp30 (t30 (callT T29) 3000)
noncomputable def T30 : Tab := addT 30 p30 T29
theorem T30_snd : TSnd Tryd.prog GD lo T30 := TSnd.add (auto_snd (T := T29) T29_snd Tryd.func30 (by kernel_rfl) (t30_eq _) 3000) T29_snd
noncomputable def p14 := objC ap14 rp14 (t14 (callT T30) 3000)
noncomputable def T14 : Tab := addT 14 p14 T30
theorem T14_snd : TSnd Tryd.prog GD lo T14 := TSnd.add (auto_snd (T := T30) T30_snd Tryd.func14 (by kernel_rfl) (t14_eq _) 3000) T30_snd
noncomputable def p31 := objC ap31 rp31 (t31 (callT T14) 3000)
noncomputable def T31 : Tab := addT 31 p31 T14
theorem T31_snd : TSnd Tryd.prog GD lo T31 := TSnd.add (auto_snd (T := T14) T14_snd Tryd.func31 (by kernel_rfl) (t31_eq _) 3000) T14_snd
noncomputable def p15 := objC ap15 rp15 (t15 (callT T31) 3000)
noncomputable def T15 : Tab := addT 15 p15 T31
theorem T15_snd : TSnd Tryd.prog GD lo T15 := TSnd.add (auto_snd (T := T31) T31_snd Tryd.func15 (by kernel_rfl) (t15_eq _) 3000) T31_snd
noncomputable def p16 := objC ap16 rp16 (t16 (callT T15) 3000)
noncomputable def T16 : Tab := addT 16 p16 T15
theorem T16_snd : TSnd Tryd.prog GD lo T16 := TSnd.add (auto_snd (T := T15) T15_snd Tryd.func16 (by kernel_rfl) (t16_eq _) 3000) T15_snd
noncomputable def p35 := objC ap35 rp35 (t35 (callT T16) 3000)
noncomputable def T35 : Tab := addT 35 p35 T16
theorem T35_snd : TSnd Tryd.prog GD lo T35 := TSnd.add (auto_snd (T := T16) T16_snd Tryd.func35 (by kernel_rfl) (t35_eq _) 3000) T16_snd
noncomputable def p17 := objC ap17 rp17 (t17 (callT T35) 3000)
noncomputable def T17 : Tab := addT 17 p17 T35
theorem T17_snd : TSnd Tryd.prog GD lo T17 := TSnd.add (auto_snd (T := T35) T35_snd Tryd.func17 (by kernel_rfl) (t17_eq _) 3000) T35_snd
noncomputable def p36 := objC ap36 rp36 (t36 (callT T17) 3000)
noncomputable def T36 : Tab := addT 36 p36 T17
theorem T36_snd : TSnd Tryd.prog GD lo T36 := TSnd.add (auto_snd (T := T17) T17_snd Tryd.func36 (by kernel_rfl) (t36_eq _) 3000) T17_snd
noncomputable def p18 := objC ap18 rp18 (t18 (callT T36) 3000)
noncomputable def T18 : Tab := addT 18 p18 T36
theorem T18_snd : TSnd Tryd.prog GD lo T18 := TSnd.add (auto_snd (T := T36) T36_snd Tryd.func18 (by kernel_rfl) (t18_eq _) 3000) T36_snd
end Go.AI
