/-
  Sorting spans by where they begin: the order in which Go's sort leaves them, as a plain function; it is a permutation, sorted.
-/
import Derived.Shelf.SlSortCmp.NoneTotal
import Derived.Test.YtcgpoabiloehnaaDoorC1
set_option linter.unusedVariables false
namespace Go.AI
open Go Go.Sort Go.Proofs

/-- a span with days -/
def OkS : Type := { s : Int × Int // okS s = true }
instance : Inhabited OkS := ⟨⟨(0, 0), by decide⟩⟩
def cmpS (x y : OkS) : Int := x.1.1 - y.1.1
theorem ltS (x y : OkS) : ltOf cmpS x y = decide (x.1.1 < y.1.1) := by
  unfold ltOf cmpS
  by_cases h : x.1.1 < y.1.1
  · simp [h]; omega
  · simp [h]; omega
theorem swoS : SWO (ltOf cmpS) where
  irrefl x := by rw [ltS]; simp
  trans x y z h1 h2 := by rw [ltS] at *; simp at *; omega
  ntrans x y z h1 h2 := by rw [ltS] at *; simp at *; omega

def liftS : (xs : List (Int × Int)) → (∀ s ∈ xs, okS s = true) → List OkS
  | [], _ => []
  | s :: r, h => ⟨s, h s List.mem_cons_self⟩ :: liftS r (fun t ht => h t (List.mem_cons_of_mem _ ht))
theorem liftS_map : ∀ (xs : List (Int × Int)) (h : ∀ s ∈ xs, okS s = true), (liftS xs h).map (·.1) = xs
  | [], _ => rfl
  | s :: r, h => by
    show s :: (liftS r _).map (·.1) = _
    rw [liftS_map r]
theorem liftS_length (xs : List (Int × Int)) (h : ∀ s ∈ xs, okS s = true) : (liftS xs h).length = xs.length := by
  have := congrArg List.length (liftS_map xs h)
  simpa using this

def pdqS (d : Array OkS) : Array OkS := pdq (ltOf cmpS) d 0 d.size (Lib.bitLen d.size) true true
open Classical in
noncomputable def sortA (xs : List (Int × Int)) : List (Int × Int) := if h : ∀ s ∈ xs, okS s = true then (pdqS (liftS xs h).toArray).toList.map (·.1) else xs

theorem pdqS_spec (d : Array OkS) : PermIn 0 d.size d (pdqS d) ∧ SortedIn (ltOf cmpS) 0 d.size (pdqS d) :=
  pdq_sorts (ltOf cmpS) swoS d 0 d.size (Lib.bitLen d.size) true true (Nat.zero_le _) (Nat.le_refl _) (Or.inl rfl)
theorem pdqS_size (d : Array OkS) : (pdqS d).size = d.size := (pdqS_spec d).1.1
theorem pdqS_perm (d : Array OkS) : (pdqS d).toList.Perm d.toList := by
  have h := (pdqS_spec d).1.2.2
  have e1 : d.extract 0 d.size = d := by simp
  have e2 : (pdqS d).extract 0 d.size = pdqS d := by rw [← pdqS_size d]; simp
  rw [e1, e2] at h
  exact h

theorem sortA_perm (xs : List (Int × Int)) : (sortA xs).Perm xs := by
  unfold sortA
  split
  · rename_i h
    have := (pdqS_perm (liftS xs h).toArray).map (·.1)
    rw [show (liftS xs h).toArray.toList = liftS xs h from rfl, liftS_map] at this
    exact this
  · exact List.Perm.refl _
theorem sortA_sorted (xs : List (Int × Int)) (h : ∀ s ∈ xs, okS s = true) : (sortA xs).Pairwise fun a b => a.1 ≤ b.1 := by
  unfold sortA
  rw [dif_pos h]
  rw [List.pairwise_map, List.pairwise_iff_getElem]
  intro i j hi hj hij
  have hs := (pdqS_spec (liftS xs h).toArray).2 i j (Nat.zero_le _) hij (by rw [← pdqS_size]; simpa using hj)
  rw [ltS] at hs
  simp only [decide_eq_false_iff_not] at hs
  have e1 : (pdqS (liftS xs h).toArray)[i]! = (pdqS (liftS xs h).toArray).toList[i] := by
    rw [getElem!_pos _ i (by simpa using hi)]; simp
  have e2 : (pdqS (liftS xs h).toArray)[j]! = (pdqS (liftS xs h).toArray).toList[j] := by
    rw [getElem!_pos _ j (by simpa using hj)]; simp
  rw [e1, e2] at hs
  show (pdqS (liftS xs h).toArray).toList[i].1.1 ≤ (pdqS (liftS xs h).toArray).toList[j].1.1
  omega
theorem sortA_length (xs : List (Int × Int)) : (sortA xs).length = xs.length := (sortA_perm xs).length_eq
theorem sortA_ok (xs : List (Int × Int)) (h : ∀ s ∈ xs, okS s = true) : ∀ s ∈ sortA xs, okS s = true := fun s hs => h s ((sortA_perm xs).mem_iff.1 hs)

end Go.AI
