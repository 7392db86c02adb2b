/-
  Two lists whose elements stand in a relation, place by place. Plain lemmas on lists.
-/
namespace Go.AI

def All2 {A B : Type} (R : A → B → Prop) : List A → List B → Prop
  | [], [] => True
  | a :: as, b :: bs => R a b ∧ All2 R as bs
  | _, _ => False

namespace All2
variable {A B A' B' : Type} {R : A → B → Prop}

theorem length {as : List A} {bs : List B} (h : All2 R as bs) : as.length = bs.length := by
  induction as generalizing bs with
  | nil => cases bs with
    | nil => rfl
    | cons b bs => exact h.elim
  | cons a as ih => cases bs with
    | nil => exact h.elim
    | cons b bs => simp [ih h.2]

theorem imp {S : A → B → Prop} (f : ∀ a b, R a b → S a b) {as : List A} {bs : List B} (h : All2 R as bs) : All2 S as bs := by
  induction as generalizing bs with
  | nil => cases bs with
    | nil => trivial
    | cons b bs => exact h.elim
  | cons a as ih => cases bs with
    | nil => exact h.elim
    | cons b bs => exact ⟨f _ _ h.1, ih h.2⟩

theorem impMem {S : A → B → Prop} {as : List A} {bs : List B} (f : ∀ a b, a ∈ as → R a b → S a b) (h : All2 R as bs) : All2 S as bs := by
  induction as generalizing bs with
  | nil => cases bs with
    | nil => trivial
    | cons b bs => exact h.elim
  | cons a as ih => cases bs with
    | nil => exact h.elim
    | cons b bs => exact ⟨f _ _ (by simp) h.1, ih (fun a b ha => f a b (by simp [ha])) h.2⟩

theorem mapL {S : A' → B → Prop} {g : A → A'} (f : ∀ a b, R a b → S (g a) b) {as : List A} {bs : List B} (h : All2 R as bs) : All2 S (as.map g) bs := by
  induction as generalizing bs with
  | nil => cases bs with
    | nil => trivial
    | cons b bs => exact h.elim
  | cons a as ih => cases bs with
    | nil => exact h.elim
    | cons b bs => exact ⟨f _ _ h.1, ih h.2⟩

theorem mapR {S : A → B' → Prop} {g : B → B'} (f : ∀ a b, R a b → S a (g b)) {as : List A} {bs : List B} (h : All2 R as bs) : All2 S as (bs.map g) := by
  induction as generalizing bs with
  | nil => cases bs with
    | nil => trivial
    | cons b bs => exact h.elim
  | cons a as ih => cases bs with
    | nil => exact h.elim
    | cons b bs => exact ⟨f _ _ h.1, ih h.2⟩

theorem append {as : List A} {bs : List B} {as' : List A} {bs' : List B} (h : All2 R as bs) (h' : All2 R as' bs') : All2 R (as ++ as') (bs ++ bs') := by
  induction as generalizing bs with
  | nil => cases bs with
    | nil => exact h'
    | cons b bs => exact h.elim
  | cons a as ih => cases bs with
    | nil => exact h.elim
    | cons b bs => exact ⟨h.1, ih h.2⟩

theorem take (n : Nat) {as : List A} {bs : List B} (h : All2 R as bs) : All2 R (as.take n) (bs.take n) := by
  induction as generalizing bs n with
  | nil => cases bs with
    | nil => simp [All2]
    | cons b bs => exact h.elim
  | cons a as ih => cases bs with
    | nil => exact h.elim
    | cons b bs => cases n with
      | zero => simp [All2]
      | succ n => exact ⟨h.1, ih n h.2⟩

theorem drop (n : Nat) {as : List A} {bs : List B} (h : All2 R as bs) : All2 R (as.drop n) (bs.drop n) := by
  induction as generalizing bs n with
  | nil => cases bs with
    | nil => simp [All2]
    | cons b bs => exact h.elim
  | cons a as ih => cases bs with
    | nil => exact h.elim
    | cons b bs => cases n with
      | zero => exact h
      | succ n => exact ih n h.2

theorem get {as : List A} {bs : List B} (h : All2 R as bs) (i : Nat) (a : A) (ha : as[i]? = some a) : ∃ b, bs[i]? = some b ∧ R a b := by
  induction as generalizing bs i with
  | nil => simp at ha
  | cons a' as ih => cases bs with
    | nil => exact h.elim
    | cons b bs => cases i with
      | zero => simp at ha; subst ha; exact ⟨b, rfl, h.1⟩
      | succ i => simp at ha; simpa using ih h.2 i ha

theorem getR {as : List A} {bs : List B} (h : All2 R as bs) (i : Nat) (b : B) (hb : bs[i]? = some b) : ∃ a, as[i]? = some a ∧ R a b := by
  induction as generalizing bs i with
  | nil => cases bs with
    | nil => simp at hb
    | cons b bs => exact h.elim
  | cons a' as ih => cases bs with
    | nil => exact h.elim
    | cons b' bs => cases i with
      | zero => simp at hb; subst hb; exact ⟨a', rfl, h.1⟩
      | succ i => simp at hb; simpa using ih h.2 i hb

theorem set {as : List A} {bs : List B} (h : All2 R as bs) (i : Nat) {a : A} {b : B} (hab : R a b) : All2 R (as.set i a) (bs.set i b) := by
  induction as generalizing bs i with
  | nil => cases bs with
    | nil => simp [All2]
    | cons b bs => exact h.elim
  | cons a' as ih => cases bs with
    | nil => exact h.elim
    | cons b' bs => cases i with
      | zero => exact ⟨hab, h.2⟩
      | succ i => exact ⟨h.1, ih h.2 i⟩

theorem replicate (n : Nat) {a : A} {b : B} (hab : R a b) : All2 R (List.replicate n a) (List.replicate n b) := by
  induction n with
  | zero => simp [All2]
  | succ n ih => exact ⟨hab, ih⟩

theorem ofGet {as : List A} {bs : List B} (hl : as.length = bs.length) (h : ∀ (i : Nat) (a : A) (b : B), as[i]? = some a → bs[i]? = some b → R a b) : All2 R as bs := by
  induction as generalizing bs with
  | nil => cases bs with
    | nil => trivial
    | cons b bs => simp at hl
  | cons a as ih => cases bs with
    | nil => simp at hl
    | cons b bs => exact ⟨h 0 a b rfl rfl, ih (by simpa using hl) fun i a b ha hb => h (i + 1) a b (by simpa using ha) (by simpa using hb)⟩

theorem splitL {as as' : List A} {bs : List B} (h : All2 R (as ++ as') bs) : ∃ b1 b2, bs = b1 ++ b2 ∧ All2 R as b1 ∧ All2 R as' b2 := by
  induction as generalizing bs with
  | nil => exact ⟨[], bs, rfl, trivial, h⟩
  | cons a as ih => cases bs with
    | nil => exact h.elim
    | cons b bs =>
      obtain ⟨b1, b2, rfl, h1, h2⟩ := ih h.2
      exact ⟨b :: b1, b2, rfl, ⟨h.1, h1⟩, h2⟩

theorem nilL {bs : List B} (h : All2 R [] bs) : bs = [] := by cases bs with
  | nil => rfl
  | cons b bs => exact h.elim
theorem nilR {as : List A} (h : All2 R as []) : as = [] := by cases as with
  | nil => rfl
  | cons b bs => exact h.elim
theorem oneL {a : A} {bs : List B} (h : All2 R [a] bs) : ∃ b, bs = [b] ∧ R a b := by cases bs with
  | nil => exact h.elim
  | cons b bs => exact ⟨b, by rw [h.2.nilL], h.1⟩
theorem oneR {as : List A} {b : B} (h : All2 R as [b]) : ∃ a, as = [a] ∧ R a b := by cases as with
  | nil => exact h.elim
  | cons a as => exact ⟨a, by rw [h.2.nilR], h.1⟩
end All2
end Go.AI
