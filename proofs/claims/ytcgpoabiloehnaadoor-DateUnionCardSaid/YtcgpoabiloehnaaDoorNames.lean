/-
  Names and lists of objects: plain lemmas.
-/
import Derived.Test.YtcgpoabiloehnaaDoorDef
namespace Go.AI
open Go

theorem keyB_iff : ∀ {a b : Key}, keyB a b = true ↔ a = b
  | .loc a, b => by cases b <;> simp [keyB]
  | .imp a, b => by cases b <;> simp [keyB]
  | .res a, b => by cases b <;> simp [keyB]
  | .sub a k, b => by
    cases b with
    | sub c l => simp [keyB, keyB_iff (a := k) (b := l)]
    | _ => simp [keyB]
  | .fld k a, b => by
    cases b with
    | fld l c => simp [keyB, keyB_iff (a := k) (b := l)]; exact And.comm
    | _ => simp [keyB]
@[simp] theorem keyB_self (k : Key) : keyB k k = true := keyB_iff.2 rfl
theorem keyB_ne {a b : Key} (h : a ≠ b) : keyB a b = false := by
  cases hb : keyB a b with
  | false => rfl
  | true => exact absurd (keyB_iff.1 hb) h
theorem keyB_comm (a b : Key) : keyB a b = keyB b a := by
  by_cases h : a = b
  · rw [h]
  · rw [keyB_ne h, keyB_ne (Ne.symm h)]

theorem lookO_setO_same (o : Objs) (k : Key) (x : Obj) : lookO (setO o k x) k = some x := by
  induction o with
  | nil => simp [setO, lookO]
  | cons p r ih =>
    obtain ⟨k', o'⟩ := p
    by_cases h : k' = k
    · subst h; simp [setO, lookO]
    · simp [setO, lookO, keyB_ne h, ih]
theorem lookO_setO_other (o : Objs) {k k' : Key} (x : Obj) (h : k' ≠ k) : lookO (setO o k x) k' = lookO o k' := by
  induction o with
  | nil => simp [setO, lookO, keyB_ne (Ne.symm h)]
  | cons p r ih =>
    obtain ⟨k2, o2⟩ := p
    by_cases h2 : k2 = k
    · subst h2; simp [setO, lookO, keyB_ne (Ne.symm h)]
    · by_cases h3 : k2 = k'
      · subst h3; simp [setO, lookO, keyB_ne h2]
      · simp [setO, lookO, keyB_ne h2, keyB_ne h3, ih]
theorem lookO_filter (o : Objs) (p : Key → Bool) (k : Key) : lookO (o.filter fun q => p q.1) k = if p k = true then lookO o k else none := by
  induction o with
  | nil => simp [lookO]
  | cons q r ih =>
    obtain ⟨k2, o2⟩ := q
    by_cases h2 : k2 = k
    · subst h2
      cases hp : p k2 with
      | true => simp [hp, lookO]
      | false => simp [hp] at ih ⊢; exact ih
    · cases hp : p k2 with
      | true => simp [hp, lookO, keyB_ne h2, ih]
      | false => simp [hp, lookO, keyB_ne h2, ih]
theorem lookO_delO (o : Objs) (key k : Key) : lookO (delO o key) k = if k = key then none else lookO o k := by
  unfold delO
  rw [lookO_filter o (fun q => !keyB q key) k]
  by_cases h : k = key
  · subst h; simp
  · simp [keyB_ne h, h]
theorem lookO_mapO (f : L → L) (o : Objs) (k : Key) : lookO (mapO f o) k = (lookO o k).map (Obj.map f) := by
  induction o with
  | nil => simp [lookO, mapO]
  | cons q r ih =>
    obtain ⟨k2, o2⟩ := q
    simp only [mapO, List.map_cons, lookO] at ih ⊢
    by_cases h2 : k2 = k
    · subst h2; simp
    · simp [keyB_ne h2, ih]
theorem lookO_append (o o' : Objs) (k : Key) : lookO (o ++ o') k = (lookO o k).or (lookO o' k) := by
  induction o with
  | nil => simp [lookO]
  | cons q r ih =>
    obtain ⟨k2, o2⟩ := q
    simp only [List.cons_append, lookO]
    by_cases h2 : k2 = k
    · subst h2; simp
    · simp [keyB_ne h2, ih]

theorem lookO_new (key : Key) (o : Obj) (st : St) (k : Key) :
    lookO (st.new key o).objs k = if k = key then some o else (lookO st.objs k).map (Obj.map (L.kill (keyB key))) := by
  simp only [St.new, St.drop, lookO_append, lookO_mapO, lookO_delO]
  by_cases h : k = key
  · subst h; simp [lookO]
  · simp [h, lookO, keyB_ne (Ne.symm h)]
theorem lookO_drop (key : Key) (st : St) (k : Key) :
    lookO (st.drop key).objs k = if k = key then none else (lookO st.objs k).map (Obj.map (L.kill (keyB key))) := by
  simp only [St.drop, lookO_mapO, lookO_delO]
  by_cases h : k = key
  · subst h; simp
  · simp [h]
theorem lookO_turn (key : Key) (o : Obj) (st : St) (k : Key) :
    lookO (st.turn key o).objs k = if k = key then some o else (lookO st.objs k).map (Obj.map (L.kill (keyB key))) := by
  simp only [St.turn]
  by_cases h : k = key
  · subst h; simp [lookO_setO_same]
  · simp [lookO_setO_other _ _ h, lookO_mapO, h]

theorem kill_key {p : Key → Bool} {l : L} {k : Key} (h : l.key = some k) : l.kill p = if p k = true then .dead else l := by
  unfold L.kill
  simp only [h]
  cases p k <;> simp
theorem kill_none {p : Key → Bool} {l : L} (h : l.key = none) : l.kill p = l := by
  unfold L.kill
  simp only [h]

@[simp] theorem Obj.map_id' (o : Obj) : o.map (fun l => l) = o := by
  cases o <;> simp [Obj.map]

theorem castV_eq {s t : Sh} {x : Val s} {y : Val t} (h : castV s t x = some y) : ∃ e : s = t, y = e ▸ x := by
  unfold castV at h
  split at h
  · rename_i e; exact ⟨e, by simpa using h.symm⟩
  · cases h

/-! ### the points at which a reading stands still -/
section
variable {R : Type}
theorem brC_some {b : Bool} {x y : Option R} {r : R} (h : brC b x y = some r) : (b = true ∧ x = some r) ∨ (b = false ∧ y = some r) := by
  unfold brC at h
  cases b
  · exact .inr ⟨rfl, h⟩
  · exact .inl ⟨rfl, h⟩
theorem guardC_some {p : Prop} [Decidable p] {x : Option R} {r : R} (h : guardC p x = some r) : p ∧ x = some r := by
  unfold guardC at h
  split at h
  · exact ⟨‹_›, h⟩
  · cases h
theorem eltC_some {s : Sh} {xs : List (Val s)} {i : Int} {K : Val s → Option R} {r : R} (h : eltC xs i K = some r) : ∃ x, xs[i.toNat]? = some x ∧ K x = some r := by
  unfold eltC at h
  cases hx : xs[i.toNat]? with
  | none => rw [hx] at h; cases h
  | some x => rw [hx] at h; exact ⟨x, rfl, h⟩
theorem bytC_some {s : ByteArray} {i : Int} {K : Int → Option R} {r : R} (h : bytC s i K = some r) : ∃ b, s.data.toList[i.toNat]? = some b ∧ K b.toNat = some r := by
  unfold bytC at h
  cases hx : s.data.toList[i.toNat]? with
  | none => rw [hx] at h; cases h
  | some x => rw [hx] at h; exact ⟨x, rfl, h⟩
theorem callC_some {p : RP} {x : Option Res} {K : p.Pay → Option R} {r : R} (h : callC p x K = some r) : ∃ c o y, x = some (.ret c o) ∧ p.un c o = some y ∧ K y = some r := by
  unfold callC at h
  split at h
  · rename_i c o
    obtain ⟨y, hy, hk⟩ := Option.bind_eq_some_iff.1 h
    exact ⟨c, o, y, rfl, hy, hk⟩
  · cases h
theorem callXC_some {p : RP} {os : List (Key × OP)} {x : Option Res} {K : p.Pay → Option R} {X : TypeId → PayOs os → Option R} {r : R} (h : callXC p os x K X = some r) :
    (∃ c o y, x = some (.ret c o) ∧ p.un c o = some y ∧ K y = some r) ∨ (∃ t o y, x = some (.pan t o) ∧ unOs o os = some y ∧ X t y = some r) := by
  unfold callXC at h
  split at h
  · rename_i c o
    obtain ⟨y, hy, hk⟩ := Option.bind_eq_some_iff.1 h
    exact .inl ⟨c, o, y, rfl, hy, hk⟩
  · rename_i t o
    obtain ⟨y, hy, hk⟩ := Option.bind_eq_some_iff.1 h
    exact .inr ⟨t, o, y, rfl, hy, hk⟩
  · cases h
theorem loopC_some {B : Type} {x : Option B} {K : B → Option R} {r : R} (h : loopC x K = some r) : ∃ b, x = some b ∧ K b = some r := by
  unfold loopC at h
  cases x with
  | none => cases h
  | some b => exact ⟨b, rfl, h⟩
theorem iterC_zero {A B : Type} (step : A → Option (A ⊕ B)) (a : A) : iterC step 0 a = none := by unfold iterC; rfl
theorem iterC_succ {A B : Type} (step : A → Option (A ⊕ B)) (k : Nat) (a : A) : iterC step (k + 1) a = match step a with
    | some (.inl a') => iterC step k a'
    | some (.inr b) => some b
    | none => none := by
  conv => lhs; unfold iterC
  rfl
end
end Go.AI
