/-
  Tables and bytes as the machine sees them.
-/
import Derived.Test.YtijeeiemklahiaaGreatDoorDmView
namespace Go.DM
noncomputable section
def isU (k : IntKind) : DVal → Bool
  | .int k' _ => decide (k = k')
  | _ => false
def okU (k : IntKind) (n : Nat) (l : List DVal) : Bool := Nat.beq l.length n && l.all (isU k)
def intAt (l : List DVal) (i : Nat) : Int :=
  match l[i]? with
  | some (.int _ n) => n
  | _ => 0
/-- Numbers, by a function. -/
def ints (k : IntKind) (n : Nat) (x : Nat → Int) : List DVal := (List.range n).map fun i => .int k (x i)
def eqInts : List DVal → List DVal → Bool
  | [], [] => true
  | .int k a :: xs, .int k' b :: ys => decide (k = k') && decide (a = b) && eqInts xs ys
  | _, _ => false
/-- Does a block hold a table? -/
def hasG (m : DMem) (g : Nat) (cs : List DVal) : Bool :=
  match m.get g with
  | some (.ro c) => eqInts c cs
  | _ => false

theorem eqInts_eq (xs : List DVal) : ∀ ys, eqInts xs ys = true → xs = ys ∧ plains xs = true := by
  induction xs with
  | nil =>
    intro ys h
    cases ys with
    | nil => exact ⟨rfl, rfl⟩
    | cons y ys => simp [eqInts] at h
  | cons x xs ih =>
    intro ys h
    cases ys with
    | nil => cases x <;> simp [eqInts] at h
    | cons y ys =>
      cases x with
      | int k a =>
        cases y with
        | int k' b =>
          simp only [eqInts, Bool.and_eq_true, decide_eq_true_eq] at h
          obtain ⟨⟨rfl, rfl⟩, h⟩ := h
          obtain ⟨rfl, h2⟩ := ih ys h
          exact ⟨rfl, by simp [plains, plain, h2]⟩
        | _ => simp [eqInts] at h
      | _ => simp [eqInts] at h

theorem hasG_get {m : DMem} {g : Nat} {cs : List DVal} (h : hasG m g cs = true) : m.get g = some (.ro cs) ∧ plains cs = true := by
  unfold hasG at h
  split at h
  · rename_i c hm
    obtain ⟨rfl, h2⟩ := eqInts_eq _ _ h
    exact ⟨hm, h2⟩
  · cases h

theorem isU_eq {k : IntKind} {d : DVal} (h : isU k d = true) : ∃ n, d = .int k n := by
  cases d <;> simp [isU] at h
  subst h; exact ⟨_, rfl⟩

theorem all_isU : ∀ {k : IntKind} {l : List DVal}, l.all (isU k) = true → plains l = true ∧ l.all isCell = true ∧ ∀ i, i < l.length → l[i]? = some (.int k (intAt l i))
  | k, [], _ => ⟨rfl, rfl, fun i h => by simp at h⟩
  | k, d :: l, h => by
    simp only [List.all_cons, Bool.and_eq_true] at h
    obtain ⟨n, rfl⟩ := isU_eq h.1
    obtain ⟨h1, h2, h3⟩ := all_isU h.2
    refine ⟨by simp [plains, plain, h1], by simpa [isCell] using h2, fun i hi => ?_⟩
    cases i with
    | zero => simp [intAt]
    | succ i =>
      have := h3 i (by simpa using hi)
      simpa [intAt] using this

theorem okU_facts {k : IntKind} {n : Nat} {l : List DVal} (h : okU k n l = true) : l.length = n ∧ plains l = true ∧ l.all isCell = true ∧ l = ints k n (intAt l) := by
  unfold okU at h
  simp only [Bool.and_eq_true] at h
  have hn := Nat.eq_of_beq_eq_true h.1
  obtain ⟨h1, h2, h3⟩ := all_isU h.2
  refine ⟨hn, h1, h2, List.ext_getElem? fun i => ?_⟩
  unfold ints
  by_cases hi : i < n
  · rw [h3 i (by omega)]; simp [List.getElem?_range hi]
  · rw [List.getElem?_eq_none (by omega), List.getElem?_eq_none (by simp; omega)]

theorem ints_length (k : IntKind) (n : Nat) (x : Nat → Int) : (ints k n x).length = n := by simp [ints]
theorem ints_plain (k : IntKind) (n : Nat) (x : Nat → Int) : plains (ints k n x) = true := by
  unfold ints
  induction List.range n with
  | nil => rfl
  | cons a l ih => simp [plains, plain, ih]

/-- A run that gave numbers, and owes nothing. -/
def okAgg (n : Nat) (k : IntKind) : Option (DVal × DMem) → Bool
  | some (.agg l, m) => okU k n l && m.ob.isEmpty
  | _ => false
theorem okAgg_facts {n : Nat} {k : IntKind} {r : Option (DVal × DMem)} (h : okAgg n k r = true) : ∃ l m, r = some (.agg l, m) ∧ okU k n l = true ∧ Ok m := by
  unfold okAgg at h
  split at h
  · rename_i l m
    simp only [Bool.and_eq_true, List.isEmpty_iff] at h
    exact ⟨l, m, rfl, h.1, fun p hp => by rw [h.2] at hp; cases hp⟩
  · cases h
/-- The numbers that a run gave. -/
def aggInt (r : Option (DVal × DMem)) (i : Nat) : Int :=
  match r with
  | some (.agg l, _) => intAt l i
  | _ => 0
theorem okAgg_ints {n : Nat} {k : IntKind} {r : Option (DVal × DMem)} (h : okAgg n k r = true) : ∃ m, r = some (.agg (ints k n (aggInt r)), m) ∧ Ok m := by
  obtain ⟨l, m, rfl, h2, h3⟩ := okAgg_facts h
  refine ⟨m, ?_, h3⟩
  have := (okU_facts h2).2.2.2
  show some (DVal.agg l, m) = some (DVal.agg (ints k n (intAt l)), m)
  rw [← this]

/-- A run that gave true, and owes nothing. -/
def okTrue : Option (DVal × DMem) → Bool
  | some (.bool true, m) => m.ob.isEmpty
  | _ => false
theorem okTrue_facts {r : Option (DVal × DMem)} (h : okTrue r = true) : ∃ m, r = some (.bool true, m) ∧ Ok m := by
  unfold okTrue at h
  split at h
  · rename_i m
    exact ⟨m, rfl, fun p hp => by rw [List.isEmpty_iff.1 h] at hp; cases hp⟩
  · cases h
/-- What a run owes that gave true. -/
def obsT : Option (DVal × DMem) → Option (List Prop)
  | some (.bool true, m) => some m.ob
  | _ => none
theorem obsT_facts {r : Option (DVal × DMem)} {l : List Prop} (h : obsT r = some l) (hl : ∀ p ∈ l, p) : ∃ m, r = some (.bool true, m) ∧ Ok m := by
  unfold obsT at h
  split at h
  · rename_i m
    cases h
    exact ⟨m, rfl, hl⟩
  · cases h
end
end Go.DM
