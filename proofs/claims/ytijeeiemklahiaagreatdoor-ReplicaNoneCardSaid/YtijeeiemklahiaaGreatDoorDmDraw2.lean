/-
  A deterministic machine over Go's code: orders, and slots behind some of a region's operations.
-/
import Derived.Test.YtijeeiemklahiaaGreatDoorDmDraw
namespace Go.DM
noncomputable section

structure Ord (ops : Array Oper) (ord : List Nat) (clo : T Nat) : Prop where
  len : ord.length = ops.size
  all : ∀ i, i < ops.size → i ∈ ord
  nodup : ∀ (k i : Nat), ord[k]? = some i → i ∉ ord.take k
  op : ∀ (k i : Nat), ord[k]? = some i → ∃ o, ops[i]? = some o
  topo : ∀ (k i : Nat) (o : Oper), ord[k]? = some i → ops[i]? = some o → ∀ p ∈ predsOf o, p ∈ ord.take k
  closed : ∀ (k i : Nat) (o : Oper), ord[k]? = some i → ops[i]? = some o → clo.get i = some ((predsOf o).foldl (fun s p => s ||| 2 ^ p ||| (clo.get p).getD 0) 0)
  early : ∀ (k i : Nat), ord[k]? = some i → ∀ h ∈ ord.take k, ∀ oh, ops[h]? = some oh → isHeavy oh.op = true → before clo h i = true
  names : ∀ (j i : Nat) (oj oi : Oper) (d : Nat), ops[j]? = some oj → ops[i]? = some oi → i ≠ j → oi.dst = some d → d ∈ namesOf ops oj → before clo i j = true ∨ before clo j i = true

theorem okOrder_spec {ops : Array Oper} {ord : List Nat} {clo : T Nat} (h : okOrder ops ord clo = true) : Ord ops ord clo := by
  unfold okOrder at h
  simp only [Bool.and_eq_true] at h
  obtain ⟨⟨⟨h1, h2⟩, h3⟩, h4⟩ := h
  have h3' : ∀ (k i : Nat), ord[k]? = some i → (match ops[i]? with
    | none => false
    | some o =>
      !(ord.take k).contains i &&
      (predsOf o).all (fun p => (ord.take k).contains p) &&
      (clo.get i == some ((predsOf o).foldl (fun s p => s ||| 2 ^ p ||| (clo.get p).getD 0) 0)) &&
      ((ord.take k).all fun h => match ops[h]? with
        | some oh => !isHeavy oh.op || before clo h i
        | none => false)) = true := by
    intro k i hk
    have hm : (i, k) ∈ ord.zipIdx := by
      rw [List.mem_zipIdx_iff_getElem?]; simpa using hk
    exact List.all_eq_true.1 h3 (i, k) hm
  have h3o : ∀ (k i : Nat) (o : Oper), ord[k]? = some i → ops[i]? = some o → (i ∉ ord.take k) ∧ (∀ p ∈ predsOf o, p ∈ ord.take k) ∧
      (clo.get i = some ((predsOf o).foldl (fun s p => s ||| 2 ^ p ||| (clo.get p).getD 0) 0)) ∧
      (∀ h ∈ ord.take k, ∀ oh, ops[h]? = some oh → isHeavy oh.op = true → before clo h i = true) := by
    intro k i o hk ho
    have := h3' k i hk
    rw [ho] at this
    simp only [Bool.and_eq_true, Bool.not_eq_true', List.all_eq_true, List.contains_iff_mem, beq_iff_eq] at this
    obtain ⟨⟨⟨a1, a2⟩, a3⟩, a4⟩ := this
    refine ⟨by simpa using a1, a2, a3, ?_⟩
    intro h hh oh hoh hheavy
    have := a4 h hh
    rw [hoh] at this
    simpa [hheavy] using this
  have hop : ∀ (k i : Nat), ord[k]? = some i → ∃ o, ops[i]? = some o := by
    intro k i hk
    have := h3' k i hk
    cases ho : ops[i]? with
    | none => rw [ho] at this; cases this
    | some o => exact ⟨o, rfl⟩
  refine ⟨by simpa using h1, ?_, ?_, hop, fun k i o hk ho => (h3o k i o hk ho).2.1, fun k i o hk ho => (h3o k i o hk ho).2.2.1, ?_, ?_⟩
  · intro i hi
    have := List.all_eq_true.1 h2 i (by simpa using hi)
    simpa using this
  · intro k i hk
    obtain ⟨o, ho⟩ := hop k i hk
    exact (h3o k i o hk ho).1
  · intro k i hk
    obtain ⟨o, ho⟩ := hop k i hk
    exact (h3o k i o hk ho).2.2.2
  · intro j i oj oi d hj hi hne hd hm
    have hjl : j < ops.size := (Array.getElem?_eq_some_iff.1 hj).1
    have hil : i < ops.size := (Array.getElem?_eq_some_iff.1 hi).1
    have a1 := List.all_eq_true.1 h4 j (by simpa using hjl)
    rw [hj] at a1
    have a2 := List.all_eq_true.1 a1 i (by simpa using hil)
    rw [hi] at a2
    simp only [hd] at a2
    have hne' : (i == j) = false := by simpa using hne
    simp only [hne', Bool.false_or] at a2
    have hmem : (namesOf ops oj).contains d = true := by simpa using hm
    simp only [hmem, Bool.not_true, Bool.false_or, Bool.or_eq_true] at a2
    exact a2

theorem foldl_or_testBit (f : Nat → Nat) (x : Nat) : ∀ (l : List Nat) (s : Nat), (l.foldl (fun s p => s ||| 2 ^ p ||| f p) s).testBit x = true → s.testBit x = true ∨ ∃ p ∈ l, x = p ∨ (f p).testBit x = true
  | [], s, h => .inl h
  | p :: l, s, h => by
    simp only [List.foldl_cons] at h
    rcases foldl_or_testBit f x l _ h with h1 | ⟨q, hq, h1⟩
    · simp only [Nat.testBit_or, Bool.or_eq_true] at h1
      rcases h1 with (h1 | h1) | h1
      · exact .inl h1
      · right; exact ⟨p, by simp, .inl (by
          rw [Nat.testBit_two_pow] at h1; simpa [eq_comm] using h1)⟩
      · right; exact ⟨p, by simp, .inr h1⟩
    · right; exact ⟨q, by simp [hq], h1⟩

section order
variable {ops : Array Oper} {ord : List Nat} {clo : T Nat}

theorem Ord.step (od : Ord ops ord clo) {k i p : Nat} {o : Oper} (hk : ord[k]? = some i) (ho : ops[i]? = some o) (hb : before clo p i = true) : ∃ q ∈ predsOf o, p = q ∨ before clo p q = true := by
  unfold before at hb
  rw [od.closed k i o hk ho] at hb
  simp only [Option.getD_some] at hb
  rcases foldl_or_testBit (fun p => (clo.get p).getD 0) p _ 0 hb with h | ⟨q, hq, h⟩
  · simp at h
  · exact ⟨q, hq, h⟩

theorem Ord.pos (_od : Ord ops ord clo) {p k : Nat} (h : p ∈ ord.take k) : ∃ k', k' < k ∧ ord[k']? = some p := by
  obtain ⟨k', hk'⟩ := List.getElem?_of_mem h
  rw [List.getElem?_take] at hk'
  split at hk'
  · exact ⟨k', by assumption, hk'⟩
  · cases hk'

theorem Ord.uniq (od : Ord ops ord clo) {i k k' : Nat} (h : ord[k]? = some i) (h' : ord[k']? = some i) : k = k' := by
  rcases Nat.lt_trichotomy k k' with hlt | he | hlt
  · exact absurd (List.mem_of_getElem? (by rw [List.getElem?_take, if_pos hlt]; exact h)) (od.nodup k' i h')
  · exact he
  · exact absurd (List.mem_of_getElem? (by rw [List.getElem?_take, if_pos hlt]; exact h')) (od.nodup k i h)

theorem Ord.before_pos (od : Ord ops ord clo) : ∀ {k i p : Nat}, ord[k]? = some i → before clo p i = true → ∃ k', k' < k ∧ ord[k']? = some p := by
  intro k
  induction k using Nat.strongRecOn with
  | _ k ih =>
    intro i p hk hb
    obtain ⟨o, ho⟩ := od.op k i hk
    obtain ⟨q, hq, h⟩ := od.step hk ho hb
    obtain ⟨kq, hkq, hq2⟩ := od.pos (od.topo k i o hk ho q hq)
    rcases h with rfl | h
    · exact ⟨kq, hkq, hq2⟩
    · obtain ⟨k', h1, h2⟩ := ih kq hkq hq2 h
      exact ⟨k', by omega, h2⟩

theorem Ord.before_listed (od : Ord ops ord clo) {L : Nat → Bool} (hc : ∀ i o, L i = true → ops[i]? = some o → ∀ p ∈ predsOf o, L p = true) : ∀ {k i p : Nat} {o : Oper}, ord[k]? = some i → ops[i]? = some o → (∀ p ∈ predsOf o, L p = true) → before clo p i = true → L p = true := by
  intro k
  induction k using Nat.strongRecOn with
  | _ k ih =>
    intro i p o hk ho hp hb
    obtain ⟨q, hq, h⟩ := od.step hk ho hb
    obtain ⟨kq, hkq, hq2⟩ := od.pos (od.topo k i o hk ho q hq)
    rcases h with rfl | h
    · exact hp p hq
    · obtain ⟨oq, hoq⟩ := od.op kq q hq2
      exact ih kq hkq hq2 hoq (hc q oq (hp q hq) hoq) h

theorem Ord.at_pos (od : Ord ops ord clo) {i : Nat} (h : i < ops.size) : ∃ k, k < ops.size ∧ ord[k]? = some i := by
  obtain ⟨k, hk⟩ := List.getElem?_of_mem (od.all i h)
  exact ⟨k, by have := (List.getElem?_eq_some_iff.1 hk).1; rw [od.len] at this; exact this, hk⟩
end order

/-- The slots behind those operations that 'L' says. -/
def frOf (dst : Nat → Option Nat) (val : Nat → DVal) (fr0 : Fr) (L : Nat → Bool) : Nat → Fr
  | 0 => fr0
  | m + 1 => if L m then dput (frOf dst val fr0 L m) (dst m) (val m) else frOf dst val fr0 L m

theorem dput_n (fr : Fr) (d : Option Nat) (v : DVal) : (dput fr d v).n = fr.n := by cases d <;> simp [dput, Fr.n_put]

theorem dput_get (fr : Fr) (d : Option Nat) (v : DVal) (t : Nat) : (dput fr d v).get? t = if d = some t then (if t < fr.n then some v else none) else fr.get? t := by
  cases d with
  | none => simp [dput]
  | some d => simp only [dput, Fr.get?_put, Option.some.injEq]

theorem frOf_n (dst val fr0 L) : ∀ m, (frOf dst val fr0 L m).n = fr0.n
  | 0 => rfl
  | m + 1 => by simp only [frOf]; split <;> simp [dput_n, frOf_n dst val fr0 L m]

theorem frOf_agree (dst : Nat → Option Nat) (val : Nat → DVal) (fr0 : Fr) (L L' : Nat → Bool) (t : Nat) : ∀ m, (∀ i, i < m → dst i = some t → L i = L' i) → (frOf dst val fr0 L m).get? t = (frOf dst val fr0 L' m).get? t
  | 0, _ => rfl
  | m + 1, h => by
    have ih := frOf_agree dst val fr0 L L' t m (fun i hi => h i (by omega))
    simp only [frOf]
    by_cases hd : dst m = some t
    · rw [← h m (by omega) hd]
      split
      · rw [dput_get, dput_get, frOf_n, frOf_n]
        simp [hd]
      · exact ih
    · have e : ∀ L : Nat → Bool, (if L m then dput (frOf dst val fr0 L m) (dst m) (val m) else frOf dst val fr0 L m).get? t = (frOf dst val fr0 L m).get? t := by
        intro L
        split
        · rw [dput_get, if_neg hd]
        · rfl
      rw [e L, e L', ih]

theorem frOf_upto (dst val fr0) (k : Nat) : ∀ m, k ≤ m → frOf dst val fr0 (fun i => decide (i < k)) m = frOf dst val fr0 (fun _ => true) k
  | 0, h => by
    have : k = 0 := by omega
    subst this; rfl
  | m + 1, h => by
    by_cases e : k = m + 1
    · subst e
      have : ∀ j, j ≤ m + 1 → frOf dst val fr0 (fun i => decide (i < m + 1)) j = frOf dst val fr0 (fun _ => true) j := by
        intro j
        induction j with
        | zero => intro _; rfl
        | succ j ih =>
          intro hj
          simp only [frOf, ih (by omega)]
          simp; omega
      exact this (m + 1) (Nat.le_refl _)
    · have ih := frOf_upto dst val fr0 k m (by omega)
      simp only [frOf, ih]
      simp; omega

theorem dstep_fr {c : Ctx} {call : Callee} {ops : Array Oper} {o : Oper} {s s' : DSt} {at_ : Option Nat} (h : dstep c call ops o s = some (s', at_)) : ∃ v, s'.fr = dput s.fr o.dst v := by
  rw [dstep_eq] at h
  split at h
  · cases h; exact ⟨_, rfl⟩
  · split at h
    · cases h; exact ⟨_, rfl⟩
    · cases h

end
end Go.DM
