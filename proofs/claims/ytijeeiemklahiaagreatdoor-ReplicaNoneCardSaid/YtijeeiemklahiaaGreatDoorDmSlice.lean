/-
  A slice argument, with what it holds.
-/
import Derived.Test.YtijeeiemklahiaaGreatDoorDmLaid
import Derived.Test.YtijeeiemklahiaaGreatDoorDmSub
namespace Go.DM

theorem mapM_get {α β : Type} {f : α → Option β} : ∀ {l : List α} {xs : List β}, l.mapM f = some xs → xs.length = l.length ∧ ∀ (j : Nat) (a : α), l[j]? = some a → ∃ b, f a = some b ∧ xs[j]? = some b
  | [], xs, h => by simp at h; subst h; exact ⟨rfl, fun j a ha => by simp at ha⟩
  | x :: l, xs, h => by
    obtain ⟨b, bs, h1, h2, rfl⟩ := mapM_cons_some h
    obtain ⟨g1, g2⟩ := mapM_get h2
    refine ⟨by simp [g1], fun j a ha => ?_⟩
    cases j with
    | zero => simp at ha; subst ha; exact ⟨b, h1, by simp⟩
    | succ j => simp at ha; obtain ⟨b', k1, k2⟩ := g2 j a ha; exact ⟨b', k1, by simpa using k2⟩

/-- Cells that are read one by one are a row's part. -/
theorem cells_row {w : World} {base : Nat} {a : Addr} {k : Nat} {row : List Value} (hk : 0 < k) (h : w.cells? base a k = some row) :
    a.spot = none ∧ ∃ c u fz, w.heap[a.block]? = some (.cells c u fz) ∧ a.off + k ≤ c.size ∧ row = (c.toList.drop a.off).take k := by
  unfold World.cells? at h
  split at h
  · obtain ⟨g1, g2⟩ := mapM_get h
    simp only [List.length_range] at g1
    obtain ⟨b0, e0, _⟩ := g2 0 0 (by rw [List.getElem?_range hk])
    have h0 : w.cell? a = some b0 := by simpa [Addr.add] using e0
    unfold World.cell? at h0
    split at h0
    · rename_i c u fz hc
      have hsp : a.spot = none := by
        cases hs : a.spot with
        | none => rfl
        | some x => rw [hs] at h0; simp at h0
      refine ⟨hsp, c, u, fz, hc, ?_, ?_⟩
      · obtain ⟨b, e, _⟩ := g2 (k - 1) (k - 1) (by rw [List.getElem?_range (by omega)])
        by_cases hk1 : k - 1 = 0
        · rw [hsp] at h0
          simp only [Option.isSome_none, Bool.false_eq_true, if_false] at h0
          have := (Array.getElem?_eq_some_iff.1 h0).1
          omega
        · unfold World.cell? Addr.add at e
          rw [if_neg hk1] at e
          simp only [hc, Option.isSome_none, Bool.false_eq_true, if_false] at e
          have := (Array.getElem?_eq_some_iff.1 e).1
          omega
      · apply List.ext_getElem?
        intro j
        rw [drop_take_get]
        by_cases hj : j < k
        · rw [if_pos hj]
          obtain ⟨b, e, eb⟩ := g2 j j (by rw [List.getElem?_range hj])
          rw [eb]
          by_cases hj0 : j = 0
          · subst hj0
            rw [Addr.add, if_pos rfl] at e
            unfold World.cell? at e
            simp only [hc, hsp, Option.isSome_none, Bool.false_eq_true, if_false] at e
            simpa using e.symm
          · unfold World.cell? Addr.add at e
            rw [if_neg hj0] at e
            simp only [hc, Option.isSome_none, Bool.false_eq_true, if_false] at e
            simpa using e.symm
        · rw [if_neg hj, List.getElem?_eq_none (by omega)]
    · cases h0
  · cases h

theorem mk_all (B : Nat → Bool) (X : Nat → Int) (N : Nat → Nat) (S : Nat → List UInt8) : ∀ (ks : List CK) (j : Nat), (mkCells B X N S j ks).length = ks.length ∧ (mkCells B X N S j ks).all isCell = true ∧ (∀ D, refsIn D (mkCells B X N S j ks) = true) ∧
    ∀ (o : Nat) (e : TypeId), ks[o]? = some (.sl e) → (mkCells B X N S j ks)[o]? = some (.view none (N (j + o)))
  | [], _ => ⟨rfl, rfl, fun _ => rfl, fun o e h => by simp at h⟩
  | k :: ks, j => by
    obtain ⟨h1, h2, h3, h4⟩ := mk_all B X N S ks (j + 1)
    refine ⟨by simp [mkCells, h1], ?_, fun D => ?_, fun o e h => ?_⟩
    · simp only [mkCells, List.all_cons, Bool.and_eq_true]; exact ⟨by cases k <;> rfl, h2⟩
    · simp only [mkCells, refsIn, Bool.and_eq_true]; exact ⟨by cases k <;> rfl, h3 D⟩
    · cases o with
      | zero => simp at h; subst h; simp [mkCells, mkOne]
      | succ o => simp at h; have := h4 o e h; simp only [mkCells, List.getElem?_cons_succ]; rw [this]; simp; congr 1; omega

theorem refs_append (D : Nat → Bool) : ∀ {a b : List DVal}, refsIn D a = true → refsIn D b = true → refsIn D (a ++ b) = true
  | [], _, _, h => h
  | x :: a, b, h, h' => by simp only [List.cons_append, refsIn, Bool.and_eq_true] at h ⊢; exact ⟨h.1, refs_append D h.2 h'⟩

/-- What rows that fit hold, as the machine may take it. -/
theorem rows_rel {ks : List CK} {k : Nat} (hk : ks.length = k) {L : List Value} : ∀ (n s : Nat), (∀ i, s ≤ i → i < s + n → Fits ks ((L.drop (i * k)).take k)) → 
    ∃ C : List DVal, C.length = n * k ∧ C.all isCell = true ∧ (∀ D, refsIn D C = true) ∧ (∀ ρ, VsRel ρ C ((L.drop (s * k)).take (n * k))) ∧
      ∀ i, i < n → ∀ (o : Nat) (e : TypeId), ks[o]? = some (.sl e) → ∃ l, C[i * k + o]? = some (.view none l)
  | 0, s, _ => ⟨[], by simp, rfl, fun _ => rfl, fun _ => by simpa using VsRel.nil, fun i h => by omega⟩
  | n + 1, s, h => by
    obtain ⟨C, h1, h2, h3, h4, h5⟩ := rows_rel hk n (s + 1) (fun i h1 h2 => h i (by omega) (by omega))
    obtain ⟨B, X, N, S, hr⟩ := fits_rel 0 (h s (Nat.le_refl _) (by omega))
    obtain ⟨m1, m2, m3, m4⟩ := mk_all B X N S ks 0
    refine ⟨mkCells B X N S 0 ks ++ C, ?_, ?_, ?_, ?_, ?_⟩
    · rw [List.length_append, h1, m1, hk, Nat.succ_mul]; omega
    · rw [List.all_append, m2, h2]; rfl
    · exact fun D => refs_append D (m3 D) (h3 D)
    · intro ρ
      have : (L.drop (s * k)).take ((n + 1) * k) = (L.drop (s * k)).take k ++ (L.drop ((s + 1) * k)).take (n * k) := by
        rw [show (n + 1) * k = k + n * k by rw [Nat.succ_mul]; omega, List.take_add, List.drop_drop, show (s + 1) * k = s * k + k by rw [Nat.succ_mul]]
      rw [this]
      exact (hr ρ).append (h4 ρ)
    · intro i hi o e ho
      have hlt : o < ks.length := (List.getElem?_eq_some_iff.1 ho).1
      cases i with
      | zero =>
        rw [Nat.zero_mul, Nat.zero_add, List.getElem?_append_left (by omega)]
        exact ⟨_, m4 o e ho⟩
      | succ i =>
        obtain ⟨l, hl⟩ := h5 i (by omega) o e ho
        refine ⟨l, ?_⟩
        rw [List.getElem?_append_right (by rw [m1, hk, Nat.succ_mul]; omega), m1, hk, ← hl]
        congr 1
        rw [Nat.succ_mul]; omega

section
variable {H : Type} {enc : TypeId × Value → H} {P : Program} {w : World} {base : Nat} {spare : Nat → Bool} {held : Bool}

/-- A field of what was read. -/
theorem trod_field {fuel : Nat} {t : TypeId} {fs : Array Field} {cs : List Value} {d : DataW H} {ps : List MemPlace} (ht : P.underlying t = some (.struct fs)) (h : DataW.trod enc P w base spare held fuel t cs = some (d, ps)) {fd : Field} (hf : fd ∈ fs.toList) :
    cs.length = P.cellsOf t ∧ ∃ f' y, DataW.trod enc P w base spare held f' fd.type ((cs.drop fd.offset).take (P.cellsOf fd.type)) = some y := by
  cases fuel with
  | zero => simp [DataW.trod] at h
  | succ fuel =>
    simp only [DataW.trod] at h
    rw [ht] at h
    have h' : (if cs.length = P.cellsOf t then (fs.toList.mapM fun f => DataW.trod enc P w base spare held fuel f.type ((cs.drop f.offset).take (P.cellsOf f.type))).map fun xs => (DataW.agg (xs.map (·.1)), xs.flatMap (·.2)) else none) = some (d, ps) := by
      simpa using h
    split at h'
    · rename_i hlen
      simp only [Option.map_eq_some_iff] at h'
      obtain ⟨xs, hx, _⟩ := h'
      obtain ⟨y, hy⟩ := mapM_mem hx fd hf
      exact ⟨hlen, fuel, y, hy⟩
    · cases h'

/-- What a slice that was read holds. -/
theorem trod_rows {fuel : Nat} {t e : TypeId} {v : Value} {y : DataW H × List MemPlace} {g : Nat} {ks : List CK} (ht : P.underlying t = some (.slice e)) (hk : kindsOf P g e = some ks) (hl : ks.length = P.cellsOf e) (hpos : 0 < ks.length)
    (h : DataW.trod enc P w base spare held fuel t [v] = some y) :
    ∃ A n cap, v = .slice A n cap ∧ ∃ C : List DVal, C.length = n * ks.length ∧ C.all isCell = true ∧ (∀ D, refsIn D C = true) ∧
      (∀ i, i < n → ∀ (o : Nat) (e : TypeId), ks[o]? = some (.sl e) → ∃ l, C[i * ks.length + o]? = some (.view none l)) ∧
      (0 < n → ∃ s : Spot, s.blk < w.heap.size ∧ A = some (s.at_ 0) ∧ ∀ ρ, BlkRel ρ s w (.ro C)) := by
  cases fuel with
  | zero => simp [DataW.trod] at h
  | succ fuel =>
    simp only [DataW.trod] at h
    rw [ht] at h
    cases v with
    | slice a n cap =>
      cases a with
      | none =>
        refine ⟨none, n, cap, rfl, [], ?_⟩
        have : n = 0 := by
          cases n with
          | zero => rfl
          | succ n => simp at h
        subst this
        exact ⟨by simp, rfl, fun _ => rfl, fun i hi => by omega, fun h => by omega⟩
      | some a =>
        refine ⟨some a, n, cap, rfl, ?_⟩
        simp only at h
        split at h
        · rename_i hc
          obtain ⟨elems, he, _⟩ := Option.bind_eq_some_iff.1 h
          have hrow : ∀ i, i < n → ∃ row y, w.cells? base (a.add (i * P.cellsOf e)) (P.cellsOf e) = some row ∧ DataW.trod enc P w base spare held fuel e row = some y := by
            intro i hi
            obtain ⟨y, hy⟩ := mapM_mem he i (List.mem_range.2 hi)
            obtain ⟨row, h1, h2⟩ := Option.bind_eq_some_iff.1 hy
            exact ⟨row, y, h1, h2⟩
          rcases Nat.eq_zero_or_pos n with h0 | h0
          · subst h0
            exact ⟨[], by simp, rfl, fun _ => rfl, fun i hi => by omega, fun h => by omega⟩
          · obtain ⟨row0, y0, e0, _⟩ := hrow 0 h0
            rw [Nat.zero_mul] at e0
            have ea0 : a.add 0 = a := by simp [Addr.add]
            rw [ea0] at e0
            obtain ⟨hsp, c, u, fz, hcell, _, _⟩ := cells_row (by omega) e0
            have haddr : ∀ i, a.add (i * P.cellsOf e) = ⟨a.block, a.off + i * P.cellsOf e, none⟩ := by
              intro i
              unfold Addr.add
              by_cases hz : i * P.cellsOf e = 0
              · rw [if_pos hz, hz]
                obtain ⟨b, o, sp⟩ := a
                simp only at hsp; subst hsp; simp
              · rw [if_neg hz]
            have hin : ∀ i, i < n → a.off + i * P.cellsOf e + P.cellsOf e ≤ c.size ∧ Fits ks (((c.toList.drop a.off).drop (i * ks.length)).take ks.length) := by
              intro i hi
              obtain ⟨row, ⟨d1, p1⟩, e1, e2⟩ := hrow i hi
              rw [haddr] at e1
              obtain ⟨_, c', u', fz', k1, k2, k3⟩ := cells_row (by omega) e1
              simp only at k1 k2 k3
              rw [hcell] at k1; cases k1
              refine ⟨k2, ?_⟩
              have := trod_fits _ _ _ _ _ e2 _ _ hk
              rw [k3] at this
              rwa [List.drop_drop, hl]
            obtain ⟨C, c1, c2, c3, c4, c5⟩ := rows_rel (ks := ks) (k := ks.length) rfl (L := c.toList.drop a.off) n 0 (fun i _ hi => (hin i (by omega)).2)
            have hsz : a.off + n * ks.length ≤ c.size := by
              have := (hin (n - 1) (by omega)).1
              have e1 : n * ks.length = (n - 1) * P.cellsOf e + P.cellsOf e := by
                rw [hl]
                obtain ⟨q, rfl⟩ : ∃ q, n = q + 1 := ⟨n - 1, by omega⟩
                rw [Nat.succ_mul]; simp
              omega
            refine ⟨C, c1, c2, c3, c5, fun _ => ⟨⟨a.block, a.off, n * ks.length⟩, (Array.getElem?_eq_some_iff.1 hcell).1, ?_, fun ρ => ?_⟩⟩
            · obtain ⟨b, o, sp⟩ := a
              simp only at hsp; subst hsp
              simp [Spot.at_]
            · refine ⟨c, u, fz, hcell, (by rw [c1]; exact Nat.le_refl _), hsz, ?_, c2⟩
              have := c4 ρ
              rw [Nat.zero_mul, List.drop_zero] at this
              rw [c1]; exact this
        · cases h
    | _ => simp at h

/-- A field's place and type. -/
def fieldAt (P : Program) (t : TypeId) (i : Nat) : Option (Nat × TypeId) :=
  match P.underlying t with
  | some (.struct fs) => match fs.toList[i]? with
    | some fd => some (fd.offset, fd.type)
    | none => none
  | _ => none
theorem trod_fieldAt {fuel : Nat} {t : TypeId} {cs : List Value} {d : DataW H} {ps : List MemPlace} {i o : Nat} {ty : TypeId} (hf : fieldAt P t i = some (o, ty)) (h : DataW.trod enc P w base spare held fuel t cs = some (d, ps)) :
    ∃ f' y, DataW.trod enc P w base spare held f' ty ((cs.drop o).take (P.cellsOf ty)) = some y := by
  unfold fieldAt at hf
  split at hf
  · rename_i fs ht
    split at hf
    · rename_i fd hfd
      cases hf
      obtain ⟨_, f', y, hy⟩ := trod_field ht h (List.mem_of_getElem? hfd)
      exact ⟨f', y, hy⟩
    · cases hf
  · cases hf

/-- A struct's field that is a slice, with what it holds. -/
theorem open_field {fuel : Nat} {t ts e : TypeId} {cs : List Value} {d : DataW H} {ps : List MemPlace} {i o : Nat} {g : Nat} {ks : List CK} (hf : fieldAt P t i = some (o, ts)) (hts : P.underlying ts = some (.slice e)) (hc : P.cellsOf ts = 1)
    (hk : kindsOf P g e = some ks) (hl : ks.length = P.cellsOf e) (hpos : 0 < ks.length) (h : DataW.trod enc P w base spare held fuel t cs = some (d, ps)) (hlt : o < cs.length) {n : Nat} {v : Value} (hv : cs[o]? = some v) (hn : ∃ A cap, v = .slice A n cap)
    (hany : ∃ (g : Nat) (row : Array Value) (u : TypeId) (fz : Nat × Nat), w.heap[g]? = some (.cells row u fz)) :
    ∃ (C : List DVal) (s : Spot), (∀ D, refsIn D C = true) ∧ (∀ i, i < n → ∀ (o : Nat) (e : TypeId), ks[o]? = some (.sl e) → ∃ l, C[i * ks.length + o]? = some (.view none l)) ∧
      s.blk < w.heap.size ∧ (∀ ρ, BlkRel ρ s w (.ro C)) ∧ ∀ (ρ : Ren) (q : Nat), ρ q = some s → VRel ρ (.view (some (q, 0)) n) v := by
  obtain ⟨f', y, hy⟩ := trod_fieldAt hf h
  have h1 : (cs.drop o).take 1 = [v] := by
    rw [List.drop_eq_getElem_cons hlt, List.take_succ_cons, List.take_zero]
    have := (List.getElem?_eq_some_iff.1 hv).2
    rw [this]
  rw [hc, h1] at hy
  obtain ⟨A, n', cap, rfl, C, c1, c2, c3, c4, c5⟩ := trod_rows hts hk hl hpos hy
  obtain ⟨A', cap', e'⟩ := hn
  cases e'
  rcases Nat.eq_zero_or_pos n with h0 | h0
  · subst h0
    obtain ⟨gb, row, u, fz, hrow⟩ := hany
    have hC : C = [] := List.length_eq_zero_iff.1 (by rw [c1, Nat.zero_mul])
    subst hC
    refine ⟨[], ⟨gb, 0, 0⟩, c3, c4, (Array.getElem?_eq_some_iff.1 hrow).1, fun ρ => ⟨row, u, fz, hrow, Nat.le_refl _, Nat.zero_le _, by simpa using VsRel.nil, rfl⟩, fun ρ q _ => ?_⟩
    simp only [VRel]
    exact ⟨_, _, rfl, fun h => by omega⟩
  · obtain ⟨s, s1, s2, s3⟩ := c5 h0
    refine ⟨C, s, c3, c4, s1, s3, fun ρ q hq => ?_⟩
    simp only [VRel]
    exact ⟨_, _, rfl, fun _ => ⟨s, hq, s2⟩⟩

theorem set_self {α : Type} : ∀ (l : List α) (n : Nat) (v : α), l[n]? = some v → l.set n v = l
  | [], n, v, h => by simp at h
  | x :: l, 0, v, h => by simp at h; subst h; rfl
  | x :: l, n + 1, v, h => by simp at h; simp [set_self l n v h]
end
end Go.DM
