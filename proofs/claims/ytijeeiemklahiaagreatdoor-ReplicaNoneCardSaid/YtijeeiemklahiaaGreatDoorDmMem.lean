/-
  A deterministic machine over Go's code: its memory's steps, in the model's worlds.
-/
import Derived.Test.YtijeeiemklahiaaGreatDoorDmRel
namespace Go.DM
noncomputable section

theorem splice_length {α : Type} : ∀ (c : List α) (n : Nat) (vs : List α), n + vs.length ≤ c.length → (splice c n vs).length = c.length
  | c, 0, vs, h => by simp [splice]; omega
  | x :: c, n + 1, vs, h => by
    simp only [splice, List.length_cons]; rw [splice_length c n vs (by simp at h; omega)]
  | [], n + 1, vs, h => by simp at h

theorem splice_get {α : Type} : ∀ (c : List α) (n : Nat) (vs : List α), n + vs.length ≤ c.length → ∀ i, (splice c n vs)[i]? = if n ≤ i ∧ i < n + vs.length then vs[i - n]? else c[i]?
  | c, 0, vs, h, i => by
    simp only [splice]
    by_cases hi : i < vs.length
    · rw [List.getElem?_append_left hi]; simp [hi]
    · rw [List.getElem?_append_right (by omega), List.getElem?_drop, if_neg (by omega)]
      congr 1; omega
  | x :: c, n + 1, vs, h, i => by
    simp only [splice]
    cases i with
    | zero => rw [if_neg (by omega)]; simp
    | succ i =>
      simp only [List.getElem?_cons_succ]
      rw [splice_get c n vs (by simp at h; omega) i]
      by_cases hc : n ≤ i ∧ i < n + vs.length
      · rw [if_pos hc, if_pos (by omega)]; congr 1; omega
      · rw [if_neg hc, if_neg (by omega)]
  | [], n + 1, vs, h, i => by simp at h

theorem splice_splice_one {α : Type} (c : List α) (n : Nat) (v : α) (vs : List α) (h : n + 1 + vs.length ≤ c.length) :
    splice (splice c n [v]) (n + 1) vs = splice c n (v :: vs) := by
  apply List.ext_getElem?
  intro i
  have h1 : (splice c n [v]).length = c.length := splice_length c n [v] (by simp; omega)
  rw [splice_get _ _ _ (by rw [h1]; omega), splice_get _ _ _ (by simp; omega), splice_get _ _ _ (by simp; omega)]
  simp only [List.length_cons, List.length_nil]
  by_cases a : i = n
  · subst a; simp; omega
  · by_cases b : n + 1 ≤ i ∧ i < n + 1 + vs.length
    · rw [if_pos b, if_pos (by omega), show i - n = (i - (n + 1)) + 1 by omega]; simp
    · rw [if_neg b, if_neg (by omega), if_neg (by omega)]

/-- The world with one object laid anew. -/
def setObjW (w : World) (B : Nat) (o : Obj) : World := { w with heap := w.heap.setIfInBounds B o }

theorem setObjW_same {w : World} {B : Nat} {o : Obj} (h : w.heap[B]? = some o) : setObjW w B o = w := by
  unfold setObjW
  have : w.heap.setIfInBounds B o = w.heap := by
    apply Array.ext_getElem?
    intro i
    by_cases hi : i = B
    · subst hi
      rw [h]
      have := (Array.getElem?_eq_some_iff.1 h).1
      simp [this]
    · simp [Array.getElem?_setIfInBounds_ne (Ne.symm hi)]
  rw [this]

theorem setObjW_get {w : World} {B : Nat} {o : Obj} (h : B < w.heap.size) (i : Nat) : (setObjW w B o).heap[i]? = if i = B then some o else w.heap[i]? := by
  unfold setObjW
  by_cases hi : i = B
  · subst hi; simp [h]
  · simp [Array.getElem?_setIfInBounds_ne (Ne.symm hi), hi]

theorem setObjW_size (w : World) (B : Nat) (o : Obj) : (setObjW w B o).heap.size = w.heap.size := by simp [setObjW]

theorem setCell_eq {w : World} {B o : Nat} {row : Array Value} {e : TypeId} {fz : Nat × Nat} {v : Value} (h : w.heap[B]? = some (.cells row e fz)) :
    w.setCell ⟨B, o, none⟩ v = setObjW w B (.cells (row.setIfInBounds o v) e fz) := by
  unfold World.setCell setObjW
  congr 1
  apply Array.ext_getElem?
  intro i
  have hs := (Array.getElem?_eq_some_iff.1 h).1
  rw [Array.getElem?_modify]
  by_cases hi : B = i
  · subst hi
    simp only [if_true]
    rw [h]
    simp [hs]
  · simp [hi, Array.getElem?_setIfInBounds_ne hi]

theorem addr_add (B o i : Nat) : (⟨B, o, none⟩ : Addr).add i = ⟨B, o + i, none⟩ := by
  unfold Addr.add
  by_cases h : i = 0
  · subst h; simp
  · simp [h]

theorem Spot.add (s : Spot) (o i : Nat) : (s.at_ o).add i = s.at_ (o + i) := by
  simp [Spot.at_, addr_add, Nat.add_assoc]

theorem toList_setIfInBounds (row : Array Value) (o : Nat) (v : Value) (h : o < row.size) : (row.setIfInBounds o v).toList = splice row.toList o [v] := by
  apply List.ext_getElem?
  intro i
  rw [splice_get _ _ _ (by simp; omega)]
  by_cases hi : o = i
  · subst hi; simp [h]
  · have : ¬ (o ≤ i ∧ i < o + [v].length) := by simp; omega
    rw [if_neg this]; simp [hi]

theorem run_storeRow (P : Program) (B o : Nat) (e : TypeId) (fz : Nat × Nat) : ∀ (vs : List Value) (i : Nat) (row : Array Value) (w : World), w.heap[B]? = some (.cells row e fz) →
    o + i + vs.length ≤ row.size → (fz.1 = fz.2 ∨ row.size ≤ fz.1) → (∀ v ∈ vs, v.oneCell' = true) →
    (storeCells ⟨B, o, none⟩ vs i).run P w = .ok () (setObjW w B (.cells ⟨splice row.toList (o + i) vs⟩ e fz))
  | [], i, row, w, h, hl, hf, h1 => by
    have : splice row.toList (o + i) [] = row.toList := by
      apply List.ext_getElem?; intro j; rw [splice_get _ _ _ (by simpa using hl)]; simp; omega
    simp only [storeCells, Sem.run_pure, this]
    rw [setObjW_same (by simpa using h)]
  | v :: r, i, row, w, h, hl, hf, h1 => by
    simp only [List.length_cons] at hl
    have hlt : o + i < row.size := by omega
    have hc : w.cell? ⟨B, o + i, none⟩ = some row[o + i] := by simp [World.cell?, h, hlt]
    have hfz : w.frozen? ⟨B, o + i, none⟩ = false := by
      obtain ⟨lo, hi⟩ := fz
      simp [World.frozen?, h]
      simp at hf; omega
    have hst : (store ((⟨B, o, none⟩ : Addr).add i) v).run P w = .ok () (setObjW w B (.cells (row.setIfInBounds (o + i) v) e fz)) := by
      rw [addr_add, run_store P w _ v _ (h1 v (by simp)), hc]
      simp only [hfz, Bool.false_eq_true, if_false]
      rw [setCell_eq h]
    have hB : B < w.heap.size := (Array.getElem?_eq_some_iff.1 h).1
    have ih := run_storeRow P B o e fz r (i + 1) (row.setIfInBounds (o + i) v) (setObjW w B (.cells (row.setIfInBounds (o + i) v) e fz))
      (by rw [setObjW_get hB]; simp) (by simp; omega) (by simpa using hf) (fun x hx => h1 x (by simp [hx]))
    simp only [storeCells, Sem.run_bind, hst, Result.andThen_ok, ih]
    rw [toList_setIfInBounds _ _ _ hlt, show o + (i + 1) = o + i + 1 by omega, splice_splice_one _ _ _ _ (by simp; omega)]
    simp [setObjW]

theorem drop_take_get {α : Type} (l : List α) (b n i : Nat) : ((l.drop b).take n)[i]? = if i < n then l[b + i]? else none := by
  rw [List.getElem?_take]
  split
  · rw [List.getElem?_drop]
  · rfl

/-- Reading. -/
theorem rcells_sound {ρ : Ren} {m : DMem} {w : World} (hr : MRel ρ m w) {b o n : Nat} {s : Spot} (hs : ρ b = some s) {cs : List DVal} (h : rcells m b o n = some cs) :
    cs.length = n ∧ cs.all isCell = true ∧ ∃ vs : List Value, VsRel ρ cs vs ∧ vs.length = n ∧ ∀ j v, vs[j]? = some v → w.cell? ((s.at_ o).add j) = some v := by
  obtain ⟨ob, h1, h2⟩ := hr.blk b s hs
  unfold rcells at h
  rw [h1] at h
  cases ob with
  | dead => simp at h
  | map es v => simp at h
  | ro c =>
    simp only at h
    cases hb : Nat.ble (o + n) c.length with
    | false => rw [hb] at h; simp at h
    | true =>
      rw [hb] at h; simp only [Option.some.injEq] at h; subst h
      have hle := Nat.le_of_ble_eq_true hb
      simp only [BlkRel] at h2
      obtain ⟨row, e', fz, g1, g2, g3, g5, g6⟩ := h2
      refine ⟨by simp; omega, ?_, ((row.toList.drop s.base).take c.length).drop o |>.take n, ?_, ?_, ?_⟩
      · rw [List.all_eq_true] at g6 ⊢
        intro x hx
        exact g6 x (List.mem_of_mem_drop (List.mem_of_mem_take hx))
      · exact (g5.drop o).take n
      · simp; omega
      · intro j v hj
        rw [drop_take_get] at hj
        split at hj
        · rw [drop_take_get] at hj
          split at hj
          · rw [Spot.add]
            simp only [Spot.at_, World.cell?, g1]
            rw [show s.base + (o + j) = s.base + (o + j) from rfl]
            simpa using hj
          · simp at hj
        · simp at hj
  | cells c e ver =>
    simp only at h
    cases hb : Nat.ble (o + n) c.length with
    | false => rw [hb] at h; simp at h
    | true =>
      rw [hb] at h; simp only [Option.some.injEq] at h; subst h
      have hle := Nat.le_of_ble_eq_true hb
      simp only [BlkRel] at h2
      obtain ⟨row, e', fz, g1, g2, g3, g4, g5, g6⟩ := h2
      refine ⟨by simp; omega, ?_, ((row.toList.drop s.base).take c.length).drop o |>.take n, ?_, ?_, ?_⟩
      · rw [List.all_eq_true] at g6 ⊢
        intro x hx
        exact g6 x (List.mem_of_mem_drop (List.mem_of_mem_take hx))
      · exact (g5.drop o).take n
      · simp; omega
      · intro j v hj
        rw [drop_take_get] at hj
        split at hj
        · rw [drop_take_get] at hj
          split at hj
          · rw [Spot.add]
            simp only [Spot.at_, World.cell?, g1]
            rw [show s.base + (o + j) = s.base + (o + j) from rfl]
            simpa using hj
          · simp at hj
        · simp at hj

theorem run_loadCells_rel {ρ : Ren} {m : DMem} {w : World} (P : Program) (hr : MRel ρ m w) {b o n : Nat} {s : Spot} (hs : ρ b = some s) {cs : List DVal} (h : rcells m b o n = some cs) :
    ∃ vs : List Value, VsRel ρ cs vs ∧ (loadCells (s.at_ o) n).run P w = .ok vs.toArray w := by
  obtain ⟨_, _, vs, h1, h2, h3⟩ := rcells_sound hr hs h
  refine ⟨vs, h1, ?_⟩
  rw [← h2]
  exact run_loadCells_list w _ vs h3

/-- A world that differs in what was drawn alone. -/
theorem MRel.drawn {ρ : Ren} {m : DMem} {w : World} (hr : MRel ρ m w) (n : Nat) : MRel ρ m { w with drawn := n } :=
  ⟨hr.wf, hr.fresh, hr.old, fun b s hs => by
    obtain ⟨o, h1, h2⟩ := hr.blk b s hs
    exact ⟨o, h1, by cases o <;> exact h2⟩, hr.apart⟩

theorem Kept.drawn (ρ : Ren) (m : DMem) (w : World) (n : Nat) : Kept ρ m m w { w with drawn := n } :=
  ⟨Nat.le_refl _, rfl, rfl, rfl, fun _ _ _ => rfl, fun _ row _ fz _ h => ⟨row, fz, h, rfl, fun _ _ => rfl⟩⟩

theorem Post.drawn {ρ : Ren} {m : DMem} {w : World} (hr : MRel ρ m w) (n : Nat) : Post ρ m w m ρ { w with drawn := n } :=
  ⟨Ren.le_refl _, hr.drawn n, Ext.refl _, fun _ _ h => .inl h, fun _ _ h _ => .inl h, Kept.drawn _ _ _ _⟩

/-- The renaming with one block more. -/
def Ren.add (ρ : Ren) (b : Nat) (s : Spot) : Ren := fun i => if i = b then some s else ρ i

theorem Ren.le_add {ρ : Ren} {b : Nat} {s : Spot} (h : ρ b = none) : ρ.le (ρ.add b s) := fun i x hx => by
  unfold Ren.add
  have : i ≠ b := fun e => by subst e; rw [h] at hx; cases hx
  simp [this, hx]

theorem MRel.none_at {ρ : Ren} {m : DMem} {w : World} (hr : MRel ρ m w) : ρ m.size = none := by
  cases h : ρ m.size with
  | none => rfl
  | some s => exact absurd (hr.fresh _ _ h) (by omega)

theorem BlkRel.mono {ρ ρ' : Ren} (h : ρ.le ρ') {s : Spot} {w : World} : ∀ {o : DObj}, BlkRel ρ s w o → BlkRel ρ' s w o
  | .cells _ _ _, ⟨row, e, fz, g1, g2, g3, g4, g5, g6⟩ => ⟨row, e, fz, g1, g2, g3, g4, VsRel.mono h _ _ g5, g6⟩
  | .map _ _, ⟨es', ck, g1, g2, g3⟩ => ⟨es', ck, g1, EsRel.mono h _ _ g2, g3⟩
  | .ro _, ⟨row, e, fz, g1, g2, g3, g5, g6⟩ => ⟨row, e, fz, g1, g2, g3, VsRel.mono h _ _ g5, g6⟩
  | .dead, _ => trivial

/-- The same, in a world whose object there is the same. -/
theorem BlkRel.world {ρ : Ren} {s : Spot} {w w' : World} (h : w'.heap[s.blk]? = w.heap[s.blk]?) : ∀ {o : DObj}, BlkRel ρ s w o → BlkRel ρ s w' o
  | .cells cs _ _, ⟨row, e, fz, g1, g2⟩ => ⟨row, e, fz, by rw [h, g1], g2⟩
  | .map es _, ⟨es', ck, g1, g2⟩ => ⟨es', ck, by rw [h, g1], g2⟩
  | .ro cs, ⟨row, e, fz, g1, g2⟩ => ⟨row, e, fz, by rw [h, g1], g2⟩
  | .dead, _ => trivial

theorem push_get (h : Array Obj) (o : Obj) (i : Nat) : (h.push o)[i]? = if i = h.size then some o else h[i]? := by
  rw [Array.getElem?_push]

theorem DMem.get_alloc (m : DMem) (o : DObj) (i : Nat) : (m.alloc o).get i = if i = m.size then some o else m.get i := by
  simp only [DMem.alloc, DMem.get, T.get_set]

theorem DMem.get_put (m : DMem) (b : Nat) (o : DObj) (i : Nat) : (m.put b o).get i = if i = b then some o else m.get i := by
  simp only [DMem.put, DMem.get, T.get_set]

theorem known_of_get {m m' : DMem} {b : Nat} (h : m.get b = m'.get b) : known m b ↔ known m' b := by unfold known; rw [h]

theorem alive_of_get {m m' : DMem} {b : Nat} (h : m.get b = m'.get b) : alive m b ↔ alive m' b := by unfold alive; rw [h]

/-- One new block, in the machine and in the world. -/
theorem Post.alloc {ρ : Ren} {m : DMem} {w : World} (hr : MRel ρ m w) (o : DObj) (O : Obj) (s : Spot) (hb : s.blk = w.heap.size)
    (hB : BlkRel (ρ.add m.size s) s { w with heap := w.heap.push O } o) :
    Post ρ m w (m.alloc o) (ρ.add m.size s) { w with heap := w.heap.push O } := by
  have hle : ρ.le (ρ.add m.size s) := Ren.le_add hr.none_at
  have hold : ∀ i, i < w.heap.size → (w.heap.push O)[i]? = w.heap[i]? := fun i hi => by rw [push_get, if_neg (by omega)]
  have hext : Ext m (m.alloc o) := ⟨by simp [DMem.alloc], fun b o' h => ⟨o', by
    rw [DMem.get_alloc, if_neg (fun e => by subst e; rw [hr.wf _ (Nat.le_refl _)] at h; cases h), h], .inl rfl⟩⟩
  refine ⟨hle, ⟨?_, ?_, ?_, ?_, ?_⟩, hext, ?_, ?_, ?_⟩
  · intro b h
    simp only [DMem.alloc] at h
    rw [DMem.get_alloc, if_neg (by omega)]
    exact hr.wf b (by omega)
  · intro b s' h
    unfold Ren.add at h
    simp only [DMem.alloc]
    split at h
    · omega
    · have := hr.fresh b s' h; omega
  · intro b s' h
    unfold Ren.add at h
    simp only [Array.size_push]
    split at h
    · cases h; omega
    · have := hr.old b s' h; omega
  · intro b s' h
    by_cases e : b = m.size
    · subst e
      have : s' = s := by simp [Ren.add] at h; exact h.symm
      subst this
      exact ⟨o, by rw [DMem.get_alloc, if_pos rfl], hB⟩
    · have h' : ρ b = some s' := by simpa [Ren.add, e] using h
      obtain ⟨ob, h1, h2⟩ := hr.blk b s' h'
      exact ⟨ob, by rw [DMem.get_alloc, if_neg e, h1], (h2.mono hle).world (hold _ (hr.old b s' h'))⟩
  · intro b b' s1 s2 hne h1 h2 a1 a2
    by_cases e : b = m.size
    · have e' : b' ≠ m.size := fun x => hne (e.trans x.symm)
      have : s1 = s := by simpa [Ren.add, e] using h1.symm
      subst this
      have h2' : ρ b' = some s2 := by simpa [Ren.add, e'] using h2
      have := hr.old b' s2 h2'
      left; omega
    · have h1' : ρ b = some s1 := by simpa [Ren.add, e] using h1
      by_cases e' : b' = m.size
      · have : s2 = s := by simpa [Ren.add, e'] using h2.symm
        subst this
        have := hr.old b s1 h1'
        left; omega
      · have h2' : ρ b' = some s2 := by simpa [Ren.add, e'] using h2
        exact hr.apart b b' s1 s2 hne h1' h2' ((alive_of_get (by rw [DMem.get_alloc, if_neg e])).1 a1) ((known_of_get (by rw [DMem.get_alloc, if_neg e'])).1 a2)
  · intro b s' h
    by_cases e : b = m.size
    · right; omega
    · left; simpa [Ren.add, e] using h
  · intro b s' h hlt
    by_cases e : b = m.size
    · have : s' = s := by simpa [Ren.add, e] using h.symm
      subst this; omega
    · left; simpa [Ren.add, e] using h
  · refine ⟨by simp, rfl, rfl, rfl, fun B hB _ => hold B hB, fun B row e fz hB h => ⟨row, fz, ?_, rfl, fun _ _ => rfl⟩⟩
    show (w.heap.push O)[B]? = _
    rw [hold B hB, h]

/-- One block changed, in the machine and in the world. -/
theorem Post.put {ρ : Ren} {m : DMem} {w : World} (hr : MRel ρ m w) {b : Nat} {s : Spot} (hs : ρ b = some s) {o o' : DObj} (ho : m.get b = some o) (hal : alive m b) (hlat : later o o') (O : Obj)
    (hB : BlkRel ρ s (setObjW w s.blk O) o')
    (hO : (∀ row e fz, w.heap[s.blk]? = some (.cells row e fz) → ∃ row' fz', O = .cells row' e fz' ∧ row'.size = row.size ∧ (fz' = fz ∨ fz'.1 = fz'.2 ∨ row.size ≤ fz'.1) ∧
      ∀ i, ¬ (s.base ≤ i ∧ i < s.base + s.tot) → row'[i]? = row[i]?))
    (hM : (∀ es ck, w.heap[s.blk]? = some (.map es ck) → s.base = 0 ∧ s.tot = 1)) :
    Post ρ m w (m.put b o') ρ (setObjW w s.blk O) := by
  have hlt := hr.old b s hs
  have hget := fun i => setObjW_get (w := w) (o := O) hlt i
  have hext : Ext m (m.put b o') := ⟨Nat.le_refl _, fun i x hx => by
    by_cases e : i = b
    · subst e; rw [ho] at hx; cases hx
      exact ⟨o', by rw [DMem.get_put, if_pos rfl], .inr hlat⟩
    · exact ⟨x, by rw [DMem.get_put, if_neg e, hx], .inl rfl⟩⟩
  have hch : Changed m (m.put b o') b := by
    unfold Changed; rw [DMem.get_put, if_pos rfl, ho]; intro h; cases h; exact later_irrefl hlat
  have hal' : ∀ i, alive (m.put b o') i → alive m i := by
    intro i hi
    by_cases e : i = b
    · subst e; exact hal
    · exact (alive_of_get (by rw [DMem.get_put, if_neg e])).1 hi
  have hkn : ∀ i, known (m.put b o') i → known m i := by
    intro i hi
    by_cases e : i = b
    · subst e; exact hal.known
    · exact (known_of_get (by rw [DMem.get_put, if_neg e])).1 hi
  refine ⟨Ren.le_refl _, ⟨?_, hr.fresh, ?_, ?_, ?_⟩, hext, fun _ _ h => .inl h, fun _ _ h _ => .inl h, ?_⟩
  · intro i h
    rw [DMem.get_put, if_neg (fun e => by subst e; have := hr.fresh _ _ hs; exact absurd h (by simp only [DMem.put]; omega))]
    exact hr.wf i h
  · intro i x hx; rw [setObjW_size]; exact hr.old i x hx
  · intro i x hx
    by_cases e : i = b
    · subst e
      rw [hs] at hx; cases hx
      exact ⟨o', by rw [DMem.get_put, if_pos rfl], hB⟩
    · obtain ⟨ob, h1, h2⟩ := hr.blk i x hx
      refine ⟨ob, by rw [DMem.get_put, if_neg e, h1], ?_⟩
      by_cases hblk : x.blk = s.blk
      · -- the same row: the other part of it
        cases ob with
        | dead => trivial
        | map es v =>
          have ha := hr.apart b i s x (Ne.symm e) hs hx hal (by unfold known; rw [h1]; trivial)
          obtain ⟨es', ck, k1, k2, k3, k4⟩ := h2
          rw [hblk] at k1
          have := hM es' ck k1
          omega
        | ro cs =>
          have ha := hr.apart b i s x (Ne.symm e) hs hx hal (by unfold known; rw [h1]; trivial)
          obtain ⟨row, e', fz, k1, k2, k3, k5, k6⟩ := h2
          obtain ⟨row', fz', j1, j2, j3, j4⟩ := hO row e' fz (by rw [← hblk]; exact k1)
          subst j1
          refine ⟨row', e', fz', by rw [hblk, hget, if_pos rfl], k2, by omega, ?_, k6⟩
          have : (row'.toList.drop x.base).take cs.length = (row.toList.drop x.base).take cs.length := by
            apply List.ext_getElem?
            intro q
            rw [drop_take_get, drop_take_get]
            split
            · have := j4 (x.base + q) (by omega)
              simpa using this
            · rfl
          rw [this]; exact k5
        | cells cs el v =>
          have ha := hr.apart b i s x (Ne.symm e) hs hx hal (by unfold known; rw [h1]; trivial)
          obtain ⟨row, e', fz, k1, k2, k3, k4, k5, k6⟩ := h2
          obtain ⟨row', fz', j1, j2, j3, j4⟩ := hO row e' fz (by rw [← hblk]; exact k1)
          subst j1
          refine ⟨row', e', fz', by rw [hblk, hget, if_pos rfl], k2, by omega, ?_, ?_, k6⟩
          · rcases j3 with rfl | j3 | j3
            · rw [j2]; exact k4
            · exact .inl j3
            · right; omega
          · have : (row'.toList.drop x.base).take cs.length = (row.toList.drop x.base).take cs.length := by
              apply List.ext_getElem?
              intro q
              rw [drop_take_get, drop_take_get]
              split
              · have := j4 (x.base + q) (by omega)
                simpa using this
              · rfl
            rw [this]; exact k5
      · exact h2.world (by rw [hget, if_neg hblk])
  · intro i j x y hne h1 h2 a1 a2
    exact hr.apart i j x y hne h1 h2 (hal' i a1) (hkn j a2)
  · refine ⟨by rw [setObjW_size]; exact Nat.le_refl _, rfl, rfl, rfl, ?_, ?_⟩
    · intro B hB hn
      rw [hget, if_neg (fun e => hn ⟨b, s, hs, e.symm, hch⟩)]
    · intro B row e fz hB h
      by_cases e' : B = s.blk
      · subst e'
        obtain ⟨row', fz', j1, j2, j3, j4⟩ := hO row e fz h
        subst j1
        refine ⟨row', fz', by rw [hget, if_pos rfl], j2, fun q hq => j4 q (fun hh => hq ⟨b, s, hs, rfl, hh.1, hh.2, hch⟩)⟩
      · exact ⟨row, fz, by rw [hget, if_neg e', h], rfl, fun _ _ => rfl⟩

end
end Go.DM
