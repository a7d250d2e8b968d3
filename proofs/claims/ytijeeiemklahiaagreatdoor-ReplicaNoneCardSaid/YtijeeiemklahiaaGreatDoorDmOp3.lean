/-
  A deterministic machine over Go's code: the law of the operations that make a block.
-/
import Derived.Test.YtijeeiemklahiaaGreatDoorDmOp2
namespace Go.DM

theorem repeatCells_length (z : List DVal) : ∀ n, (repeatCells z n).length = n * z.length
  | 0 => by simp [repeatCells]
  | n + 1 => by simp [repeatCells, repeatCells_length z n, Nat.succ_mul]; omega

theorem repeatCells_get (z : List DVal) : ∀ n i, i < n * z.length → (repeatCells z n)[i]? = z[i % z.length]?
  | 0, i, h => by simp at h
  | n + 1, i, h => by
    simp only [repeatCells]
    by_cases hi : i < z.length
    · rw [List.getElem?_append_left hi, Nat.mod_eq_of_lt hi]
    · rw [List.getElem?_append_right (by omega), repeatCells_get z n (i - z.length) (by rw [Nat.succ_mul] at h; omega)]
      congr 1
      rw [Nat.mod_eq_sub_mod (by omega : i ≥ z.length)]

theorem repeat_rel {ρ : Ren} {z : List DVal} {Z : Array Value} (h : VsRel ρ z Z.toList) (_ : z.length ≠ 0) (n : Nat) :
    VsRel ρ (repeatCells z n) ((Array.range (n * z.length)).map (Z[· % Z.size]!)).toList := by
  have hl := h.length
  simp only [Array.length_toList] at hl
  refine VsRel.of_get (by simp [repeatCells_length]) ?_
  intro i d v hd hv
  have hi : i < n * z.length := by
    have := (List.getElem?_eq_some_iff.1 hd).1
    rwa [repeatCells_length] at this
  rw [repeatCells_get z n i hi] at hd
  obtain ⟨V, g1, g2⟩ := h.get _ d hd
  have : v = V := by
    simp only [Array.getElem?_toList] at hv g1
    rw [Array.getElem?_map, Array.getElem?_range] at hv
    simp only [hi, if_true, Option.map_some, Option.some.injEq] at hv
    rw [hl] at g1
    obtain ⟨g3, g4⟩ := Array.getElem?_eq_some_iff.1 g1
    rw [← hv, ← g4, getElem!_pos Z (i % Z.size) g3]
  rw [this]; exact g2

theorem repeat_cell {z : List DVal} (h : z.all isCell = true) : ∀ n, (repeatCells z n).all isCell = true
  | 0 => rfl
  | n + 1 => by simp only [repeatCells, List.all_append, h, repeat_cell h n, Bool.and_self]

theorem dfill_cell {place : Nat → Option (Nat × Nat)} : ∀ {parts : List (Nat × DVal)} {cs r : List DVal}, dfill place cs parts = some r → cs.all isCell = true → (∀ p ∈ parts, p.2.cells.all isCell = true) → r.all isCell = true
  | [], cs, r, h, hc, _ => by simp only [dfill] at h; cases h; exact hc
  | (i, v) :: parts, cs, r, h, hc, hp => by
    simp only [dfill] at h
    split at h
    · cases h
    · split at h
      · cases h
      · refine dfill_cell h ?_ (fun p hp' => hp p (by simp [hp']))
        have hv := hp (i, v) (by simp)
        simp only at hv
        rename_i off size _ _
        clear h
        have : ∀ (n : Nat) (cs vs : List DVal), cs.all isCell = true → vs.all isCell = true → (splice cs n vs).all isCell = true := by
          intro n
          induction n with
          | zero =>
            intro cs vs h1 h2
            simp only [splice, List.all_append, h2, Bool.true_and]
            rw [List.all_eq_true] at h1 ⊢
            exact fun x hx => h1 x (List.mem_of_mem_drop hx)
          | succ n ih =>
            intro cs vs h1 h2
            cases cs with
            | nil => simp [splice]
            | cons a cs =>
              simp only [List.all_cons, Bool.and_eq_true] at h1
              simp only [splice, List.all_cons, h1.1, ih cs vs h1.2 h2, Bool.and_self]
        exact this off cs _ hc hv

/-- A new row. -/
theorem blk_new {ρ : Ren} {w : World} {cs : List DVal} {row : Array Value} {e e' : TypeId} {k : Nat} (h : VsRel ρ cs (row.toList.take cs.length)) (hl : cs.length ≤ row.size) (hc : cs.all isCell = true) (fz : Nat × Nat)
    (hf : fz.1 = fz.2 ∨ row.size ≤ fz.1) :
    BlkRel ρ ⟨w.heap.size, 0, row.size⟩ { w with heap := w.heap.push (.cells row e fz), drawn := k } (.cells cs e' 0) := by
  refine ⟨row, e, fz, by simp, hl, by simp, hf, by simpa using h, hc⟩

structure AllocTo (c : Ctx) (ρ : Ren) (w : World) (n : Nat) (s : Sem Next) (v : DVal) (ob : DObj) : Prop where
  to : ∃ V O sp k, s.run c.P w = .ok (.value V) { w with heap := w.heap.push O, drawn := k } ∧ sp.blk = w.heap.size ∧ VRel (ρ.add n sp) v V ∧
    BlkRel (ρ.add n sp) sp { w with heap := w.heap.push O, drawn := k } ob

theorem add_at (ρ : Ren) (n : Nat) (s : Spot) : (ρ.add n s) n = some s := by simp [Ren.add]

theorem dalloc_sound {c : Ctx} (ok : CtxOk c) {ρ : Ren} (w : World) {ev : Operand → Option DVal} {g : Operand → Value} {o : Oper} {n : Nat} {v : DVal} {ob : DObj} (h : dalloc c ev n o.op = some (v, ob))
    (he : ERel ρ ev g o.op.operands.toList) (hn : ρ n = none) : AllocTo c ρ w n (execOp g o) v ob := by
  obtain ⟨dst, op, type, pos, after, guard⟩ := o
  simp only at h he ⊢
  have hle : ∀ sp, ρ.le (ρ.add n sp) := fun sp => Ren.le_add hn
  cases op with
  | alloc e =>
    simp only [dalloc] at h
    split at h
    · rename_i i ht
      cases h
      have hT := ok.ty e i ht
      obtain ⟨z, dz, hz, _⟩ := hT.run_zero w ρ
      have hzc := hT.cells_size w ρ hz
      have hl := hzc.length
      simp only [Array.length_toList] at hl
      refine ⟨.pointer (some ⟨w.heap.size, 0, none⟩), .cells z.cells e (0, 0), ⟨w.heap.size, 0, z.cells.size⟩, w.drawn, ?_, rfl, ?_, ?_⟩
      · simp [execOp, Instr.alloc, hz, newVar, newRow]
      · simp only [VRel]; exact ⟨_, add_at _ _ _, rfl⟩
      · refine blk_new (k := w.drawn) ?_ (by omega) hT.zcell (0, 0) (.inl rfl)
        rw [List.take_of_length_le (by simp; omega)]
        exact VsRel.mono (hle _) _ _ hzc
    · cases h
  | box e x =>
    simp only [dalloc] at h
    split at h
    · rename_i v' hx
      split at h
      · rename_i hcell
        cases h
        have hr := (he x (by simp [Op.operands]) _ hx).cells hcell
        have hl := hr.length
        simp only [Array.length_toList] at hl
        refine ⟨.pointer (some ⟨w.heap.size, 0, none⟩), .cells (g x).cells e (0, 0), ⟨w.heap.size, 0, (g x).cells.size⟩, w.drawn, ?_, rfl, ?_, ?_⟩
        · simp [execOp, Instr.box, newVar, newRow]
        · simp only [VRel]; exact ⟨_, add_at _ _ _, rfl⟩
        · refine blk_new (k := w.drawn) ?_ (by omega) hcell (0, 0) (.inl rfl)
          rw [List.take_of_length_le (by simp; omega)]
          exact VsRel.mono (hle _) _ _ hr
      · cases h
    · cases h
  | buildSlice t len parts =>
    simp only [dalloc] at h
    split at h
    · rename_i e z1 z2 z3 ps ht hps
      split at h
      · rename_i ie hie
        split at h
        · cases h
        · rename_i hc
          simp only [not_or, Nat.not_lt] at hc
          obtain ⟨hc1, hc2, hc3⟩ := hc
          have hc3' : (ps.all fun p => p.2.cells.all isCell) = true := by simpa using hc3
          split at h
          · rename_i cs hfill
            cases h
            obtain ⟨g1, g2⟩ := devp_rel hps (g := g) (ρ := ρ) (he.sub (by intro y hy; simpa [Op.operands] using hy))
            have hT := ok.ty e ie hie
            have hu := (ok.ty _ _ ht).run_underlying w
            simp only at hu
            obtain ⟨z, dz, hz, _⟩ := hT.run_zero w ρ
            have hzc := hT.cells_size w ρ hz
            have hzl := hT.zlen
            have hrep := repeat_rel hzc (by omega) len
            rw [hzl] at hrep
            have hcell : ∀ p ∈ ps, p.2.cells.all isCell = true := fun p hp => List.all_eq_true.1 hc3' p hp
            obtain ⟨R, hR1, hR2⟩ := dfill_sound (parts' := (parts.map fun (i, x) => (i, g x)).toList) hfill hrep (by simpa using g1)
              (fun k p q hk hq => ⟨(g2 k p q hk (by simpa using hq)).1, (g2 k p q hk (by simpa using hq)).2, hcell p (List.mem_of_getElem? hk)⟩)
            have hl := hR2.length
            simp only [Array.length_toList] at hl
            refine ⟨.slice (some ⟨w.heap.size, 0, none⟩) len len, .cells R e (0, 0), ⟨w.heap.size, 0, R.size⟩, w.drawn, ?_, rfl, ?_, ?_⟩
            · have hng : ¬ (len * ie.size > 2 ^ 24) := by omega
              by_cases hlen : len = 0
              · subst hlen
                have : ((Array.range (0 * ie.size)).map (z.cells[· % z.cells.size]!)) = (Array.range (0 * ie.size)).map ((#[] : Array Value)[· % (#[] : Array Value).size]!) := by
                  simp
                rw [this] at hR1
                simp only [execOp, Instr.buildSlice, Sem.run_bind, hu, Result.andThen_ok, hT.run_sizeOf, Sem.run_ite]
                rw [if_neg hng]
                simp only [Nat.zero_mul, if_true, Sem.run_pure, Result.andThen_ok]
                simp only [Nat.zero_mul] at hR1
                rw [hR1]
                simp [newRow]
              · have hnz : ¬ (len * ie.size = 0) := by
                  intro h0; rcases Nat.mul_eq_zero.1 h0 with h | h <;> omega
                simp only [execOp, Instr.buildSlice, Sem.run_bind, hu, Result.andThen_ok, hT.run_sizeOf, Sem.run_ite]
                rw [if_neg hng, if_neg hnz]
                simp only [hz, Result.andThen_ok, Sem.run_pure]
                rw [hR1]
                simp [newRow]
            · simp only [VRel]; exact ⟨_, add_at _ _ _, rfl⟩
            · refine blk_new (k := w.drawn) ?_ (by omega) (dfill_cell hfill (repeat_cell hT.zcell _) hcell) (0, 0) (.inl rfl)
              rw [List.take_of_length_le (by simp; omega)]
              exact VsRel.mono (hle _) _ _ hR2
          · cases h
      · cases h
    · cases h
  | makeSlice t l cp =>
    simp only [dalloc] at h
    split at h
    · rename_i e z1 z2 z3 a b ht hl hcp
      split at h
      · rename_i ie hie
        split at h
        · rename_i hc
          obtain ⟨h1, h2, h3, h4, h5⟩ := hc
          cases h
          have hT := ok.ty e ie hie
          have hu := (ok.ty _ _ ht).run_underlying w
          simp only at hu
          have hlv := (he l (by simp [Op.operands]) _ hl).int_inv
          have hcv := (he cp (by simp [Op.operands]) _ hcp).int_inv
          obtain ⟨info, hi1, hi2, hi3⟩ := hT.run_bytes w
          obtain ⟨z, dz, hz, _⟩ := hT.run_zero w ρ
          have hzc := hT.cells_size w ρ hz
          have hzl := hT.zlen
          have hrep := repeat_rel hzc (by omega) b.toNat
          rw [hzl] at hrep
          have hwrap : ∀ x : Int, 0 ≤ x → x ≤ 2 ^ 40 → IntKind.i64.wrap x = x := by
            intro x hx1 hx2
            have : x % 2 ^ 64 = x := Int.emod_eq_of_lt hx1 (by omega)
            simp only [IntKind.wrap, IntKind.bits, IntKind.signed, this]
            simp; omega
          have wa := hwrap a h1 (by omega)
          have wb := hwrap b (by omega) h4
          have hll := hrep.length
          refine ⟨.slice (some ⟨w.heap.size, 0, none⟩) a.toNat b.toNat, .cells ((Array.range (b.toNat * ie.size)).map (z.cells[· % z.cells.size]!)) e (0, 0), ⟨w.heap.size, 0, b.toNat * ie.size⟩, w.drawn, ?_, rfl, ?_, ?_⟩
          · have hng : ¬ ((decide (b < 0) || decide ((info.bytes : Int) * b > 2 ^ 48)) = true ∨ a < 0 ∨ a > b) := by
              rw [hi3]
              have : (ie.bytes : Int) * b ≤ 2 ^ 40 := by rw [Int.mul_comm]; exact h3
              simp only [Bool.or_eq_true, decide_eq_true_eq]
              omega
            simp only [execOp, Instr.makeSlice, Sem.run_bind, hu, Result.andThen_ok, hlv, hcv, asInt, asIntOf, Sem.run_pure, hi1, wa, wb]
            rw [if_neg (by simpa [or_assoc] using hng)]
            simp only [Sem.run_bind, run_askRoom, Result.andThen_ok, hT.run_sizeOf]
            by_cases hb0 : b.toNat * ie.size = 0
            · rw [if_pos hb0]
              have e0 : ∀ f : Nat → Value, Array.map f (Array.range 0) = #[] := fun f => by apply Array.ext'; simp
              simp only [hb0, e0]
              simp [newRow]
            · rw [if_neg hb0]
              simp [hz, newRow]
          · simp only [VRel]; exact ⟨_, add_at _ _ _, rfl⟩
          · have hb := blk_new (ρ := ρ.add n ⟨w.heap.size, 0, b.toNat * ie.size⟩) (w := w) (k := w.drawn) (cs := repeatCells ie.zero b.toNat) (row := (Array.range (b.toNat * ie.size)).map (z.cells[· % z.cells.size]!)) (e := e) (e' := e)
              (by rw [List.take_of_length_le (by rw [← hll]; exact Nat.le_refl _)]; exact VsRel.mono (hle _) _ _ hrep) (by simp [repeatCells_length, hzl]) (repeat_cell hT.zcell _) (0, 0) (.inl rfl)
            simpa using hb
        · cases h
      · cases h
    · cases h
  | makeMap t r =>
    cases r with
    | some r => simp [dalloc] at h
    | none =>
      simp only [dalloc] at h; cases h
      refine ⟨.map (some w.heap.size), .map #[] 0, ⟨w.heap.size, 0, 1⟩, w.drawn, ?_, rfl, ?_, ?_⟩
      · simp [execOp, Instr.makeMap]
      · simp only [VRel]; exact ⟨_, add_at _ _ _, rfl⟩
      · exact ⟨#[], 0, by simp, by simp [EsRel], rfl, rfl⟩
  | convert src dst' x =>
    simp only [dalloc] at h
    split at h
    · rename_i i0 e z1 z2 z3 s h1 h2 hx
      split at h
      · rename_i w1 w2 w3 hie
        cases h
        obtain ⟨S, hS, hv⟩ := (he x (by simp [Op.operands]) _ hx).str_inv
        have u1 := (ok.ty _ _ h1).run_underlying w
        have u2 := (ok.ty _ _ h2).run_underlying w
        have u3 := (ok.ty _ _ hie).run_underlying w
        simp only at u2 u3
        have hsz : s.length = S.size := by rw [← hS]; simp only [Array.length_toList]; rfl
        -- the capacity drawn
        obtain ⟨cap, k, hch, hcap⟩ : ∃ cap k, (choose (.appendCap S.size 0 e)).run c.P w = .ok cap { w with drawn := k } ∧ S.size ≤ cap := by
          refine ⟨_, w.drawn + 1, by simp [run_choose, Question.forced]; rfl, ?_⟩
          simp [Question.cut]
        have hrow : (S.data.map (fun b => Value.int .u8 b.toNat) ++ Array.replicate (cap - S.size) (Value.int .u8 0)).size = cap := by
          simp; have : S.data.size = S.size := rfl; omega
        refine ⟨.slice (some ⟨w.heap.size, 0, none⟩) S.size cap, .cells (S.data.map (fun b => Value.int .u8 b.toNat) ++ Array.replicate (cap - S.size) (Value.int .u8 0)) e (cap, cap + 1), ⟨w.heap.size, 0, cap⟩, k, ?_, rfl, ?_, ?_⟩
        · simp only [execOp, convert, Sem.run_bind, u1, u2, Result.andThen_ok, hv, u3, Conv.stringToBytes, hch, newRow, run_newObj, Sem.run_pure, markStringish, run_shape]
          simp only [World.shape?]
          have hg : (w.heap.push (Obj.cells (S.data.map (fun b => Value.int .u8 b.toNat) ++ Array.replicate (cap - S.size) (Value.int .u8 0)) e (0, 0)))[w.heap.size]? = some (Obj.cells (S.data.map (fun b => Value.int .u8 b.toNat) ++ Array.replicate (cap - S.size) (Value.int .u8 0)) e (0, 0)) := by simp
          simp only [hg, run_freeze, Result.andThen_ok, hrow]
          congr 1
          simp only [World.freeze, Nat.one_ne_zero, if_false]
          congr 1
          apply Array.ext_getElem?
          intro i
          rw [Array.getElem?_modify]
          by_cases hi : w.heap.size = i
          · subst hi; simp
          · simp [hi, Array.getElem?_push, Ne.symm hi]
        · simp only [VRel]
          refine ⟨_, cap, add_at _ _ _, by omega, by simp, ?_⟩
          rw [hsz]; rfl
        · refine ⟨_, e, (cap, cap + 1), by simp; rfl, ?_, ?_, ?_, ?_, ?_⟩
          · simp [hsz]; omega
          · simp; have : S.data.size = S.size := rfl; omega
          · right; simp; have : S.data.size = S.size := rfl; omega
          · have hSl : S.data.toList.length = S.size := by simp only [Array.length_toList]; rfl
            have : ((S.data.map (fun b => Value.int .u8 b.toNat) ++ Array.replicate (cap - S.size) (Value.int .u8 0)).toList.drop 0).take (s.map fun b => DVal.int .u8 b.toNat).length = S.data.toList.map fun b => Value.int .u8 b.toNat := by
              simp only [List.drop_zero, Array.toList_append, Array.toList_map, List.length_map]
              rw [List.take_append_of_le_length (by simp only [List.length_map]; omega), List.take_of_length_le (by simp only [List.length_map]; omega)]
            rw [this, ← hS]
            exact VsRel.map_same _ _ (fun b => by simp [VRel]) _
          · rw [List.all_eq_true]
            intro x hx
            simp only [List.mem_map] at hx
            obtain ⟨b, _, rfl⟩ := hx; rfl
      · cases h
    · cases h
  | _ => simp [dalloc] at h
end Go.DM
