/-
  A deterministic machine over Go's code: the law of append, and of all operations that write.
-/
import Derived.Test.YtijeeiemklahiaaGreatDoorDmOp4
namespace Go.DM

/-- A block dies: nothing is to be done in the world. -/
theorem Post.kill {ρ : Ren} {m : DMem} {w : World} (hr : MRel ρ m w) {b : Nat} (hb : b < m.size) (hal : alive m b) : Post ρ m w (m.put b .dead) ρ w := by
  have hob : ∃ o, m.get b = some o ∧ later o .dead := by
    unfold alive at hal
    cases h : m.get b with
    | none => rw [h] at hal; exact hal.elim
    | some o => rw [h] at hal; cases o <;> simp [later] at * 
  obtain ⟨o, ho, hl⟩ := hob
  have hext : Ext m (m.put b .dead) := ⟨Nat.le_refl _, fun i x hx => by
    by_cases e : i = b
    · subst e; rw [ho] at hx; cases hx
      exact ⟨.dead, by rw [DMem.get_put, if_pos rfl], .inr hl⟩
    · exact ⟨x, by rw [DMem.get_put, if_neg e, hx], .inl rfl⟩⟩
  have hal' : ∀ i, alive (m.put b .dead) i → alive m i := by
    intro i hi
    by_cases e : i = b
    · subst e; exact hal
    · exact (alive_of_get (by rw [DMem.get_put, if_neg e])).1 hi
  have hkn : ∀ i, known (m.put b .dead) i → known m i := by
    intro i hi
    by_cases e : i = b
    · subst e; exact hal.known
    · exact (known_of_get (by rw [DMem.get_put, if_neg e])).1 hi
  refine ⟨Ren.le_refl _, ⟨?_, hr.fresh, hr.old, ?_, ?_⟩, hext, fun _ _ h => .inl h, fun _ _ h _ => .inl h, ?_⟩
  · intro i h
    rw [DMem.get_put, if_neg (fun e => by subst e; exact absurd h (by simp only [DMem.put]; omega))]
    exact hr.wf i h
  · intro i s hs
    by_cases e : i = b
    · subst e; exact ⟨.dead, by rw [DMem.get_put, if_pos rfl], trivial⟩
    · obtain ⟨ob, h1, h2⟩ := hr.blk i s hs
      exact ⟨ob, by rw [DMem.get_put, if_neg e, h1], h2⟩
  · intro i j x y hne h1 h2 a1 a2
    exact hr.apart i j x y hne h1 h2 (hal' i a1) (hkn j a2)
  · exact ⟨Nat.le_refl _, rfl, rfl, rfl, fun _ _ _ => rfl, fun B row e fz _ h => ⟨row, fz, h, rfl, fun _ _ => rfl⟩⟩

/-- A block's place is handed on to a new block. -/
theorem Post.move {ρ : Ren} {m : DMem} {w : World} (hr : MRel ρ m w) {b : Nat} {s s' : Spot} (hs : ρ b = some s) {cs : List DVal} {el : TypeId} {ver : Nat} (ho : m.get b = some (.cells cs el ver))
    {row row' : Array Value} {e : TypeId} {fz : Nat × Nat} (hrow : w.heap[s.blk]? = some (.cells row e fz)) (hsz : row'.size = row.size) (hout : ∀ i, ¬ (s.base ≤ i ∧ i < s.base + s.tot) → row'[i]? = row[i]?)
    (h1 : s'.blk = s.blk) (h2 : s.base ≤ s'.base) (h3 : s'.base + s'.tot ≤ s.base + s.tot) {ob : DObj} (hB : BlkRel (ρ.add m.size s') s' (setObjW w s.blk (.cells row' e fz)) ob) :
    Post ρ m w ((m.alloc ob).put b .dead) (ρ.add m.size s') (setObjW w s.blk (.cells row' e fz)) := by
  have hlt := hr.old b s hs
  have hbm := hr.fresh b s hs
  have hget := fun i => setObjW_get (w := w) (o := .cells row' e fz) hlt i
  have hle : ρ.le (ρ.add m.size s') := Ren.le_add hr.none_at
  have hal : alive m b := by unfold alive; rw [ho]; trivial
  have hmget : ∀ i, ((m.alloc ob).put b .dead).get i = if i = b then some .dead else if i = m.size then some ob else m.get i := by
    intro i; rw [DMem.get_put, DMem.get_alloc]
  have hext : Ext m ((m.alloc ob).put b .dead) := ⟨by simp [DMem.alloc, DMem.put], fun i x hx => by
    rw [hmget]
    by_cases e : i = b
    · subst e; rw [ho] at hx; cases hx
      exact ⟨.dead, by simp, .inr (by simp [later])⟩
    · have : i ≠ m.size := fun e' => by subst e'; rw [hr.wf _ (Nat.le_refl _)] at hx; cases hx
      exact ⟨x, by rw [if_neg e, if_neg this, hx], .inl rfl⟩⟩
  have hch : Changed m ((m.alloc ob).put b .dead) b := by
    unfold Changed; rw [hmget, if_pos rfl, ho]; intro h; cases h
  have hal' : ∀ i, i ≠ m.size → alive ((m.alloc ob).put b .dead) i → alive m i ∧ i ≠ b := by
    intro i hi ha
    by_cases e : i = b
    · subst e; unfold alive at ha; rw [hmget, if_pos rfl] at ha; exact ha.elim
    · exact ⟨(alive_of_get (by rw [hmget, if_neg e, if_neg hi])).1 ha, e⟩
  have hkn' : ∀ i, i ≠ m.size → known ((m.alloc ob).put b .dead) i → known m i ∧ i ≠ b := by
    intro i hi ha
    by_cases e : i = b
    · subst e; unfold known at ha; rw [hmget, if_pos rfl] at ha; exact ha.elim
    · exact ⟨(known_of_get (by rw [hmget, if_neg e, if_neg hi])).1 ha, e⟩
  refine ⟨hle, ⟨?_, ?_, ?_, ?_, ?_⟩, hext, ?_, ?_, ?_⟩
  · intro i h
    simp only [DMem.alloc, DMem.put] at h
    rw [hmget, if_neg (by omega), if_neg (by omega)]
    exact hr.wf i (by omega)
  · intro i x hx
    simp only [DMem.alloc, DMem.put]
    unfold Ren.add at hx
    split at hx
    · omega
    · have := hr.fresh i x hx; omega
  · intro i x hx
    rw [setObjW_size]
    unfold Ren.add at hx
    split at hx
    · cases hx; omega
    · exact hr.old i x hx
  · intro i x hx
    rw [hmget]
    by_cases e : i = b
    · exact ⟨.dead, by rw [if_pos e], trivial⟩
    · by_cases e' : i = m.size
      · subst e'
        have : x = s' := by simp [Ren.add] at hx; exact hx.symm
        subst this
        exact ⟨ob, by rw [if_neg e, if_pos rfl], hB⟩
      · have hx' : ρ i = some x := by simpa [Ren.add, e'] using hx
        obtain ⟨oi, k1, k2⟩ := hr.blk i x hx'
        refine ⟨oi, by rw [if_neg e, if_neg e', k1], ?_⟩
        refine BlkRel.mono hle ?_
        by_cases hblk : x.blk = s.blk
        · cases oi with
          | dead => trivial
          | map es v =>
            obtain ⟨es', ck, j1, _⟩ := k2
            rw [hblk, hrow] at j1; cases j1
          | ro cs2 =>
            have ha := hr.apart b i s x (Ne.symm e) hs hx' hal (by unfold known; rw [k1]; trivial)
            obtain ⟨row2, e2, fz2, j1, j2, j3, j5, j6⟩ := k2
            rw [hblk, hrow] at j1; cases j1
            refine ⟨row', _, fz, by rw [hblk, hget, if_pos rfl], j2, by omega, ?_, j6⟩
            have : (row'.toList.drop x.base).take cs2.length = (row.toList.drop x.base).take cs2.length := by
              apply List.ext_getElem?
              intro q
              rw [drop_take_get, drop_take_get]
              split
              · have := hout (x.base + q) (by omega)
                simpa using this
              · rfl
            rw [this]; exact j5
          | cells cs2 el2 v2 =>
            have ha := hr.apart b i s x (Ne.symm e) hs hx' hal (by unfold known; rw [k1]; trivial)
            obtain ⟨row2, e2, fz2, j1, j2, j3, j4, j5, j6⟩ := k2
            rw [hblk, hrow] at j1; cases j1
            refine ⟨row', _, fz, by rw [hblk, hget, if_pos rfl], j2, by omega, by rw [hsz]; exact j4, ?_, j6⟩
            have : (row'.toList.drop x.base).take cs2.length = (row.toList.drop x.base).take cs2.length := by
              apply List.ext_getElem?
              intro q
              rw [drop_take_get, drop_take_get]
              split
              · have := hout (x.base + q) (by omega)
                simpa using this
              · rfl
            rw [this]; exact j5
        · exact k2.world (by rw [hget, if_neg hblk])
  · intro i j x y hne hx hy a1 a2
    by_cases e : i = m.size
    · have e' : j ≠ m.size := fun z => hne (e.trans z.symm)
      have : x = s' := by simp [Ren.add, e] at hx; exact hx.symm
      subst this
      have hy' : ρ j = some y := by simpa [Ren.add, e'] using hy
      obtain ⟨b1, b2⟩ := hkn' j e' a2
      have := hr.apart b j s y (Ne.symm b2) hs hy' hal b1
      omega
    · have hx' : ρ i = some x := by simpa [Ren.add, e] using hx
      obtain ⟨b1, b2⟩ := hal' i e a1
      by_cases e' : j = m.size
      · have : y = s' := by simp [Ren.add, e'] at hy; exact hy.symm
        subst this
        have := hr.apart i b x s b2 hx' hs b1 hal.known
        omega
      · have hy' : ρ j = some y := by simpa [Ren.add, e'] using hy
        exact hr.apart i j x y hne hx' hy' b1 (hkn' j e' a2).1
  · intro i x hx
    by_cases e : i = m.size
    · right; omega
    · left; simpa [Ren.add, e] using hx
  · intro i x hx hlt'
    by_cases e : i = m.size
    · have : x = s' := by simp [Ren.add, e] at hx; exact hx.symm
      subst this
      right
      exact ⟨b, s, hs, h1.symm, h2, h3, hch⟩
    · left; simpa [Ren.add, e] using hx
  · refine ⟨by rw [setObjW_size]; exact Nat.le_refl _, rfl, rfl, rfl, ?_, ?_⟩
    · intro B hB hn
      rw [hget, if_neg (fun e => hn ⟨b, s, hs, e.symm, hch⟩)]
    · intro B row2 e2 fz2 hB h
      by_cases e' : B = s.blk
      · subst e'
        rw [hrow] at h; cases h
        exact ⟨row', fz, by rw [hget, if_pos rfl], hsz, fun q hq => hout q (fun hh => hq ⟨b, s, hs, rfl, hh.1, hh.2, hch⟩)⟩
      · exact ⟨row2, fz2, by rw [hget, if_neg e', h], rfl, fun _ _ => rfl⟩

theorem growBy_le : ∀ (r n c : Nat), c < n → Builtin.growBy n r c ≤ 2 * n + 192
  | 0, n, c, h => by simp [Builtin.growBy]; omega
  | r + 1, n, c, h => by
    simp only [Builtin.growBy]
    rw [if_neg (by omega)]
    by_cases h' : c + (c + 768) / 4 < n
    · exact growBy_le r n _ h'
    · cases r with
      | zero => simp only [Builtin.growBy]; omega
      | succ r => simp only [Builtin.growBy]; rw [if_pos (by omega)]; omega

theorem nextslicecap_le {n c : Nat} (h : c < n) : Builtin.nextslicecap n c ≤ 2 * n + 192 := by
  unfold Builtin.nextslicecap
  split
  · omega
  · split
    · omega
    · exact growBy_le 4 n c h

theorem rcells_length {m : DMem} {b o n : Nat} {cs : List DVal} (h : rcells m b o n = some cs) : cs.length = n := by
  unfold rcells at h
  split at h
  · split at h
    · rename_i hb
      have := Nat.le_of_ble_eq_true hb
      cases h; simp; omega
    · cases h
  · split at h
    · rename_i hb
      have := Nat.le_of_ble_eq_true hb
      cases h; simp; omega
    · cases h
  · cases h

theorem dnew_zero {c : Ctx} {ie : TI} {m : DMem} {xt : TypeId} {x : DVal} {new : List DVal} (h : dnew c ie m xt x = some (0, new)) : new = [] := by
  unfold dnew at h
  split at h
  · split at h
    · split at h
      · rename_i hc
        simp at h; obtain ⟨e1, e2⟩ := h; subst e1; subst e2; exact srcCells_zero hc
      · cases h
    · cases h
  · split at h
    · split at h
      · simp only [Option.some.injEq, Prod.mk.injEq] at h; obtain ⟨e1, e2⟩ := h
        rw [← e2, e1]; rfl
      · cases h
    · cases h

theorem dnew_cell {c : Ctx} {ie : TI} {m : DMem} {xt : TypeId} {x : DVal} {n : Nat} {new : List DVal} (h : dnew c ie m xt x = some (n, new)) (P : Program) {ρ : Ren} {w : World} (hr : MRel ρ m w) {X : Value} (hx : VRel ρ x X)
    (hz : ie.zero.all isCell = true) : new.all isCell = true := by
  unfold dnew at h
  split at h
  · split at h
    · rename_i hk
      split at h
      · rename_i hc
        simp at h; obtain ⟨e1, e2⟩ := h; subst e1; subst e2
        obtain ⟨_, _, _, g⟩ := firstCells_sound (P := P) hr hx hc hk (Nat.le_refl _)
        exact g
      · cases h
    · cases h
  · split at h
    · split at h
      · simp at h; obtain ⟨e1, e2⟩ := h; subst e2; exact repeat_cell hz _
      · cases h
    · cases h

theorem dnew_len {c : Ctx} {ie : TI} {m : DMem} {xt : TypeId} {x : DVal} {n : Nat} {new : List DVal} (h : dnew c ie m xt x = some (n, new)) {ρ : Ren} {X : Value} (hx : VRel ρ x X) (hz : ie.zero.length = ie.size) : new.length = n * ie.size := by
  unfold dnew at h
  split at h
  · split at h
    · rename_i k hk
      split at h
      · rename_i hc
        simp only [Option.some.injEq, Prod.mk.injEq] at h; obtain ⟨e1, e2⟩ := h; subst e1; subst e2
        unfold srcCells at hc
        split at hc
        · exact rcells_length hc
        · cases hc
          simp only [VRel] at hx
          simp only [srcLen, Option.some.injEq] at hk
          rw [← hk, hx.1]; simp
        · split at hc
          · rename_i h1
            cases hc
            simp only [srcLen, Option.some.injEq] at hk
            rw [← hk, h1]; simp
          · cases hc
        · cases hc
      · cases h
    · cases h
  · split at h
    · split at h
      · simp only [Option.some.injEq, Prod.mk.injEq] at h; obtain ⟨e1, e2⟩ := h; rw [← e2, repeatCells_length, hz, e1]
      · cases h
    · cases h

/-- The front of an append: how many, and what. -/
theorem dnew_sound {c : Ctx} (ok : CtxOk c) {ρ : Ren} {m : DMem} {w : World} (hr : MRel ρ m w) {e xt : TypeId} {ie : TI} (hie : c.ty e = some ie) {x : DVal} {X : Value} (hx : VRel ρ x X) {n : Nat} {new : List DVal} (h : dnew c ie m xt x = some (n, new)) :
    ∃ (xd : TypeDesc) (vs : List Value), c.P.underlying xt = some xd ∧ VsRel ρ new vs ∧
      (((∀ k, xd ≠ .int k) ∧ (Builtin.lenOf X).run c.P w = .ok n w ∧ ∀ k, (Builtin.firstCells ie.size n X).run c.P { w with drawn := k } = .ok vs.toArray { w with drawn := k }) ∨
      ((∃ k, xd = .int k) ∧ X = .int .i64 n ∧ n ≤ 2 ^ 40 ∧ n * ie.bytes ≤ 2 ^ 40 ∧ ie.size ≠ 0 ∧ ∀ z, (zeroValue e).run c.P w = .ok z w → Builtin.zeroCells z.cells n = vs.toArray)) := by
  unfold dnew at h
  split at h
  · rename_i hss
    split at h
    · rename_i k hk
      split at h
      · rename_i new' hc
        simp at h; obtain ⟨e1, e2⟩ := h; subst e1; subst e2
        unfold isSliceOrStr at hss
        have hxd : ∃ xd, c.P.underlying xt = some xd ∧ ∀ k, xd ≠ .int k := by
          split at hss
          · rename_i z0 z1 z2 z3 ht; exact ⟨_, (ok.ty _ _ ht).und, by simp⟩
          · rename_i z1 z2 z3 ht; exact ⟨_, (ok.ty _ _ ht).und, by simp⟩
          · cases hss
        obtain ⟨xd, h1, h2⟩ := hxd
        obtain ⟨vs, g1, g2, g3⟩ := firstCells_soundK (P := c.P) hr hx hc hk (Nat.le_refl _)
        exact ⟨xd, vs, h1, g1, .inl ⟨h2, srcLen_sound hx hk, g2⟩⟩
      · cases h
    · cases h
  · split at h
    · rename_i nn hint
      split at h
      · rename_i hc
        obtain ⟨c1, c2, c3, c4⟩ := hc
        simp at h; obtain ⟨e1, e2⟩ := h; subst e1; subst e2
        unfold isIntTy at hint
        have hxd : ∃ xd, c.P.underlying xt = some xd ∧ ∃ k, xd = .int k := by
          split at hint
          · rename_i z0 z1 z2 z3 ht; exact ⟨_, (ok.ty _ _ ht).und, _, rfl⟩
          · cases hint
        obtain ⟨xd, h1, h2⟩ := hxd
        have hT := ok.ty _ _ hie
        obtain ⟨z, dz, hz, _⟩ := hT.run_zero w ρ
        have hzc := hT.cells_size w ρ hz
        have hzl := hT.zlen
        have hl := hzc.length
        simp only [Array.length_toList] at hl
        have hrep := repeat_rel hzc (by omega) nn.toNat
        refine ⟨xd, ((Array.range (nn.toNat * ie.zero.length)).map (z.cells[· % z.cells.size]!)).toList, h1, hrep, .inr ⟨h2, ?_, by omega, ?_, c4, ?_⟩⟩
        · have := hx.int_inv; rw [this, Int.toNat_of_nonneg c1]
        · have : ((nn.toNat * ie.bytes : Nat) : Int) ≤ 2 ^ 40 := by
            rw [Int.natCast_mul, Int.toNat_of_nonneg c1]; exact c3
          omega
        · intro z' hz'
          rw [hz] at hz'
          have : z = z' := by injection hz'
          subst this
          simp only [Builtin.zeroCells, hl]
      · cases h
    · cases h

theorem appendCap_run (P : Program) (w : World) (need old : Nat) (e : TypeId) : ∃ cap k, (choose (.appendCap need old e)).run P w = .ok cap { w with drawn := k } ∧ need ≤ cap := by
  refine ⟨_, w.drawn + 1, by simp [run_choose, Question.forced]; rfl, ?_⟩
  simp [Question.cut]

/-- The model's append, where there is room. -/
theorem run_append_room {P : Program} {w w' : World} {tys : Array TypeId} {args : Array Value} {ty st xt e : TypeId} {xd : TypeDesc} {A : Option Addr} {X : Value} {len cap n size : Nat} {vs : List Value} {info : TypeInfo}
    (t0 : tys[0]? = some st) (t1 : tys[1]? = some xt) (a0 : args[0]? = some (.slice A len cap)) (a1 : args[1]? = some X) (hst : (underlying st).run P w = .ok (.slice e) w) (hsz : (sizeOf e).run P w = .ok size w)
    (hxt : (underlying xt).run P w = .ok xd w) (hinfo : (typeInfo e).run P w = .ok info w)
    (hx : ((∀ k, xd ≠ .int k) ∧ (Builtin.lenOf X).run P w = .ok n w ∧ (Builtin.firstCells size n X).run P w = .ok vs.toArray w) ∨
      ((∃ k, xd = .int k) ∧ X = .int .i64 n ∧ n ≤ 2 ^ 40 ∧ info.bytes * n ≤ 2 ^ 48 ∧ ∃ z, (zeroValue e).run P w = .ok z w ∧ (n * size = 0 → vs = []) ∧ Builtin.zeroCells z.cells n = vs.toArray))
    (hroom : len + n ≤ cap) (hstore : (match A with | some a => storeCells (a.add (len * size)) vs | none => pure () : Sem Unit).run P w = .ok () w') :
    (Builtin.append_ tys ty args).run P w = .ok (.slice A (len + n) cap) w' := by
  rcases hx with ⟨h1, h2, h3⟩ | ⟨⟨k, rfl⟩, rfl, h3, hlow, z, h4, h5, h6⟩
  · have hm : (match xd with | .int _ => true | _ => false) = false := by cases xd <;> first | rfl | exact absurd rfl (h1 _)
    cases A with
    | none => simp at hstore; subst hstore; simp [Builtin.append_, t0, t1, a0, a1, hst, hsz, hxt, h2, h3, hroom]
    | some a => simp [Builtin.append_, t0, t1, a0, a1, hst, hsz, hxt, h2, h3, hroom] at hstore ⊢; simp [hstore]
  · have hw : IntKind.i64.wrap (n : Int) = n := by
      have : (n : Int) % 2 ^ 64 = n := Int.emod_eq_of_lt (by omega) (by omega)
      simp only [IntKind.wrap, IntKind.bits, IntKind.signed, this]
      simp; omega
    have hnn : ¬ ((n : Int) < 0) := by omega
    have hbig : ¬ ((281474976710656 : Int) < (n : Int) * (info.bytes : Int)) := by
      have : ((info.bytes * n : Nat) : Int) ≤ 281474976710656 := by omega
      rw [Int.natCast_mul, Int.mul_comm] at this; omega
    by_cases hz : n * size = 0
    · have hv := h5 hz; subst hv
      cases A with
      | none => simp at hstore; subst hstore; simp [Builtin.append_, t0, t1, a0, a1, hst, hsz, hxt, asInt, asIntOf, hw, hnn, hbig, hinfo, hz, hroom]
      | some a => simp [storeCells] at hstore; subst hstore; simp [Builtin.append_, t0, t1, a0, a1, hst, hsz, hxt, asInt, asIntOf, hw, hnn, hbig, hinfo, hz, hroom, storeCells]
    · cases A with
      | none => simp at hstore; subst hstore; simp [Builtin.append_, t0, t1, a0, a1, hst, hsz, hxt, asInt, asIntOf, hw, hnn, hbig, hinfo, hz, hroom, h4]
      | some a => simp [Builtin.append_, t0, t1, a0, a1, hst, hsz, hxt, asInt, asIntOf, hw, hnn, hbig, hinfo, hz, hroom, h4, h6] at hstore ⊢; simp [hstore]

end Go.DM
