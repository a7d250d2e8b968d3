/-
  A deterministic machine over Go's code: the law of append where it makes a new array, and of all operations that write.
-/
import Derived.Test.YtijeeiemklahiaaGreatDoorDmOp5
namespace Go.DM

theorem cat_toArray (a b : List Value) (c : Array Value) : a.toArray ++ (b.toArray ++ c) = (a ++ b).toArray ++ c := by
  apply Array.ext'; simp

theorem run_append_grow {P : Program} {w : World} {tys : Array TypeId} {args : Array Value} {ty st xt e : TypeId} {xd : TypeDesc} {A : Option Addr} {X : Value} {len cap n size : Nat} {olds vs : List Value} {info : TypeInfo} {z : Value}
    (t0 : tys[0]? = some st) (t1 : tys[1]? = some xt) (a0 : args[0]? = some (.slice A len cap)) (a1 : args[1]? = some X) (hst : (underlying st).run P w = .ok (.slice e) w) (hsz : (sizeOf e).run P w = .ok size w)
    (hxt : (underlying xt).run P w = .ok xd w) (hinfo : ∀ w, (typeInfo e).run P w = .ok info w) (hb1 : (len + n) * info.bytes ≤ 2 ^ 40) (hb2 : len + n ≤ 2 ^ 40)
    (hzero : ∀ q, (zeroValue e).run P { w with drawn := q } = .ok z { w with drawn := q })
    (hold : ∀ q, (Builtin.firstCells size len (.slice A len cap)).run P { w with drawn := q } = .ok olds.toArray { w with drawn := q })
    (hx : ((∀ k, xd ≠ .int k) ∧ (Builtin.lenOf X).run P w = .ok n w ∧ ∀ q, (Builtin.firstCells size n X).run P { w with drawn := q } = .ok vs.toArray { w with drawn := q }) ∨
      ((∃ k, xd = .int k) ∧ X = .int .i64 n ∧ n ≤ 2 ^ 40 ∧ (n * size = 0 → vs = []) ∧ Builtin.zeroCells z.cells n = vs.toArray))
    (hroom : ¬ len + n ≤ cap) :
    ∃ cap' k, len + n ≤ cap' ∧ (Builtin.append_ tys ty args).run P w = .ok (.slice (some ⟨w.heap.size, 0, none⟩) (len + n) cap')
      { w with heap := w.heap.push (.cells ((olds ++ vs).toArray ++ Builtin.zeroCells z.cells (cap' - (len + n))) e (0, 0)), drawn := k } := by
  obtain ⟨cap', k, hch, hcap⟩ := appendCap_run P w (len + n) cap e
  have h1 : ¬ (9223372036854775807 < (len : Int) + (n : Int)) := by omega
  have h2 : ¬ (281474976710656 < Builtin.nextslicecap (len + n) cap * info.bytes) := by
    have hn := nextslicecap_le (n := len + n) (c := cap) (by omega)
    have : Builtin.nextslicecap (len + n) cap * info.bytes ≤ (2 * (len + n) + 192) * info.bytes := Nat.mul_le_mul_right _ hn
    rw [Nat.add_mul, Nat.mul_assoc] at this
    have hb : info.bytes ≤ (len + n) * info.bytes := Nat.le_mul_of_pos_left _ (by omega)
    omega
  have h3 : ¬ (len + n ≤ cap) := hroom
  refine ⟨cap', k, hcap, ?_⟩
  rcases hx with ⟨g1, g2, g3⟩ | ⟨⟨kk, rfl⟩, rfl, g3, g4, g5⟩
  · have hm : (match xd with | .int _ => true | _ => false) = false := by cases xd <;> first | rfl | exact absurd rfl (g1 _)
    simp [-run_choose, Builtin.append_, t0, t1, a0, a1, hst, hsz, hxt, g2, g3, h3, h1, h2, hinfo, hch, hold, hzero, newRow]
    rw [cat_toArray]; rfl
  · have hw : IntKind.i64.wrap (n : Int) = n := by
      have : (n : Int) % 2 ^ 64 = n := Int.emod_eq_of_lt (by omega) (by omega)
      simp only [IntKind.wrap, IntKind.bits, IntKind.signed, this]
      simp; omega
    have hnn : ¬ ((n : Int) < 0) := by omega
    have hbig : ¬ ((281474976710656 : Int) < (n : Int) * (info.bytes : Int)) := by
      have : n * info.bytes ≤ (len + n) * info.bytes := Nat.mul_le_mul_right _ (by omega)
      have : ((n * info.bytes : Nat) : Int) ≤ 281474976710656 := by omega
      rw [Int.natCast_mul] at this; omega
    by_cases hz : n * size = 0
    · have hv := g4 hz; subst hv
      simp [-run_choose, Builtin.append_, t0, t1, a0, a1, hst, hsz, hxt, asInt, asIntOf, hw, hnn, hbig, hinfo, hz, h3, h1, h2, hch, hold, hzero, newRow]
      rfl
    · simp [-run_choose, Builtin.append_, t0, t1, a0, a1, hst, hsz, hxt, asInt, asIntOf, hw, hnn, hbig, hinfo, hz, h3, h1, h2, hch, hold, hzero, newRow, g5]
      rw [cat_toArray]; rfl

theorem TyOk.bytes_any {P : Program} {t : TypeId} {i : TI} (h : TyOk P t i) : ∃ info : TypeInfo, (∀ w, (typeInfo t).run P w = .ok info w) ∧ info.size = i.size ∧ info.bytes = i.bytes := by
  obtain ⟨info, z, d, h1, h2, h3, _⟩ := h.info
  exact ⟨info, fun w => by simp [typeInfo, h1], h2, h3⟩

theorem TyOk.zero_any {P : Program} {t : TypeId} {i : TI} (h : TyOk P t i) : ∃ z : Value, (∀ w, (zeroValue t).run P w = .ok z w) ∧ ∀ ρ, VsRel ρ i.zero z.cells.toList := by
  obtain ⟨info, z, d, h1, h2, h3, h4, h5, h6, h7⟩ := h.info
  refine ⟨z, fun w => by simp [zeroValue, typeInfo, h1, h4], fun ρ => ?_⟩
  rw [← h6]
  exact (ofConst_rel ρ z d h5).cells (by rw [h6]; exact h.zcell)

theorem MRel.alive_spot {ρ : Ren} {m : DMem} {w : World} (hr : MRel ρ m w) {b : Nat} {s : Spot} (hs : ρ b = some s) {cs : List DVal} {el : TypeId} {ver : Nat} (ho : m.get b = some (.cells cs el ver)) :
    ∃ row e fz, w.heap[s.blk]? = some (.cells row e fz) ∧ cs.length ≤ s.tot ∧ s.base + s.tot ≤ row.size ∧ (fz.1 = fz.2 ∨ row.size ≤ fz.1) ∧ VsRel ρ cs ((row.toList.drop s.base).take cs.length) ∧ (cs.all isCell = true) := by
  obtain ⟨ob, h1, h2⟩ := hr.blk b s hs
  rw [ho] at h1; cases h1
  exact h2

theorem dappend_sound {c : Ctx} (ok : CtxOk c) {ρ : Ren} {m m' : DMem} {w : World} (hr : MRel ρ m w) {tys : List TypeId} {args : List DVal} {v : DVal} (h : dappend c tys args m = some (v, m')) {args' : Array Value} (ha : VsRel ρ args args'.toList)
    {tys' : Array TypeId} (ht : tys'.toList = tys) (ty : TypeId) :
    ∃ V ρ' w', (Builtin.append_ tys' ty args').run c.P w = .ok V w' ∧ VRel ρ' v V ∧ Post ρ m w m' ρ' w' := by
  unfold dappend at h
  split at h
  · rename_i st xt a len cap md x
    simp only [VsRel] at ha
    obtain ⟨S, r1, e1, hS, X, r2, e2, hX, hn⟩ := ha
    subst e2; subst hn
    have a0 : args'[0]? = some S := by rw [← Array.getElem?_toList, e1]; rfl
    have a1 : args'[1]? = some X := by rw [← Array.getElem?_toList, e1]; rfl
    have t0 : tys'[0]? = some st := by rw [← Array.getElem?_toList, ht]; rfl
    have t1 : tys'[1]? = some xt := by rw [← Array.getElem?_toList, ht]; rfl
    split at h
    · rename_i e z1 z2 z3 hst
      split at h
      · cases h
      · rename_i ie hie
        split at h
        · rename_i n new hnew
          have hT := ok.ty _ _ hie
          have hu := (ok.ty _ _ hst).run_underlying w
          simp only at hu
          obtain ⟨info, hinfo, hi2, hi3⟩ := hT.bytes_any
          have hcell := dnew_cell hnew c.P hr hX hT.zcell
          have hnl := dnew_len hnew hX hT.zlen
          obtain ⟨xd, vs, hxd, hvs, hfront⟩ := dnew_sound ok hr hie hX hnew
          have hxt : (underlying xt).run c.P w = .ok xd w := by simp [underlying, hxd]
          obtain ⟨z, hz, hzrel⟩ := hT.zero_any
          have hnz : n = 0 → vs = [] := by
            intro h0
            subst h0
            have := dnew_zero hnew
            subst this
            simpa only [VsRel] using hvs
          have hsz0 : n * ie.size = 0 → (∃ k, xd = .int k) ∧ ie.size ≠ 0 → vs = [] := by
            intro h0 ⟨_, h1⟩
            rcases Nat.mul_eq_zero.1 h0 with h2 | h2
            · exact hnz h2
            · exact absurd h2 h1
          unfold dgrow at h
          split at h
          · -- there is room
            rename_i hroom
            have hroom := Nat.le_of_ble_eq_true hroom
            simp only [Option.map_eq_some_iff] at h
            obtain ⟨m1, hw, hh⟩ := h
            cases hh
            have hne : new ≠ [] → 0 < cap ∨ 0 < len := by
              intro hnn
              left
              rcases Nat.eq_zero_or_pos n with h0 | h0
              · subst h0; exact absurd (dnew_zero hnew) hnn
              · omega
            obtain ⟨A, cap', w', rfl, k1, k2⟩ := wmaybe_sound (P := c.P) hr hS hw hvs hcell hne
            have hcap' : cap ≤ cap' := by
              cases a with
              | none => simp only [VRel] at hS; omega
              | some p => obtain ⟨A', c', e, hc⟩ := hS.slice_inv; cases e; exact hc
            refine ⟨.slice A (len + n) cap', ρ, w', ?_, ?_, k2⟩
            · refine run_append_room t0 t1 a0 a1 hu (hT.run_sizeOf w) hxt (hinfo w) ?_ (by omega) k1
              · rcases hfront with ⟨f1, f2, f3⟩ | ⟨f1, f2, f3, f4, f5, f6⟩
                · exact .inl ⟨f1, f2, f3 w.drawn⟩
                · exact .inr ⟨f1, f2, f3, by rw [hi3, Nat.mul_comm]; omega, z, hz w, fun h0 => hsz0 h0 ⟨f1, f5⟩, f6 z (hz w)⟩
            · cases a with
              | none =>
                simp only [VRel] at hS ⊢
                obtain ⟨rfl, rfl, e⟩ := hS
                cases e
                exact ⟨by omega, rfl, by simp; omega⟩
              | some p =>
                obtain ⟨b, o⟩ := p
                cases md with
                | exact => simp only [VRel] at hS ⊢; obtain ⟨s, g1, g2⟩ := hS; cases g2; exact ⟨s, g1, rfl⟩
                | grow z' => simp only [VRel] at hS ⊢; obtain ⟨s, cc, g1, g2, g3, g4⟩ := hS; cases g4; exact ⟨s, _, g1, g2, g3, rfl⟩
                | ro => simp only [VRel] at hS ⊢; obtain ⟨A', cc, g1, g2, g3, g4⟩ := hS; cases g2; exact ⟨A', _, g1, rfl, g3, by omega⟩
          · -- there is none
            rename_i hroom
            have hroom : ¬ (len + n ≤ cap) := fun hh => by rw [Nat.ble_eq_true_of_le hh] at hroom; cases hroom
            split at h
            · rename_i zz hb1 hb2 hsize
              have hb1 := Nat.le_of_ble_eq_true hb1
              have hb2 := Nat.le_of_ble_eq_true hb2
              split at h
              · cases h
              · rename_i old hold
                have hsize' : zz + 1 = ie.size := by omega
                simp only [hsize'] at hold h
                obtain ⟨olds, ho1, ho2, ho3⟩ := firstCells_soundK (P := c.P) hr hS hold rfl (Nat.le_refl _)
                have hfront' : ((∀ k, xd ≠ .int k) ∧ (Builtin.lenOf X).run c.P w = .ok n w ∧ ∀ q, (Builtin.firstCells ie.size n X).run c.P { w with drawn := q } = .ok vs.toArray { w with drawn := q }) ∨
                    ((∃ k, xd = .int k) ∧ X = .int .i64 n ∧ n ≤ 2 ^ 40 ∧ (n * ie.size = 0 → vs = []) ∧ Builtin.zeroCells z.cells n = vs.toArray) := by
                  rcases hfront with ⟨f1, f2, f3⟩ | ⟨f1, f2, f3, f4, f5, f6⟩
                  · exact .inl ⟨f1, f2, f3⟩
                  · exact .inr ⟨f1, f2, f3, fun h0 => hsz0 h0 ⟨f1, f5⟩, f6 z (hz w)⟩
                have hlo : olds.length = len * ie.size ∧ old.length = len * ie.size := by
                  have := ho1.length
                  cases a with
                  | none =>
                    simp only [VRel] at hS
                    obtain ⟨rfl, _, _⟩ := hS
                    simp [srcCells] at hold; subst hold
                    have h5 : olds.length = 0 := by simpa using this.symm
                    exact ⟨by rw [h5]; simp, by simp⟩
                  | some p =>
                    obtain ⟨b, o⟩ := p
                    simp only [srcCells] at hold
                    have h5 := rcells_length hold
                    omega
                have hlz : z.cells.size = ie.size := by
                  have := (hzrel ρ).length
                  simp only [Array.length_toList] at this
                  rw [← this, hT.zlen]
                -- the model makes a new array
                have hnewrow : ∀ cap2, S = .slice (match S with | .slice A _ _ => A | _ => none) len cap2 → ¬ (len + n ≤ cap2) →
                    ∃ cap' k, len + n ≤ cap' ∧ (Builtin.append_ tys' ty args').run c.P w = .ok (.slice (some ⟨w.heap.size, 0, none⟩) (len + n) cap')
                      { w with heap := w.heap.push (.cells ((olds ++ vs).toArray ++ Builtin.zeroCells z.cells (cap' - (len + n))) e (0, 0)), drawn := k } := by
                  intro cap2 hS2 hr2
                  refine run_append_grow t0 t1 (by rw [a0]; congr 1) a1 hu (hT.run_sizeOf w) hxt hinfo (by rw [hi3]; exact hb1) hb2 (fun q => hz _) ?_ hfront' hr2
                  intro q
                  have := ho2 q
                  rw [hS2] at this
                  exact this
                have hrowsz : ∀ cap', len + n ≤ cap' → ((olds ++ vs).toArray ++ Builtin.zeroCells z.cells (cap' - (len + n))).size = (len + n) * ie.size + (cap' - (len + n)) * ie.size ∧ new.length = n * ie.size := by
                  intro cap' hc
                  have h2 := hvs.length
                  refine ⟨?_, hnl⟩
                  have : (Builtin.zeroCells z.cells (cap' - (len + n))).size = (cap' - (len + n)) * ie.size := by
                    simp [Builtin.zeroCells, hlz]
                  simp only [Array.size_append, List.size_toArray, List.length_append, this]
                  rw [Nat.add_mul]; omega
                have hpre : ∀ cap', (((olds ++ vs).toArray ++ Builtin.zeroCells z.cells (cap' - (len + n))).toList.take (old ++ new).length) = olds ++ vs := by
                  intro cap'
                  have h1 := ho1.length
                  have h2 := hvs.length
                  rw [Array.toList_append]
                  simp only [List.length_append]
                  rw [List.take_append_of_le_length (by simp; omega), List.take_of_length_le (by simp; omega)]
                -- what a new array gives
                have hfresh : ∀ cap' k, len + n ≤ cap' → Post ρ m w (m.alloc (.cells (old ++ new) e 0)) (ρ.add m.size ⟨w.heap.size, 0, (len + n) * ie.size + (cap' - (len + n)) * ie.size⟩)
                    { w with heap := w.heap.push (.cells ((olds ++ vs).toArray ++ Builtin.zeroCells z.cells (cap' - (len + n))) e (0, 0)), drawn := k } := by
                  intro cap' k hc
                  have hle : ∀ sp, ρ.le (ρ.add m.size sp) := fun sp => Ren.le_add hr.none_at
                  have hb := blk_new (ρ := ρ.add m.size ⟨w.heap.size, 0, ((olds ++ vs).toArray ++ Builtin.zeroCells z.cells (cap' - (len + n))).size⟩) (w := { w with drawn := k }) (k := k) (cs := old ++ new)
                    (row := (olds ++ vs).toArray ++ Builtin.zeroCells z.cells (cap' - (len + n))) (e := e) (e' := e)
                    (by rw [hpre]; exact (VsRel.mono (hle _) _ _ ho1).append (VsRel.mono (hle _) _ _ hvs)) (by
                      have h1 := ho1.length
                      have h2 := hvs.length
                      simp; omega) (by simp [List.all_append, ho3, hcell]) (0, 0) (.inl rfl)
                  have hp := Post.alloc (hr.drawn k) (.cells (old ++ new) e 0) _ _ rfl hb
                  rw [(hrowsz cap' hc).1] at hp
                  exact Post.trans hr (Post.drawn hr k) hp
                have hval : ∀ cap', len + n ≤ cap' → VRel (ρ.add m.size ⟨w.heap.size, 0, (len + n) * ie.size + (cap' - (len + n)) * ie.size⟩) (.slice (some (m.size, 0)) (len + n) (len + n) (.grow ie.size)) (.slice (some ⟨w.heap.size, 0, none⟩) (len + n) cap') := by
                  intro cap' hc
                  simp only [VRel]
                  refine ⟨_, cap', add_at _ _ _, hc, ?_, rfl⟩
                  simp only
                  rw [← Nat.add_mul]
                  have : len + n + (cap' - (len + n)) = cap' := by omega
                  rw [this]; omega
                split at h
                · -- the capacity is known
                  cases h
                  have hcap : ∃ A, S = .slice A len cap := by
                    cases a with
                    | none => simp only [VRel] at hS; obtain ⟨rfl, rfl, e⟩ := hS; exact ⟨_, e⟩
                    | some p => obtain ⟨b, o⟩ := p; simp only [VRel] at hS; obtain ⟨s, _, e⟩ := hS; exact ⟨_, e⟩
                  obtain ⟨A, hA⟩ := hcap
                  obtain ⟨cap', k, hc, hrun⟩ := hnewrow cap (by rw [hA]) hroom
                  exact ⟨_, _, _, hrun, hval cap' hc, hfresh cap' k hc⟩
                · -- it isn't
                  rename_i z' b o
                  split at h
                  · rename_i cs0 el ver hmb
                    split at h
                    · rename_i q1 q2 q3
                      have q1 := Nat.eq_of_beq_eq_true q1
                      have q2 := Nat.eq_of_beq_eq_true q2
                      have q3 : b < m.size := Nat.le_of_ble_eq_true q3
                      cases h
                      simp only [VRel] at hS
                      obtain ⟨s, cap2, hs, hcc, htot, rfl⟩ := hS
                      by_cases hroom2 : len + n ≤ cap2
                      · -- in place, behind what the machine knows
                        obtain ⟨row, el', fz, g1, g2, g3, g4, g5, g6⟩ := hr.alive_spot hs hmb
                        have hvl := hvs.length
                        have q1' : z' = ie.size := by omega
                        subst q1'
                        have hb0 : o + (len + n) * ie.size ≤ s.tot := by
                          have : (len + n) * ie.size ≤ cap2 * ie.size := Nat.mul_le_mul_right _ hroom2
                          omega
                        rw [Nat.add_mul] at hb0
                        have hrun0 := run_storeRow c.P s.blk (s.base + (o + len * ie.size)) el' fz vs 0 row w g1 (by omega) g4 (hvs.oneCells hcell)
                        have hold2 : old = (cs0.drop o).take (len * ie.size) ∧ o + len * ie.size ≤ cs0.length := by
                          simp only [srcCells, rcells, hmb] at hold
                          split at hold
                          · rename_i hle
                            have := Nat.le_of_ble_eq_true hle
                            simp only [Option.some.injEq] at hold
                            exact ⟨hold.symm, this⟩
                          · cases hold
                        have hout : ∀ i, ¬ (s.base ≤ i ∧ i < s.base + s.tot) → (⟨splice row.toList (s.base + (o + len * ie.size) + 0) vs⟩ : Array Value)[i]? = row[i]? := by
                          intro i hi
                          have := splice_get row.toList (s.base + (o + len * ie.size) + 0) vs (by simp; omega) i
                          rw [if_neg (by omega)] at this
                          simpa using this
                        have hsl : (splice row.toList (s.base + (o + len * ie.size) + 0) vs).length = row.toList.length := splice_length _ _ _ (by simp; omega)
                        have hle : ∀ sp, ρ.le (ρ.add m.size sp) := fun sp => Ren.le_add hr.none_at
                        refine ⟨.slice (some (s.at_ o)) (len + n) cap2, ρ.add m.size ⟨s.blk, s.base + o, s.tot - o⟩, _, ?_, ?_, Post.move (s' := ⟨s.blk, s.base + o, s.tot - o⟩) hr hs hmb g1 (row' := ⟨splice row.toList (s.base + (o + len * ie.size) + 0) vs⟩) (by simp only [Array.size, hsl]) hout rfl (Nat.le_add_right _ _) (by simp only; omega) ?_⟩
                        · refine run_append_room t0 t1 a0 a1 hu (hT.run_sizeOf w) hxt (hinfo w) ?_ hroom2 (by simp only [Spot.add]; exact hrun0)
                          rcases hfront with ⟨f1, f2, f3⟩ | ⟨f1, f2, f3, f4, f5, f6⟩
                          · exact .inl ⟨f1, f2, f3 w.drawn⟩
                          · exact .inr ⟨f1, f2, f3, by rw [hi3, Nat.mul_comm]; omega, z, hz w, fun h0 => hsz0 h0 ⟨f1, f5⟩, f6 z (hz w)⟩
                        · simp only [VRel]
                          refine ⟨_, cap2, add_at _ _ _, by omega, by simp; omega, ?_⟩
                          simp [Spot.at_]
                        · refine ⟨⟨splice row.toList (s.base + (o + len * ie.size) + 0) vs⟩, el', fz, by simp only; rw [setObjW_get (hr.old b s hs), if_pos rfl], ?_, ?_, ?_, ?_, by rw [List.all_append, ho3, hcell]; rfl⟩
                          · simp only [List.length_append]; omega
                          · simp only [Array.size, hsl]; simp; omega
                          · rcases g4 with g4 | g4
                            · exact .inl g4
                            · right; simp only [Array.size, hsl]; simpa using g4
                          · have hlist : ((splice row.toList (s.base + (o + len * ie.size) + 0) vs).drop (s.base + o)).take (old ++ new).length = ((row.toList.drop (s.base + o)).take (len * ie.size)) ++ vs := by
                              apply List.ext_getElem?
                              intro i
                              rw [drop_take_get, List.length_append]
                              have hl1 : ((row.toList.drop (s.base + o)).take (len * ie.size)).length = len * ie.size := by simp; omega
                              by_cases hi : i < old.length + new.length
                              · rw [if_pos hi, splice_get _ _ _ (by simp; omega)]
                                by_cases hi2 : i < len * ie.size
                                · rw [if_neg (by omega), List.getElem?_append_left (by omega), drop_take_get, if_pos hi2]
                                · rw [if_pos (by omega), List.getElem?_append_right (by omega), hl1]
                                  congr 1; omega
                              · rw [if_neg hi]
                                symm; apply List.getElem?_eq_none
                                simp only [List.length_append]; omega
                            simp only
                            rw [hlist]
                            refine VsRel.append (VsRel.mono (hle _) _ _ ?_) (VsRel.mono (hle _) _ _ hvs)
                            have hl2 : (row.toList.drop (s.base + o)).take (len * ie.size) = (((row.toList.drop s.base).take cs0.length).drop o).take (len * ie.size) := by
                              apply List.ext_getElem?
                              intro i
                              rw [drop_take_get, drop_take_get]
                              by_cases hi : i < len * ie.size
                              · rw [if_pos hi, if_pos hi, drop_take_get, if_pos (by omega)]
                                congr 1; omega
                              · rw [if_neg hi, if_neg hi]
                            rw [hl2, hold2.1]
                            exact (g5.drop o).take _
                      · obtain ⟨cap', k, hc, hrun⟩ := hnewrow cap2 rfl hroom2
                        have hp := hfresh cap' k hc
                        have hal : alive (m.alloc (.cells (old ++ new) e 0)) b := by
                          unfold alive
                          rw [DMem.get_alloc, if_neg (by omega), hmb]; trivial
                        have hp2 := Post.kill hp.rel (b := b) (by simp only [DMem.alloc]; omega) hal
                        exact ⟨_, _, _, hrun, hval cap' hc, Post.trans hr hp hp2⟩
                    · cases h
                  · cases h
                · cases h
            · cases h
        · cases h
    · cases h
  · cases h
end Go.DM
