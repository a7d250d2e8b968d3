/-
  A deterministic machine over Go's code: equality.
-/
import Derived.Test.YtijeeiemklahiaaGreatDoorDmPure3
import Derived.Laws.Strings
namespace Go.DM

theorem foldlM_false {α : Type} (q : α → Option Bool) : ∀ l : List α, l.foldlM (fun (acc : Bool) a => match acc with | false => some false | true => q a) false = some false
  | [] => rfl
  | a :: l => by simp only [List.foldlM_cons]; exact foldlM_false q l

theorem run_forIn_eq {α : Type} (P : Program) (w : World) (body : α → Option Bool × Unit → Sem (ForInStep (Option Bool × Unit))) (q : α → Option Bool) : ∀ (l : List α) (r : Bool),
    (∀ a ∈ l, ∀ b s, q a = some b → (body a s).run P w = .ok (if b then .yield (none, ()) else .done (some false, ())) w) →
    l.foldlM (fun (acc : Bool) a => match acc with | false => some false | true => q a) true = some r →
    (forIn l ((none, ()) : Option Bool × Unit) body).run P w = .ok ((if r then none else some false), ()) w
  | [], r, _, h => by simp at h; subst h; simp
  | a :: l, r, hb, h => by
    simp only [List.foldlM_cons] at h
    cases hq : q a with
    | none => rw [hq] at h; simp at h
    | some b =>
      rw [hq] at h; simp only [Option.bind_eq_bind, Option.bind_some] at h
      have h1 := hb a (by simp) b (none, ()) hq
      cases b with
      | false =>
        rw [foldlM_false] at h; cases h
        simp [List.forIn_cons, h1]
      | true =>
        have ih := run_forIn_eq P w body q l r (fun x hx => hb x (by simp [hx])) h
        simp [List.forIn_cons, h1, ih]

theorem eqable_guard {P : Program} : ∀ (n d : Nat) (t : TypeId), eqable P n t = true → n ≤ d → P.eqGuardType d t = false
  | 0, _, _, h, _ => by simp [eqable] at h
  | n + 1, 0, _, _, hd => by omega
  | n + 1, d + 1, t, h, hd => by
    simp only [eqable] at h
    simp only [Program.eqGuardType]
    split at h
    · rename_i hu; simp [hu]
    · rename_i hu; simp [hu]
    · rename_i hu; simp [hu]
    · rename_i e hu; simp only [hu]; exact eqable_guard n d e h (by omega)
    · rename_i fs hu
      simp only [hu]
      simp only [Bool.and_eq_true, List.all_eq_true] at h
      rw [← Array.any_toList, List.any_eq_false]
      intro f hf
      have := h.2 f hf
      simp [eqable_guard n d f.type this.2 (by omega)]
    · cases h

theorem string_eq_iff {a b : ByteArray} : (a == b) = (a.data.toList == b.data.toList) := by
  have h : (a == b) = (a.data == b.data) := rfl
  rw [h, Bool.eq_iff_iff]
  simp only [beq_iff_eq]
  exact ⟨fun e => by rw [e], Array.ext'⟩

theorem deqT_sound {c : Ctx} (ok : CtxOk c) {ρ : Ren} {w : World} : ∀ (n d : Nat) (t : TypeId) (x y : DVal) (b : Bool) (X Y : Value), deqT c n t x y = some b → eqable c.P n t = true → n ≤ d →
    VRel ρ x X → VRel ρ y Y → (Op.equalIn d t X Y).run c.P w = .ok b w
  | 0, _, _, _, _, _, _, _, h, _, _, _, _ => by simp [deqT] at h
  | n + 1, 0, _, _, _, _, _, _, _, _, hd, _, _ => by omega
  | n + 1, d + 1, t, x, y, b, X, Y, h, he, hd, hx, hy => by
    simp only [deqT] at h
    cases ht : c.ty t with
    | none => rw [ht] at h; cases h
    | some i =>
      rw [ht] at h; simp only at h
      have hT := ok.ty t i ht
      have hu := hT.run_underlying w
      have hund := hT.und
      split at h
      · rename_i a a' hdesc
        have := hx.bool_inv; subst this
        have := hy.bool_inv; subst this
        simp at h; subst h
        simp [Op.equalIn, hu, hdesc]
      · rename_i k0 k a k' a' hdesc
        have := hx.int_inv; subst this
        have := hy.int_inv; subst this
        by_cases hk : k = k'
        · simp [hk] at h; subst h
          simp [Op.equalIn, hu, hdesc, hk]
        · simp [hk] at h
      · rename_i a a' hdesc
        obtain ⟨S, rfl, rfl⟩ := hx.str_inv
        obtain ⟨S', rfl, rfl⟩ := hy.str_inv
        simp at h; subst h
        simp [Op.equalIn, hu, hdesc, string_eq_iff]
      · rename_i len e xs ys hdesc
        obtain ⟨xs', rfl, hxs⟩ := hx.agg_inv
        obtain ⟨ys', rfl, hys⟩ := hy.agg_inv
        cases hie : c.ty e with
        | none => rw [hie] at h; cases h
        | some ie =>
          rw [hie] at h; simp only at h
          have hee : eqable c.P n e = true := by simpa [eqable, hund, hdesc] using he
          have hloop := run_forIn_eq c.P w (fun (i : Nat) (_ : Option Bool × Unit) => do
              if !(← Op.equalIn d e (← part e xs' (i * ie.size)) (← part e ys' (i * ie.size))) then pure (ForInStep.done (some false, ())) else pure (ForInStep.yield (none, ())))
            (fun j => if ie.isAgg then deqT c n e (.agg ((xs.drop (j * ie.size)).take ie.size)) (.agg ((ys.drop (j * ie.size)).take ie.size))
              else match xs[j * ie.size]?, ys[j * ie.size]? with
                | some u, some v => deqT c n e u v
                | _, _ => none) (List.range len) b ?_ h
          · simp only [Op.equalIn, Sem.run_bind, hu, Result.andThen_ok, hdesc, (ok.ty e ie hie).run_sizeOf]
            rw [Std.Legacy.Range.forIn_eq_forIn_range']
            simp only [Std.Legacy.Range.size, Nat.sub_zero, Nat.add_sub_cancel, Nat.div_one]
            rw [← List.range_eq_range']
            rw [hloop]
            cases b <;> simp
          · intro j hj b' s hq
            have hp : ∃ u v, dpart ie xs (j * ie.size) = some u ∧ dpart ie ys (j * ie.size) = some v ∧ deqT c n e u v = some b' := by
              unfold dpart
              by_cases ha : ie.isAgg = true
              · simp only [ha, if_true] at hq ⊢
                exact ⟨_, _, rfl, rfl, hq⟩
              · simp only [ha] at hq ⊢
                cases hxj : xs[j * ie.size]? with
                | none => simp [hxj] at hq
                | some u =>
                  cases hyj : ys[j * ie.size]? with
                  | none => simp [hxj, hyj] at hq
                  | some v => exact ⟨u, v, by simp, by simp, by simpa [hxj, hyj] using hq⟩
            obtain ⟨u, v, h1, h2, h3⟩ := hp
            obtain ⟨U, g1, g2⟩ := dpart_sound ok (w := w) hie hxs h1
            obtain ⟨V, k1, k2⟩ := dpart_sound ok (w := w) hie hys h2
            have := deqT_sound ok (w := w) n d e u v b' U V h3 hee (by omega) g2 k2
            simp only [Sem.run_bind, g1, k1, Result.andThen_ok, this]
            cases b' <;> simp
      · rename_i fs xs ys hdesc
        obtain ⟨xs', rfl, hxs⟩ := hx.agg_inv
        obtain ⟨ys', rfl, hys⟩ := hy.agg_inv
        have hee : c.P.stoodInHeld t = false ∧ ∀ f ∈ fs.toList, f.name ≠ "_" ∧ eqable c.P n f.type = true := by
          have : (!c.P.stoodInHeld t && fs.toList.all fun f => f.name != "_" && eqable c.P n f.type) = true := by simpa [eqable, hund, hdesc] using he
          simp only [Bool.and_eq_true, List.all_eq_true] at this
          refine ⟨by simpa using this.1, fun f hf => ?_⟩
          have := this.2 f hf
          exact ⟨by simpa using this.1, this.2⟩
        have hloop := run_forIn_eq c.P w (fun (f : Field) (_ : Option Bool × Unit) => do
            if f.name ≠ "_" then
              if !(← Op.equalIn d f.type (← part f.type xs' f.offset) (← part f.type ys' f.offset)) then pure (ForInStep.done (some false, ())) else pure (ForInStep.yield (none, ()))
            else pure (ForInStep.yield (none, ())))
          (fun f => match c.ty f.type with
              | none => none
              | some ie =>
                if ie.isAgg then deqT c n f.type (.agg ((xs.drop f.offset).take ie.size)) (.agg ((ys.drop f.offset).take ie.size))
                else match xs[f.offset]?, ys[f.offset]? with
                  | some u, some v => deqT c n f.type u v
                  | _, _ => none) fs.toList b ?_ h
        · simp only [Op.equalIn, Sem.run_bind, hu, Result.andThen_ok, hdesc, run_program, hee.1, Bool.false_eq_true, if_false]
          rw [← Array.forIn_toList]
          erw [hloop]
          cases b <;> simp
        · intro f hf b' s hq
          cases hie : c.ty f.type with
          | none => rw [hie] at hq; cases hq
          | some ie =>
            rw [hie] at hq; simp only at hq
            have hp : ∃ u v, dpart ie xs f.offset = some u ∧ dpart ie ys f.offset = some v ∧ deqT c n f.type u v = some b' := by
              unfold dpart
              by_cases ha : ie.isAgg = true
              · simp only [ha, if_true] at hq ⊢
                exact ⟨_, _, rfl, rfl, hq⟩
              · simp only [ha] at hq ⊢
                cases hxj : xs[f.offset]? with
                | none => simp [hxj] at hq
                | some u =>
                  cases hyj : ys[f.offset]? with
                  | none => simp [hxj, hyj] at hq
                  | some v => exact ⟨u, v, by simp, by simp, by simpa [hxj, hyj] using hq⟩
            obtain ⟨u, v, h1, h2, h3⟩ := hp
            obtain ⟨U, g1, g2⟩ := dpart_sound ok (w := w) hie hxs h1
            obtain ⟨V, k1, k2⟩ := dpart_sound ok (w := w) hie hys h2
            have := deqT_sound ok (w := w) n d f.type u v b' U V h3 (hee.2 f hf).2 (by omega) g2 k2
            simp only [(hee.2 f hf).1, ne_eq, not_false_eq_true, if_true, Sem.run_bind, g1, k1, Result.andThen_ok, this]
            cases b' <;> simp
      · cases h

theorem run_equal {P : Program} {w : World} {t : TypeId} {X Y : Value} {b : Bool} (h : ∀ d, (Op.equalIn (d + 1) t X Y).run P w = .ok b w) : (Op.equal t X Y).run P w = .ok b w := h 9999

theorem deq_sound {c : Ctx} (ok : CtxOk c) {ρ : Ren} {w : World} {t : TypeId} {x y : DVal} {b : Bool} {X Y : Value} (h : deq c t x y = some b) (hx : VRel ρ x X) (hy : VRel ρ y Y) (op : BinOp) (hop : op = .eql ∨ op = .neq)
    (xo yo : Operand) : (do eqGuard op t xo yo X Y; binOp op t X Y : Sem Value).run c.P w = .ok (.bool (if op = .eql then b else !b)) w := by
  unfold deq at h
  split at h
  · -- strings
    rename_i a a'
    obtain ⟨S, rfl, rfl⟩ := hx.str_inv
    obtain ⟨S', rfl, rfl⟩ := hy.str_inv
    simp at h; subst h
    rcases hop with rfl | rfl <;> simp [eqGuard, binOp, Op.stringOp, ByteArray.toList_eq]
  · rename_i a a'
    have := hx.bool_inv; subst this
    have := hy.bool_inv; subst this
    split at h
    · rename_i z1 z2 z3 ht
      simp at h; subst h
      have hu := (ok.ty t _ ht).run_underlying w
      simp only at hu
      have key := run_equal (P := c.P) (w := w) (t := t) (X := (.bool a)) (Y := (.bool a')) (b := (a == a')) (fun d => by simp [Op.equalIn, hu])
      rcases hop with rfl | rfl <;> simp [eqGuard, binOp, key]
    · cases h
  · rename_i a
    have : X = .pointer none := by simpa only [VRel] using hx
    subst this
    split at h
    · rename_i z0 z1 z2 z3 ht
      simp at h; subst h
      have hu := (ok.ty t _ ht).run_underlying w
      simp only at hu
      cases a with
      | none =>
        have : Y = .pointer none := by simpa only [VRel] using hy
        subst this
        have key := run_equal (P := c.P) (w := w) (t := t) (X := (.pointer none)) (Y := (.pointer none)) (b := true) (fun d => by simp [Op.equalIn, hu])
        rcases hop with rfl | rfl <;> simp [eqGuard, binOp, key]
      | some p =>
        obtain ⟨b0, o0⟩ := p
        obtain ⟨s, _, rfl⟩ := hy.ptr_inv
        have key := run_equal (P := c.P) (w := w) (t := t) (X := (.pointer none)) (Y := (.pointer (some (s.at_ o0)))) (b := false) (fun d => by simp [Op.equalIn, hu])
        rcases hop with rfl | rfl <;> simp [eqGuard, binOp, key]
    · cases h
  · rename_i a hne
    have : Y = .pointer none := by simpa only [VRel] using hy
    subst this
    split at h
    · rename_i z0 z1 z2 z3 ht
      simp at h; subst h
      have hu := (ok.ty t _ ht).run_underlying w
      simp only at hu
      cases a with
      | none =>
        have : X = .pointer none := by simpa only [VRel] using hx
        subst this
        have key := run_equal (P := c.P) (w := w) (t := t) (X := (.pointer none)) (Y := (.pointer none)) (b := true) (fun d => by simp [Op.equalIn, hu])
        rcases hop with rfl | rfl <;> simp [eqGuard, binOp, key]
      | some p =>
        obtain ⟨b0, o0⟩ := p
        obtain ⟨s, _, rfl⟩ := hx.ptr_inv
        have key := run_equal (P := c.P) (w := w) (t := t) (X := (.pointer (some (s.at_ o0)))) (Y := (.pointer none)) (b := false) (fun d => by simp [Op.equalIn, hu])
        rcases hop with rfl | rfl <;> simp [eqGuard, binOp, key]
    · cases h
  · rename_i n1 n2 n3 a m1 m2 m3
    simp only [VRel] at hx
    obtain ⟨_, _, rfl⟩ := hx
    split at h
    · rename_i z0 z1 z2 z3 ht
      simp at h; subst h
      have hu := (ok.ty t _ ht).run_underlying w
      simp only at hu
      cases a with
      | none =>
        simp only [VRel] at hy
        obtain ⟨_, _, rfl⟩ := hy
        have key := run_equal (P := c.P) (w := w) (t := t) (X := (.slice none 0 0)) (Y := (.slice none 0 0)) (b := true) (fun d => by simp [Op.equalIn, hu])
        rcases hop with rfl | rfl <;> simp [eqGuard, binOp, key]
      | some p =>
        obtain ⟨A, cap', rfl, _⟩ := hy.slice_inv
        have key := run_equal (P := c.P) (w := w) (t := t) (X := (.slice none 0 0)) (Y := (.slice (some A) m1 cap')) (b := false) (fun d => by simp [Op.equalIn, hu])
        rcases hop with rfl | rfl <;> simp [eqGuard, binOp, key]
    · cases h
  · rename_i p n1 n2 n3 m1 m2 m3
    simp only [VRel] at hy
    obtain ⟨_, _, rfl⟩ := hy
    obtain ⟨A, cap', rfl, _⟩ := hx.slice_inv
    split at h
    · rename_i z0 z1 z2 z3 ht
      simp at h; subst h
      have hu := (ok.ty t _ ht).run_underlying w
      simp only at hu
      have key := run_equal (P := c.P) (w := w) (t := t) (X := (.slice (some A) n1 cap')) (Y := (.slice none 0 0)) (b := false) (fun d => by simp [Op.equalIn, hu])
      rcases hop with rfl | rfl <;> simp [eqGuard, binOp, key]
    · cases h
  · rename_i xs ys
    split at h
    · rename_i heq
      have hg := eqable_guard 20 c.P.depth t heq ok.deep
      have := deqT_sound ok (w := w) 20 Op.maxDepth t _ _ b X Y h heq (by simp [Op.maxDepth]) hx hy
      obtain ⟨xs', rfl, _⟩ := hx.agg_inv
      obtain ⟨ys', rfl, _⟩ := hy.agg_inv
      rcases hop with rfl | rfl <;> simp [eqGuard, binOp, Op.equal, hg, this]
    · cases h
  · cases h
end Go.DM
