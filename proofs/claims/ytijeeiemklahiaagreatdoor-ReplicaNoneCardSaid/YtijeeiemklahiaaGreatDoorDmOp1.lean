/-
  A deterministic machine over Go's code: the law of the operations that touch no memory.
-/
import Derived.Test.YtijeeiemklahiaaGreatDoorDmEq
namespace Go.DM

theorem pureTo_exec {c : Ctx} {ρ : Ren} {w : World} {s : Sem Value} {v : DVal} (h : PureTo c ρ w s v) {e : Sem Next} (he : e = (do pure (.value (← s)))) :
    ∃ V, e.run c.P w = .ok (.value V) w ∧ VRel ρ v V := by
  obtain ⟨V, h1, h2⟩ := h
  exact ⟨V, by rw [he]; simp [h1], h2⟩

theorem dbin_sound {c : Ctx} (ok : CtxOk c) {ρ : Ren} {w : World} {op : BinOp} {t : TypeId} {x y v : DVal} {X Y : Value} (h : dbin c op t x y = some v) (hx : VRel ρ x X) (hy : VRel ρ y Y) (xo yo : Operand) :
    PureTo c ρ w (do eqGuard op t xo yo X Y; binOp op t X Y) v := by
  unfold dbin at h
  split at h
  · rename_i k a k' b
    have := hx.int_inv; subst this
    have := hy.int_inv; subst this
    have hg : (eqGuard op t xo yo (.int k a) (.int k' b)).run c.P w = .ok () w := by
      cases op <;> simp [eqGuard]
    split at h
    · obtain ⟨V, h1, h2⟩ := dshift_sound (w := w) (ρ := ρ) (c := c) (k' := k') h t
      exact ⟨V, by simp [hg, h1], h2⟩
    · obtain ⟨V, h1, h2⟩ := dshift_sound (w := w) (ρ := ρ) (c := c) (k' := k') h t
      exact ⟨V, by simp [hg, h1], h2⟩
    · split at h
      · rename_i hk; subst hk
        obtain ⟨V, h1, h2⟩ := dint_sound (w := w) (ρ := ρ) (c := c) h t
        exact ⟨V, by simp [hg, h1], h2⟩
      · cases h
  · split at h
    · simp only [Option.map_eq_some_iff] at h
      obtain ⟨b, h1, rfl⟩ := h
      have := deq_sound ok (w := w) h1 hx hy .eql (.inl rfl) xo yo
      exact ⟨.bool b, by simpa using this, by simp [VRel]⟩
    · simp only [Option.map_eq_some_iff] at h
      obtain ⟨b, h1, rfl⟩ := h
      have := deq_sound ok (w := w) h1 hx hy .neq (.inr rfl) xo yo
      exact ⟨.bool (!b), by simpa using this, by simp [VRel]⟩
    · cases h

theorem dpure_sound {c : Ctx} (ok : CtxOk c) {ρ : Ren} (w : World) {ev : Operand → Option DVal} {g : Operand → Value} {o : Oper} {v : DVal} (h : dpure c ev o.op = some v)
    (he : ERel ρ ev g o.op.operands.toList) : ∃ V, (execOp g o).run c.P w = .ok (.value V) w ∧ VRel ρ v V := by
  obtain ⟨dst, op, type, pos, after, guard⟩ := o
  simp only at h he ⊢
  cases op with
  | move x => simp only [dpure] at h; exact ⟨g x, by simp [execOp], he x (by simp [Op.operands]) v h⟩
  | assign x => simp only [dpure] at h; exact ⟨g x, by simp [execOp], he x (by simp [Op.operands]) v h⟩
  | pick q a b =>
    simp only [dpure] at h
    split at h
    · rename_i hq
      have := (he q (by simp [Op.operands]) _ hq).bool_inv
      exact ⟨g a, by simp [execOp, this, asBool], he a (by simp [Op.operands]) v h⟩
    · rename_i hq
      have := (he q (by simp [Op.operands]) _ hq).bool_inv
      exact ⟨g b, by simp [execOp, this, asBool], he b (by simp [Op.operands]) v h⟩
    · cases h
  | nilCheck x =>
    simp only [dpure] at h
    split at h
    · rename_i p hx
      simp at h; subst h
      have hr := he x (by simp [Op.operands]) _ hx
      obtain ⟨b, o⟩ := p
      obtain ⟨s, hs, hv⟩ := hr.ptr_inv
      exact ⟨g x, by simp [execOp, hv], hr⟩
    · rename_i f a b hx
      simp at h; subst h
      have hr := he x (by simp [Op.operands]) _ hx
      have hr' := hr
      simp only [VRel] at hr'
      obtain ⟨a', b', hv, _⟩ := hr'
      exact ⟨g x, by simp [execOp, hv], hr⟩
    · cases h
  | binOp op t x y yt =>
    simp only [dpure] at h
    split at h
    · rename_i a b ha hb
      exact pureTo_exec (dbin_sound ok (w := w) h (he x (by simp [Op.operands]) _ ha) (he y (by simp [Op.operands]) _ hb) x y) rfl
    · cases h
  | unOp op t x =>
    simp only [dpure] at h
    split at h
    · rename_i a ha
      have hr := he x (by simp [Op.operands]) _ ha
      refine pureTo_exec (s := Op.unary op (g x)) ?_ rfl
      unfold dun at h
      split at h
      · have := hr.int_inv; rw [this]; simp at h; subst h
        exact ⟨_, by simp [Op.unary, Op.intArith]; rfl, by simp [VRel]⟩
      · have := hr.int_inv; rw [this]
        simp only [dint] at h; simp at h; subst h
        exact ⟨_, by simp [Op.unary, Op.intBits]; rfl, by simp [VRel]⟩
      · have := hr.bool_inv; rw [this]; simp at h; subst h
        exact ⟨_, by simp [Op.unary]; rfl, by simp [VRel]⟩
      · cases h
    · cases h
  | convert src dst' x =>
    simp only [dpure] at h
    split at h
    · rename_i i0 k z1 z2 z3 k' n h1 h2 hx
      have hr := (he x (by simp [Op.operands]) _ hx).int_inv
      simp at h; subst h
      have u1 := (ok.ty _ _ h1).run_underlying w
      have u2 := (ok.ty _ _ h2).run_underlying w
      simp only at u2
      exact ⟨.int k (k.wrap n), by simp [execOp, convert, u1, u2, hr, Conv.intToInt], by simp [VRel]⟩
    · rename_i i0 z1 z2 z3 s h1 h2 hx
      have hr0 := he x (by simp [Op.operands]) _ hx
      obtain ⟨S, hS, hr⟩ := hr0.str_inv
      simp at h; subst h
      have u1 := (ok.ty _ _ h1).run_underlying w
      have u2 := (ok.ty _ _ h2).run_underlying w
      simp only at u2
      exact ⟨g x, by simp [execOp, convert, u1, u2, hr], hr0⟩
    · cases h
  | sliceToArrayPointer arr x =>
    simp only [dpure] at h
    split at h
    · rename_i n e z1 z2 z3 a len cap md h1 hx
      split at h
      · rename_i hc
        simp at h; subst h
        obtain ⟨b, o⟩ := a
        obtain ⟨s, cap', hs, hv⟩ := (he x (by simp [Op.operands]) _ hx).slice_at hc.2
        have u1 := (ok.ty _ _ h1).run_underlying w
        simp only at u1
        refine ⟨.pointer (some (s.at_ o)), ?_, by simp only [VRel]; exact ⟨s, hs, rfl⟩⟩
        simp [execOp, Instr.arrayAt, u1, hv, Nat.not_lt.2 hc.1]
      · cases h
    · cases h
  | fieldAddr s x f =>
    simp only [dpure] at h
    split at h
    · rename_i fs z1 z2 z3 b o h1 hx
      cases hf : fs[f]? with
      | none => rw [hf] at h; cases h
      | some fd =>
        rw [hf] at h; simp only at h
        split at h
        · rename_i i hi
          split at h
          · cases h
          · rename_i hz
            simp at h; subst h
            obtain ⟨sp, hs, hv⟩ := (he x (by simp [Op.operands]) _ hx).ptr_inv
            have u1 := (ok.ty _ _ h1).run_underlying w
            have u2 := (ok.ty _ _ hi).run_sizeOf w
            simp only at u1
            refine ⟨.pointer (some (sp.at_ (o + fd.offset))), ?_, by simp only [VRel]; exact ⟨sp, hs, rfl⟩⟩
            simp [execOp, Instr.fieldAt, u1, hf, hv, Instr.sureAddr, fieldPlace, u2, hz, Spot.add]
        · cases h
    · cases h
  | indexAddr t x ix =>
    simp only [dpure] at h
    split at h
    · rename_i n e z1 z2 z3 b o k i h1 hx hi
      split at h
      · rename_i ie hie
        split at h
        · rename_i hb
          simp at h; subst h
          obtain ⟨sp, hs, hv⟩ := (he x (by simp [Op.operands]) _ hx).ptr_inv
          have hv2 := (he ix (by simp [Op.operands]) _ hi).int_inv
          have u1 := (ok.ty _ _ h1).run_underlying w
          have u2 := (ok.ty _ _ hie).run_sizeOf w
          simp only at u1
          refine ⟨.pointer (some (sp.at_ (o + i.toNat * ie.size))), ?_, by simp only [VRel]; exact ⟨sp, hs, rfl⟩⟩
          simp [execOp, Instr.indexAt, hv2, asIntOf, u1, hv, Instr.sureAddr, u2, hb.1, hb.2, Spot.add]
        · cases h
      · cases h
    · rename_i e z1 z2 z3 b o len cap md k i h1 hx hi
      split at h
      · rename_i ie hie
        split at h
        · rename_i hb
          simp at h; subst h
          obtain ⟨sp, cap', hs, hv⟩ := (he x (by simp [Op.operands]) _ hx).slice_at_len (by omega)
          have hv2 := (he ix (by simp [Op.operands]) _ hi).int_inv
          have u1 := (ok.ty _ _ h1).run_underlying w
          have u2 := (ok.ty _ _ hie).run_sizeOf w
          simp only at u1
          refine ⟨.pointer (some (sp.at_ (o + i.toNat * ie.size))), ?_, by simp only [VRel]; exact ⟨sp, hs, rfl⟩⟩
          simp [execOp, Instr.indexAt, hv2, asIntOf, u1, hv, u2, hb.1, hb.2, Spot.add]
        · cases h
      · cases h
    · rename_i e z1 z2 z3 b o len k i h1 hx hi
      split at h
      · rename_i ie hie
        split at h
        · rename_i hb
          simp at h; subst h
          obtain ⟨sp, cap', hs, hv⟩ := (he x (by simp [Op.operands]) _ hx).view_at (by omega)
          have hv2 := (he ix (by simp [Op.operands]) _ hi).int_inv
          have u1 := (ok.ty _ _ h1).run_underlying w
          have u2 := (ok.ty _ _ hie).run_sizeOf w
          simp only at u1
          refine ⟨.pointer (some (sp.at_ (o + i.toNat * ie.size))), ?_, by simp only [VRel]; exact ⟨sp, hs, rfl⟩⟩
          simp [execOp, Instr.indexAt, hv2, asIntOf, u1, hv, u2, hb.1, hb.2, Spot.add]
        · cases h
      · cases h
    · cases h
  | slice t x lo hi mx =>
    simp only [dpure] at h
    split at h
    · rename_i a l hh m ha hl hhi hm
      refine pureTo_exec (dslice_sound ok (w := w) h (he x (by simp [Op.operands]) _ ha) (oev_orel hl (he.sub ?_)) (oev_orel hhi (he.sub ?_)) (oev_orel hm (he.sub ?_))) rfl
      · intro y hy; simp [Op.operands] at hy ⊢; simp [hy]
      · intro y hy; simp [Op.operands] at hy ⊢; simp [hy]
      · intro y hy; simp [Op.operands] at hy ⊢; simp [hy]
    · cases h
  | index t x ix =>
    simp only [dpure] at h
    split at h
    · rename_i n e z1 z2 z3 cs k i h1 hx hi
      split at h
      · rename_i ie hie
        split at h
        · rename_i hb
          obtain ⟨cs', hv, hr⟩ := (he x (by simp [Op.operands]) _ hx).agg_inv
          have hv2 := (he ix (by simp [Op.operands]) _ hi).int_inv
          have u1 := (ok.ty _ _ h1).run_underlying w
          have u2 := (ok.ty _ _ hie).run_sizeOf w
          simp only at u1
          obtain ⟨V, g1, g2⟩ := dpart_sound ok (w := w) hie hr h
          refine ⟨V, ?_, g2⟩
          simp [execOp, Instr.index, hv2, asIntOf, u1, hv, u2, hb.1, hb.2, g1]
        · cases h
      · cases h
    · rename_i z1 z2 z3 s k i h1 hx hi
      split at h
      · rename_i hb
        split at h
        · rename_i b hbb
          simp at h; subst h
          obtain ⟨S, hS, hv⟩ := (he x (by simp [Op.operands]) _ hx).str_inv
          have hv2 := (he ix (by simp [Op.operands]) _ hi).int_inv
          have u1 := (ok.ty _ _ h1).run_underlying w
          simp only at u1
          have hget : S[i.toNat]? = some b := by
            have hbb' : S.data[i.toNat]? = some b := by rw [← hS] at hbb; simpa only [Array.getElem?_toList] using hbb
            obtain ⟨hlt, hb2⟩ := Array.getElem?_eq_some_iff.1 hbb'
            have hlt' : i.toNat < S.size := hlt
            rw [getElem?_pos S i.toNat hlt']
            exact congrArg some hb2
          refine ⟨.int .u8 b.toNat, ?_, by simp [VRel]⟩
          simp [execOp, Instr.index, hv2, asIntOf, u1, hv, hb, hget]
        · cases h
      · cases h
    · cases h
  | field t x f =>
    simp only [dpure] at h
    split at h
    · rename_i fs z1 z2 z3 cs h1 hx
      cases hf : fs[f]? with
      | none => rw [hf] at h; cases h
      | some fd =>
        rw [hf] at h; simp only at h
        split at h
        · rename_i i hi
          obtain ⟨cs', hv, hr⟩ := (he x (by simp [Op.operands]) _ hx).agg_inv
          have u1 := (ok.ty _ _ h1).run_underlying w
          simp only at u1
          obtain ⟨V, g1, g2⟩ := dpart_sound ok (w := w) hi hr h
          refine ⟨V, ?_, g2⟩
          simp [execOp, Instr.field, u1, hf, hv, asAgg, g1]
        · cases h
    · cases h
  | extract t ix =>
    simp only [dpure] at h
    split at h
    · rename_i vs hx
      obtain ⟨vs', hv, hr⟩ := (he t (by simp [Op.operands]) _ hx).tuple_inv
      obtain ⟨V, g1, g2⟩ := hr.get ix v h
      have : vs'[ix]? = some V := by simpa using g1
      exact ⟨V, by simp [execOp, Instr.extract, hv, this], g2⟩
    · cases h
  | build t parts =>
    simp only [dpure] at h
    split at h
    · rename_i ps hps
      obtain ⟨g1, g2⟩ := devp_rel hps (g := g) (ρ := ρ) (he.sub (by intro y hy; simpa [Op.operands] using hy))
      refine pureTo_exec (dbuild_sound ok (w := w) h (parts' := parts.map fun (i, x) => (i, g x)) (by simpa using g1) (fun k p q hk hq => g2 k p q hk (by simpa using hq))) rfl
    · cases h
  | makeFunc fn first captured =>
    simp only [dpure] at h
    split at h
    · rename_i a b ha hb
      simp at h; subst h
      have r1 := devs_rel ha (he.sub (by intro y hy; simp [Op.operands] at hy ⊢; simp [hy]))
      have r2 := devs_rel hb (he.sub (by intro y hy; simp [Op.operands] at hy ⊢; simp [hy]))
      refine ⟨.func fn (first.map g) (captured.map g), by simp [execOp, Instr.makeFunc], ?_⟩
      simp only [VRel]
      exact ⟨_, _, rfl, by simpa using r1, by simpa using r2⟩
    · cases h
  | call cl =>
    obtain ⟨callee, args, tys⟩ := cl
    cases callee with
    | value f => simp [dpure] at h
    | invoke r m => simp [dpure] at h
    | builtin bi =>
      have hargs : ∀ {ds}, devs ev args.toList = some ds → VsRel ρ ds (args.map g).toList := by
        intro ds hds
        have := devs_rel hds (he.sub (by intro y hy; simp [Op.operands, Call.operands] at hy ⊢; simp [hy]))
        simpa using this
      cases bi <;> simp only [dpure] at h <;> (first | (cases h; done) | skip)
      case len =>
        split at h
        · rename_i x t hds htys
          have hr := hargs hds
          obtain ⟨X, rest, e1, hx, hrest⟩ : ∃ X rest, (args.map g).toList = X :: rest ∧ VRel ρ x X ∧ rest = [] := by
            simp only [VsRel] at hr; obtain ⟨X, r, e, hx, hn⟩ := hr; exact ⟨X, r, e, hx, by simpa [VsRel] using hn⟩
          have ea : (args.map g)[0]? = some X := by rw [← Array.getElem?_toList, e1]; rfl
          split at h
          · rename_i z1 z2 z3 s ht
            obtain ⟨S, hS, hv⟩ := hx.str_inv
            simp at h; subst h
            have u1 := (ok.ty _ _ ht).run_underlying w
            simp only at u1
            have hsz : s.length = S.size := by rw [← hS]; simp only [Array.length_toList]; rfl
            refine ⟨.int .i64 S.size, ?_, by simp [VRel, hsz]⟩
            simp [execOp, resolve, invoke, builtin, Builtin.len_, htys, ea, u1, hv, goInt]
          · rename_i n e z1 z2 z3 ht
            simp at h; subst h
            have u1 := (ok.ty _ _ ht).run_underlying w
            simp only at u1
            refine ⟨.int .i64 n, ?_, by simp [VRel]⟩
            simp [execOp, resolve, invoke, builtin, Builtin.len_, htys, ea, u1, goInt]
          · rename_i e z1 z2 z3 a n cp md ht
            simp at h; subst h
            have u1 := (ok.ty _ _ ht).run_underlying w
            simp only at u1
            have hv : ∃ A C, X = .slice A n C := by
              cases a with
              | none => simp only [VRel] at hx; obtain ⟨rfl, _, rfl⟩ := hx; exact ⟨_, _, rfl⟩
              | some p => obtain ⟨A, C, e, _⟩ := hx.slice_inv; exact ⟨_, _, e⟩
            obtain ⟨A, C, hv⟩ := hv
            refine ⟨.int .i64 n, ?_, by simp [VRel]⟩
            simp [execOp, resolve, invoke, builtin, Builtin.len_, htys, ea, u1, hv, goInt]
          · rename_i e z1 z2 z3 n ht
            simp at h; subst h
            have u1 := (ok.ty _ _ ht).run_underlying w
            simp only at u1
            obtain ⟨A, C, hv⟩ := hx.view_inv
            refine ⟨.int .i64 n, ?_, by simp [VRel]⟩
            simp [execOp, resolve, invoke, builtin, Builtin.len_, htys, ea, u1, hv, goInt]
          · cases h
        · cases h
      case cap =>
        split at h
        · rename_i x t hds htys
          have hr := hargs hds
          obtain ⟨X, rest, e1, hx, hrest⟩ : ∃ X rest, (args.map g).toList = X :: rest ∧ VRel ρ x X ∧ rest = [] := by
            simp only [VsRel] at hr; obtain ⟨X, r, e, hx, hn⟩ := hr; exact ⟨X, r, e, hx, by simpa [VsRel] using hn⟩
          have ea : (args.map g)[0]? = some X := by rw [← Array.getElem?_toList, e1]; rfl
          split at h
          · rename_i n e z1 z2 z3 ht
            simp at h; subst h
            have u1 := (ok.ty _ _ ht).run_underlying w
            simp only at u1
            refine ⟨.int .i64 n, ?_, by simp [VRel]⟩
            simp [execOp, resolve, invoke, builtin, Builtin.cap_, htys, ea, u1, goInt]
          · rename_i e z1 z2 z3 a n cp ht
            simp at h; subst h
            have u1 := (ok.ty _ _ ht).run_underlying w
            simp only at u1
            have hv : ∃ A, X = .slice A n cp := by
              cases a with
              | none => simp only [VRel] at hx; obtain ⟨rfl, rfl, rfl⟩ := hx; exact ⟨_, rfl⟩
              | some p => obtain ⟨b, o⟩ := p; simp only [VRel] at hx; obtain ⟨s, _, e⟩ := hx; exact ⟨_, e⟩
            obtain ⟨A, hv⟩ := hv
            refine ⟨.int .i64 cp, ?_, by simp [VRel]⟩
            simp [execOp, resolve, invoke, builtin, Builtin.cap_, htys, ea, u1, hv, goInt]
          · cases h
        · cases h
      case min =>
        split at h
        · rename_i xs hds
          obtain ⟨V, g1, g2⟩ := dmin_sound (c := c) (w := w) h (hargs hds) tys type
          exact ⟨V, by simp [execOp, resolve, invoke, builtin, g1], g2⟩
        · cases h
      case max =>
        split at h
        · rename_i xs hds
          obtain ⟨V, g1, g2⟩ := dmax_sound (c := c) (w := w) h (hargs hds) tys type
          exact ⟨V, by simp [execOp, resolve, invoke, builtin, g1], g2⟩
        · cases h
  | _ => simp [dpure] at h
end Go.DM
