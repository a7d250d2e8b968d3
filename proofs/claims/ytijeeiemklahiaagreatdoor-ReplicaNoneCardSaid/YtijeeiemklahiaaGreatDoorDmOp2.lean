/-
  A deterministic machine over Go's code: the law of the operations that read memory.
-/
import Derived.Test.YtijeeiemklahiaaGreatDoorDmOp1
namespace Go.DM

theorem bytesOf_rel {ρ : Ren} : ∀ {ds : List DVal} {bs : List UInt8} {vs : List Value}, bytesOf ds = some bs → VsRel ρ ds vs →
    ∃ ns : List Int, vs = ns.map (Value.int .u8) ∧ bs = ns.map fun n => UInt8.ofNat n.toNat
  | [], bs, vs, h, hr => by
    simp only [bytesOf] at h; cases h
    simp only [VsRel] at hr; subst hr; exact ⟨[], rfl, rfl⟩
  | d :: ds, bs, vs, h, hr => by
    simp only [VsRel] at hr
    obtain ⟨v, vs', rfl, h2, h3⟩ := hr
    cases d <;> (first | (simp [bytesOf] at h; done) | skip)
    rename_i k n
    cases k <;> (first | (simp [bytesOf] at h; done) | skip)
    simp only [bytesOf] at h
    split at h
    · rename_i bs' hb
      simp at h; subst h
      obtain ⟨ns, e1, e2⟩ := bytesOf_rel hb h3
      have := h2.int_inv; subst this
      exact ⟨n :: ns, by simp [e1], by simp [e2]⟩
    · cases h

theorem run_bytes_loop (P : Program) (w : World) : ∀ (ns : List Int) (s : ByteArray),
    (forIn (m := Sem) (ns.map (Value.int .u8)) s fun (c : Value) (r : ByteArray) =>
      match c with
      | Value.int IntKind.u8 n => pure (ForInStep.yield (r.push (UInt8.ofNat n.toNat)))
      | _ => do stuck "bytesToString: byte expected"; pure (ForInStep.yield r)).run P w
      = Result.ok (⟨(s.data.toList ++ ns.map fun n => UInt8.ofNat n.toNat).toArray⟩ : ByteArray) w
  | [], s => by simp
  | n :: ns, s => by
    have ih := run_bytes_loop P w ns (s.push (UInt8.ofNat n.toNat))
    simp only [List.map_cons, List.forIn_cons, Sem.run_bind, Sem.run_pure, Result.andThen_ok]
    rw [ih]
    congr 2
    simp [ByteArray.push]

theorem run_bytesToString (P : Program) (w : World) (a : Addr) (len cap : Nat) (ns : List Int) (hl : (loadCells a len).run P w = .ok (ns.map (Value.int .u8)).toArray w) :
    (Conv.bytesToString (.slice (some a) len cap)).run P w = .ok (.string ⟨(ns.map fun n => UInt8.ofNat n.toNat).toArray⟩) w := by
  have := run_bytes_loop P w ns ByteArray.empty
  unfold Conv.bytesToString
  simp only [Sem.run_bind, hl, Result.andThen_ok]
  rw [← Array.forIn_toList]
  erw [this]
  simp

theorem dfind_now {ρ : Ren} {k : DVal} {K : Value} (hk : VRel ρ k K) {kd : TypeDesc} (hkd : (∃ z, kd = .int z ∧ ∃ kk n, k = .int kk n) ∨ (kd = .string ∧ ∃ s, k = .str s)) :
    ∀ {es : List (DVal × DVal)} {ES : List MapEntry} {r : Option DVal} (n : Nat), dfind k es = some r → EsRel ρ es ES →
    match r with
    | none => Instr.findNow kd K ES n = some none
    | some v => ∃ i e, Instr.findNow kd K ES n = some (some (n + i, e)) ∧ VRel ρ v e ∧ ∃ E, ES[i]? = some E ∧ E.val = e
  | [], ES, r, n, h, hr => by
    simp only [dfind] at h; cases h
    simp only [EsRel] at hr; subst hr
    simp [Instr.findNow]
  | (k', v) :: es, ES, r, n, h, ⟨e, es', he, h1, h2, h3⟩ => by
    subst he
    simp only [dfind] at h
    split at h
    · rename_i kk a kk' b
      have hK := hk.int_inv
      have hE := h1.int_inv
      obtain ⟨z, rfl⟩ : ∃ z, kd = .int z := by
        rcases hkd with ⟨z, e, _⟩ | ⟨_, s, hs⟩
        · exact ⟨z, e⟩
        · cases hs
      by_cases hkk : kk = kk'
      · rw [if_pos hkk] at h
        by_cases hab : a = b
        · rw [if_pos hab] at h
          simp at h; subst h
          refine ⟨0, e.val, ?_, h2, e, rfl, rfl⟩
          simp [Instr.findNow, Instr.sameNow, hK, hE, hkk, hab]
        · rw [if_neg hab] at h
          have hne : (a == b) = false := beq_eq_false_iff_ne.2 hab
          have ih := dfind_now hk (.inl ⟨z, rfl, _, _, rfl⟩) (n + 1) h h3
          cases r with
          | none => simpa [Instr.findNow, Instr.sameNow, hK, hE, hkk, hne] using ih
          | some v' =>
            obtain ⟨i, e', g1, g2, E, g3, g4⟩ := ih
            refine ⟨i + 1, e', ?_, g2, E, by simpa using g3, g4⟩
            rw [show n + (i + 1) = n + 1 + i by omega, ← g1]
            simp [Instr.findNow, Instr.sameNow, hK, hE, hkk, hne]
      · rw [if_neg hkk] at h; cases h
    · rename_i a b
      obtain ⟨A, hA, hK⟩ := hk.str_inv
      obtain ⟨B, hB, hE⟩ := h1.str_inv
      have hkd' : kd = .string := by
        rcases hkd with ⟨z, _, kk, nn, hs⟩ | ⟨e, _⟩
        · cases hs
        · exact e
      subst hkd'
      have heq : (A == B) = decide (a = b) := by rw [string_eq_iff, hA, hB]; by_cases h : a = b <;> simp [h]
      by_cases hab : a = b
      · rw [if_pos hab] at h
        simp at h; subst h
        refine ⟨0, e.val, ?_, h2, e, rfl, rfl⟩
        simp [Instr.findNow, Instr.sameNow, hK, hE, heq, hab]
      · rw [if_neg hab] at h
        have ih := dfind_now hk (.inr ⟨rfl, _, rfl⟩) (n + 1) h h3
        cases r with
        | none => simpa [Instr.findNow, Instr.sameNow, hK, hE, heq, hab] using ih
        | some v' =>
          obtain ⟨i, e', g1, g2, E, g3, g4⟩ := ih
          refine ⟨i + 1, e', ?_, g2, E, by simpa using g3, g4⟩
          rw [show n + (i + 1) = n + 1 + i by omega, ← g1]
          simp [Instr.findNow, Instr.sameNow, hK, hE, heq, hab]
    · cases h

theorem keyOk_spec {c : Ctx} (ok : CtxOk c) {kt : TypeId} {k : DVal} (h : keyOk c kt k = true) :
    ∃ kd, c.P.underlying kt = some kd ∧ ((∃ z, kd = .int z ∧ ∃ kk n, k = .int kk n) ∨ (kd = .string ∧ ∃ s, k = .str s)) := by
  unfold keyOk at h
  split at h
  · rename_i kd z1 z2 z3 kk n ht
    exact ⟨_, (ok.ty _ _ ht).und, .inl ⟨_, rfl, _, _, rfl⟩⟩
  · rename_i z1 z2 z3 s ht
    exact ⟨_, (ok.ty _ _ ht).und, .inr ⟨rfl, _, rfl⟩⟩
  · cases h

theorem run_checkKey {P : Program} {w : World} {kt : TypeId} {kd : TypeDesc} (hu : P.underlying kt = some kd) (hkd : (∃ z, kd = .int z) ∨ kd = .string) (e : Bool) (K : Value) :
    (Instr.checkKey e 10000 kt K).run P w = .ok () w := by
  have hr : (underlying kt).run P w = .ok kd w := by simp [underlying, hu]
  have : ∀ n, (Instr.checkKey e (n + 1) kt K).run P w = .ok () w := by
    intro n
    rcases hkd with ⟨z, rfl⟩ | rfl <;> simp [Instr.checkKey, hr]
  exact this 9999

theorem run_findKey {P : Program} {w : World} {kt : TypeId} {kd : TypeDesc} (hu : P.underlying kt = some kd) {K : Value} {ES : List MapEntry} {r : Option (Nat × Value)} (h : Instr.findNow kd K ES 0 = some r) :
    (Instr.findKey kt K ES).run P w = .ok r w := by
  have hr : (underlying kt).run P w = .ok kd w := by simp [underlying, hu]
  simp [Instr.findKey, hr, h]

theorem run_getMap {P : Program} {w : World} {r : Nat} {es : Array MapEntry} {ck : Nat} (h : w.heap[r]? = some (.map es ck)) : (getObj r).run P w = .ok (.map es ck) w := by
  simp [getObj, Sem.run, h]

theorem dread_sound {c : Ctx} (ok : CtxOk c) {ρ : Ren} {m : DMem} {w : World} (hr : MRel ρ m w) {ev : Operand → Option DVal} {g : Operand → Value} {o : Oper} {v : DVal} {b : Nat} (h : dread c ev m o.op = some (v, b))
    (he : ERel ρ ev g o.op.operands.toList) : ∃ V, (execOp g o).run c.P w = .ok (.value V) w ∧ VRel ρ v V := by
  obtain ⟨dst, op, type, pos, after, guard⟩ := o
  simp only at h he ⊢
  cases op with
  | load t x =>
    simp only [dread] at h
    split at h
    · rename_i i b' o ht hx
      obtain ⟨s, hs, hv⟩ := (he x (by simp [Op.operands]) _ hx).ptr_inv
      have hT := ok.ty t i ht
      by_cases ha : i.isAgg = true
      · rw [if_pos ha] at h
        simp only [Option.map_eq_some_iff] at h
        obtain ⟨cs, hcs, e⟩ := h
        cases e
        obtain ⟨vs, g1, g2⟩ := run_loadCells_rel c.P hr hs hcs
        refine ⟨.agg vs.toArray, ?_, by simp only [VRel]; exact ⟨_, rfl, by simpa using g1⟩⟩
        simp [execOp, Instr.loadAt, hv, Instr.sureAddr, loadVar, hT.run_isAgg, ha, hT.run_sizeOf, g2]
      · rw [if_neg ha] at h
        split at h
        · rename_i v' hcs
          cases h
          obtain ⟨_, _, vs, g1, g2, g3⟩ := rcells_sound hr hs hcs
          obtain ⟨V, hV, hrel⟩ := g1.get 0 v (by simp)
          have hc := g3 0 V hV
          simp only [Spot.add, Nat.add_zero] at hc
          exact ⟨V, by simp [execOp, Instr.loadAt, hv, Instr.sureAddr, loadVar, hT.run_isAgg, ha, hc], hrel⟩
        · cases h
    · cases h
  | lookup t x ix okk =>
    simp only [dread] at h
    split at h
    · rename_i kt et z1 z2 z3 r k ht hx hk
      split at h
      · rename_i ie es ver hie hkey hm
        obtain ⟨s, hs, hv⟩ : ∃ s, ρ r = some s ∧ g x = .map (some s.blk) := by
          have := he x (by simp [Op.operands]) _ hx
          simpa only [VRel] using this
        have hK := he ix (by simp [Op.operands]) _ hk
        obtain ⟨ob, k1, k2⟩ := hr.blk r s hs
        rw [hm] at k1; cases k1
        obtain ⟨ES, ck, hheap, hes, _⟩ := k2
        obtain ⟨kd, hkd, hkd2⟩ := keyOk_spec ok hkey
        have hkd3 : (∃ z, kd = .int z) ∨ kd = .string := by
          rcases hkd2 with ⟨z, e, _⟩ | ⟨e, _⟩
          · exact .inl ⟨z, e⟩
          · exact .inr e
        have hu := (ok.ty _ _ ht).run_underlying w
        simp only at hu
        split at h
        · rename_i v' hf
          obtain ⟨i, e, f1, f2, _⟩ := dfind_now hK hkd2 0 hf hes
          cases h
          refine ⟨if okk then .tuple #[e, .bool true] else e, ?_, ?_⟩
          · simp [execOp, Instr.lookup, hu, hv, run_getMap hheap, run_checkKey hkd hkd3, run_findKey hkd f1]
          · cases okk
            · simpa using f2
            · simp only [if_true, VRel]
              exact ⟨_, rfl, .cons f2 (.cons (by simp [VRel]) .nil)⟩
        · rename_i hf
          have f1 := dfind_now hK hkd2 0 hf hes
          simp only at f1
          obtain ⟨z, dz, hz1, hz2, hz3, hz4, hz5⟩ := (ok.ty _ _ hie).run_zero w ρ
          have hzz : (if ie.isAgg then DVal.agg ie.zero else ie.zero.getD 0 dundef) = dz := by
            by_cases ha : ie.isAgg = true
            · obtain ⟨cs, rfl⟩ := hz4 ha
              rw [if_pos ha, ← hz3]; rfl
            · have := hz5 (by simpa using ha)
              rw [if_neg ha, ← hz3, this]; rfl
          simp only [hzz] at h
          cases h
          refine ⟨if okk then .tuple #[z, .bool false] else z, ?_, ?_⟩
          · simp [execOp, Instr.lookup, hu, hv, run_getMap hheap, run_checkKey hkd hkd3, run_findKey hkd f1, hz1]
          · cases okk
            · simpa using hz2
            · simp only [if_true, VRel]
              exact ⟨_, rfl, .cons hz2 (.cons (by simp [VRel]) .nil)⟩
        · cases h
      · cases h
    · cases h
  | convert src dst' x =>
    simp only [dread] at h
    split at h
    · rename_i e z1 z2 z3 y1 y2 y3 b' o len cap md h1 h2 hx
      split at h
      · rename_i w1 w2 w3 cs hie hcs
        split at h
        · rename_i bs hbs
          cases h
          have hxr := he x (by simp [Op.operands]) _ hx
          have u1 := (ok.ty _ _ h1).run_underlying w
          have u2 := (ok.ty _ _ h2).run_underlying w
          have u3 := (ok.ty _ _ hie).run_underlying w
          simp only at u1 u2 u3
          by_cases hlen : len = 0
          · subst hlen
            obtain ⟨A, cap', hv, _⟩ := hxr.slice_inv
            have : cs = [] := by
              have : cs.length = 0 := by
                unfold rcells at hcs
                split at hcs
                · split at hcs
                  · cases hcs; simp
                  · cases hcs
                · split at hcs
                  · cases hcs; simp
                  · cases hcs
                · cases hcs
              simpa using this
            subst this
            simp only [bytesOf] at hbs; cases hbs
            refine ⟨.string ⟨#[]⟩, ?_, by simp only [VRel]; exact ⟨_, rfl, rfl⟩⟩
            have hl : (loadCells A 0).run c.P w = .ok (([] : List Int).map (Value.int .u8)).toArray w := by simp [loadCells, loadCellsFrom]
            have := run_bytesToString c.P w A 0 cap' [] hl
            simp [execOp, convert, u1, u2, u3, hv, this]
          · obtain ⟨s, cap', hs, hv⟩ := hxr.slice_at_len (by omega)
            obtain ⟨vs, g1, g2⟩ := run_loadCells_rel c.P hr hs hcs
            obtain ⟨ns, e1, e2⟩ := bytesOf_rel hbs g1
            subst e1
            have := run_bytesToString c.P w (s.at_ o) len cap' ns g2
            refine ⟨_, ?_, by simp only [VRel]; exact ⟨⟨(ns.map fun n => UInt8.ofNat n.toNat).toArray⟩, by rw [e2], rfl⟩⟩
            simp [execOp, convert, u1, u2, u3, hv, this]
        · cases h
      · cases h
    · cases h
  | call cl =>
    obtain ⟨callee, args, tys⟩ := cl
    cases callee with
    | value f => simp [dread] at h
    | invoke r m => simp [dread] at h
    | builtin bi =>
      cases bi <;> simp only [dread] at h <;> (first | (cases h; done) | skip)
      split at h
      · rename_i r t hds htys
        split at h
        · rename_i z0 z1 z2 z3 z4 es ver ht hm
          cases h
          have hrr := devs_rel hds (g := g) (ρ := ρ) (he.sub (by intro y hy; simp [Op.operands, Call.operands] at hy ⊢; simp [hy]))
          obtain ⟨X, e1, hx⟩ : ∃ X, args.toList.map g = [X] ∧ VRel ρ (.map (some b)) X := by
            simp only [VsRel] at hrr; obtain ⟨X, rr, e, hx, hn⟩ := hrr; exact ⟨X, by rw [e, hn], hx⟩
          simp only [VRel] at hx
          obtain ⟨s, hs, rfl⟩ := hx
          have ea : (args.map g)[0]? = some (.map (some s.blk)) := by rw [← Array.getElem?_toList, Array.toList_map, e1]; rfl
          obtain ⟨ob, k1, k2⟩ := hr.blk b s hs
          rw [hm] at k1; cases k1
          obtain ⟨ES, ck, hheap, hes, _⟩ := k2
          have hl := hes.length
          simp only [Array.length_toList] at hl
          have u1 := (ok.ty _ _ ht).run_underlying w
          simp only at u1
          refine ⟨.int .i64 ES.size, ?_, by simp [VRel, hl]⟩
          simp [execOp, resolve, invoke, builtin, Builtin.len_, htys, ea, u1, run_getMap hheap, goInt]
        · cases h
      · cases h
  | _ => simp [dread] at h
end Go.DM
