/-
  A deterministic machine over Go's code: the law of the operations that write: stores, maps, copies.
-/
import Derived.Test.YtijeeiemklahiaaGreatDoorDmOp3
namespace Go.DM
noncomputable section

/-- What a step of the model gives. -/
def Gives (N : Next) (V : Value) : Prop := N = .value V ∨ (N = .skip ∧ V = undef)

def HeavyTo (c : Ctx) (ρ : Ren) (m : DMem) (w : World) (s : Sem Next) (v : DVal) (m' : DMem) : Prop :=
  ∃ N V ρ' w', s.run c.P w = .ok N w' ∧ Gives N V ∧ VRel ρ' v V ∧ Post ρ m w m' ρ' w'

theorem splice_drop_take {α : Type} (l vs : List α) (b o n : Nat) (h : o + vs.length ≤ n) (hn : b + n ≤ l.length) :
    ((splice l (b + o) vs).drop b).take n = splice ((l.drop b).take n) o vs := by
  apply List.ext_getElem?
  intro i
  have hl : ((l.drop b).take n).length = n := by simp; omega
  rw [drop_take_get, splice_get l (b + o) vs (by omega), splice_get _ o vs (by rw [hl]; omega), drop_take_get]
  by_cases hi : i < n
  · simp only [hi, if_true]
    by_cases hc : o ≤ i ∧ i < o + vs.length
    · rw [if_pos hc, if_pos (by omega)]; congr 1; omega
    · rw [if_neg hc, if_neg (by omega)]
  · simp only [hi, if_false]
    rw [if_neg (by omega)]

theorem splice_cell : ∀ (n : Nat) {cs vs : List DVal}, cs.all isCell = true → vs.all isCell = true → (splice cs n vs).all isCell = true
  | 0, cs, vs, h1, h2 => by
    simp only [splice, List.all_append, h2, Bool.true_and]
    rw [List.all_eq_true] at h1 ⊢
    exact fun x hx => h1 x (List.mem_of_mem_drop hx)
  | n + 1, [], vs, h1, h2 => by simp [splice]
  | n + 1, a :: cs, vs, h1, h2 => by
    simp only [List.all_cons, Bool.and_eq_true] at h1
    simp only [splice, List.all_cons, h1.1, splice_cell n h1.2 h2, Bool.and_self]

theorem VsRel.oneCells {ρ : Ren} : ∀ {ds : List DVal} {vs : List Value}, VsRel ρ ds vs → ds.all isCell = true → ∀ v ∈ vs, v.oneCell' = true
  | [], vs, h, _ => by simp only [VsRel] at h; subst h; simp
  | d :: ds, vs, h, hc => by
    simp only [VsRel] at h
    obtain ⟨v, vs', rfl, h2, h3⟩ := h
    simp only [List.all_cons, Bool.and_eq_true] at hc
    intro x hx
    simp at hx
    rcases hx with rfl | hx
    · exact h2.oneCell hc.1
    · exact VsRel.oneCells h3 hc.2 x hx

theorem wcells_sound {P : Program} {ρ : Ren} {m m' : DMem} {w : World} (hr : MRel ρ m w) {b o : Nat} {s : Spot} (hs : ρ b = some s) {vs : List DVal} (h : wcells m b o vs = some m') {VS : List Value} (hv : VsRel ρ vs VS)
    (hc : vs.all isCell = true) : ∃ w', (storeCells (s.at_ o) VS).run P w = .ok () w' ∧ Post ρ m w m' ρ w' := by
  obtain ⟨ob, h1, h2⟩ := hr.blk b s hs
  unfold wcells at h
  rw [h1] at h
  cases ob with
  | dead => simp at h
  | map es v => simp at h
  | ro c => simp at h
  | cells cs e ver =>
    simp only at h
    split at h
    · rename_i hb
      have hle := Nat.le_of_ble_eq_true hb
      cases h
      obtain ⟨row, e', fz, g1, g2, g3, g4, g5, g6⟩ := h2
      have hlv := hv.length
      have hrun := run_storeRow P s.blk (s.base + o) e' fz VS 0 row w g1 (by omega) g4 (hv.oneCells hc)
      refine ⟨_, hrun, ?_⟩
      have hsl : (splice row.toList (s.base + o + 0) VS).length = row.toList.length := splice_length _ _ _ (by simp; omega)
      refine Post.put hr hs h1 (by unfold alive; rw [h1]; trivial) (by simp [later]) _ ?_ ?_ ?_
      · refine ⟨⟨splice row.toList (s.base + o + 0) VS⟩, e', fz, by rw [setObjW_get (hr.old b s hs)]; simp, ?_, ?_, ?_, ?_, splice_cell _ g6 hc⟩
        · rw [splice_length _ _ _ hle]; exact g2
        · simp only [Array.size, hsl]; simpa using g3
        · rcases g4 with g4 | g4
          · exact .inl g4
          · right; simp only [Array.size, hsl]; simpa using g4
        · rw [splice_length _ _ _ hle]
          simp only [Nat.add_zero]
          rw [splice_drop_take _ _ _ _ _ (by omega) (by simp; omega)]
          exact g5.splice o hv
      · intro row2 e2 fz2 hh
        rw [g1] at hh; cases hh
        refine ⟨_, fz, rfl, by simp only [Array.size, hsl], .inl rfl, ?_⟩
        intro i hi
        have := splice_get row.toList (s.base + o + 0) VS (by simp; omega) i
        rw [if_neg (by omega)] at this
        simpa using this
      · intro es ck hh; rw [g1] at hh; cases hh
    · cases h

theorem run_setMap {P : Program} {w : World} {r : Nat} {es : Array MapEntry} {ck : Nat} (h : w.heap[r]? = some (.map es ck)) (O : Obj) : (setObj r O).run P w = .ok () (setObjW w r O) := by
  simp [setObj, Sem.run, h, setObjW]

theorem sameBits_str (n : Nat) (a b : ByteArray) : Instr.sameBits n (.string a) (.string b) = (a == b) := by unfold Instr.sameBits; rfl
theorem sameBits_int (n : Nat) (j k : IntKind) (a b : Int) : Instr.sameBits n (.int j a) (.int k b) = (j == k && a == b) := by unfold Instr.sameBits; rfl

theorem dins_rel {ρ : Ren} {k v : DVal} {K V : Value} (hk : VRel ρ k K) (hv : VRel ρ v V) {kd : TypeDesc} (hkd : (∃ z, kd = .int z ∧ ∃ kk n, k = .int kk n) ∨ (kd = .string ∧ ∃ s, k = .str s)) :
    ∀ {es es' : List (DVal × DVal)} {ES : List MapEntry} (n : Nat), dins k v es = some es' → EsRel ρ es ES →
    (Instr.findNow kd K ES n = some none ∧ ∀ ck, EsRel ρ es' (ES ++ [{ key := K, val := V, born := ck }])) ∨
    (∃ i x E, Instr.findNow kd K ES n = some (some (n + i, x)) ∧ ES[i]? = some E ∧ Instr.sameBits 10000 E.key K = true ∧ EsRel ρ es' (ES.set i { E with key := K, val := V }))
  | [], es', ES, n, h, hr => by
    simp only [dins] at h; cases h
    simp only [EsRel] at hr; subst hr
    left
    exact ⟨by simp [Instr.findNow], fun ck => ⟨_, [], rfl, hk, hv, rfl⟩⟩
  | (k', v') :: es, es', ES, n, h, ⟨e, ES', he, h1, h2, h3⟩ => by
    subst he
    simp only [dins] at h
    split at h
    · rename_i kk a kk' b
      have hK := hk.int_inv
      have hE := h1.int_inv
      obtain ⟨z, rfl⟩ : ∃ z, kd = .int z := by
        rcases hkd with ⟨z, e, _⟩ | ⟨_, s, hs⟩
        · exact ⟨z, e⟩
        · cases hs
      by_cases hkk : kk = kk'
      · rw [if_pos hkk] at h
        by_cases hab : a = b
        · rw [if_pos hab] at h; cases h
          right
          refine ⟨0, e.val, e, by simp [Instr.findNow, Instr.sameNow, hK, hE, hkk, hab], rfl, by rw [hK, hE, sameBits_int, hkk, hab]; simp only [beq_self_eq_true, Bool.and_self], ?_⟩
          exact ⟨_, ES', rfl, hk, hv, h3⟩
        · rw [if_neg hab] at h
          simp only [Option.map_eq_some_iff] at h
          obtain ⟨r, hr1, rfl⟩ := h
          have hne : (a == b) = false := beq_eq_false_iff_ne.2 hab
          rcases dins_rel hk hv (.inl ⟨z, rfl, _, _, rfl⟩) (n + 1) hr1 h3 with ⟨g1, g2⟩ | ⟨i, x, E, g1, g2, g3, g4⟩
          · left
            exact ⟨by simpa [Instr.findNow, Instr.sameNow, hK, hE, hkk, hne] using g1, fun ck => ⟨e, _, rfl, h1, h2, g2 ck⟩⟩
          · right
            refine ⟨i + 1, x, E, ?_, by simpa using g2, g3, ⟨e, _, rfl, h1, h2, g4⟩⟩
            rw [show n + (i + 1) = n + 1 + i by omega, ← g1]
            simp [Instr.findNow, Instr.sameNow, hK, hE, hkk, hne]
      · rw [if_neg hkk] at h; cases h
    · rename_i a b
      obtain ⟨A, hA, hK⟩ := hk.str_inv
      obtain ⟨B, hB, hE⟩ := h1.str_inv
      have hkd' : kd = .string := by
        rcases hkd with ⟨z, _, kk, nn, hs⟩ | ⟨e, _⟩
        · cases hs
        · exact e
      subst hkd'
      have heq : (A == B) = decide (a = b) := by rw [string_eq_iff, hA, hB]; by_cases h : a = b <;> simp [h]
      have heq' : (B == A) = decide (a = b) := by
        rw [string_eq_iff, hA, hB]
        by_cases h : a = b
        · simp [h]
        · have h' : ¬ b = a := fun e => h e.symm
          simp [h, h']
      by_cases hab : a = b
      · rw [if_pos hab] at h; cases h
        right
        refine ⟨0, e.val, e, by simp only [Instr.findNow, Instr.sameNow, hK, hE, heq, hab, decide_true, Nat.add_zero], rfl, by rw [hK, hE, sameBits_str, heq', hab]; simp only [decide_true], ?_⟩
        exact ⟨_, ES', rfl, hk, hv, h3⟩
      · rw [if_neg hab] at h
        simp only [Option.map_eq_some_iff] at h
        obtain ⟨r, hr1, rfl⟩ := h
        rcases dins_rel hk hv (.inr ⟨rfl, _, rfl⟩) (n + 1) hr1 h3 with ⟨g1, g2⟩ | ⟨i, x, E, g1, g2, g3, g4⟩
        · left
          exact ⟨by simpa [Instr.findNow, Instr.sameNow, hK, hE, heq, hab] using g1, fun ck => ⟨e, _, rfl, h1, h2, g2 ck⟩⟩
        · right
          refine ⟨i + 1, x, E, ?_, by simpa using g2, g3, ⟨e, _, rfl, h1, h2, g4⟩⟩
          rw [show n + (i + 1) = n + 1 + i by omega, ← g1]
          simp [Instr.findNow, Instr.sameNow, hK, hE, heq, hab]
    · cases h

theorem mapUpdate_sound {c : Ctx} (ok : CtxOk c) {ρ : Ren} {m : DMem} {w : World} (hr : MRel ρ m w) {t kt et : TypeId} {z1 z2 z3} (ht : c.ty t = some ⟨.map kt et, z1, z2, z3⟩) {r : Nat} {M : Value} (hM : VRel ρ (.map (some r)) M)
    {k v : DVal} {K V : Value} (hk : VRel ρ k K) (hv : VRel ρ v V) (hkey : keyOk c kt k = true) {es es' : List (DVal × DVal)} {ver : Nat} (hm : m.get r = some (.map es ver)) (hins : dins k v es = some es') :
    ∃ w', (Instr.mapUpdate t M K V).run c.P w = .ok () w' ∧ Post ρ m w (m.put r (.map es' (ver + 1))) ρ w' := by
  simp only [VRel] at hM
  obtain ⟨s, hs, rfl⟩ := hM
  obtain ⟨ob, k1, k2⟩ := hr.blk r s hs
  rw [hm] at k1; cases k1
  obtain ⟨ES, ck, hheap, hes, hb1, hb2⟩ := k2
  obtain ⟨kd, hkd, hkd2⟩ := keyOk_spec ok hkey
  have hkd3 : (∃ z, kd = .int z) ∨ kd = .string := by
    rcases hkd2 with ⟨z, e, _⟩ | ⟨e, _⟩
    · exact .inl ⟨z, e⟩
    · exact .inr e
  have hu := (ok.ty _ _ ht).run_underlying w
  simp only at hu
  have hpost : ∀ ES' : Array MapEntry, ∀ ck', EsRel ρ es' ES'.toList → Post ρ m w (m.put r (.map es' (ver + 1))) ρ (setObjW w s.blk (.map ES' ck')) := by
    intro ES' ck' hrel
    refine Post.put hr hs hm (by unfold alive; rw [hm]; trivial) (by simp [later]) _ ?_ ?_ ?_
    · exact ⟨ES', ck', by rw [setObjW_get (hr.old r s hs)]; simp, hrel, hb1, hb2⟩
    · intro row e fz hh; rw [hheap] at hh; cases hh
    · intro _ _ _; exact ⟨hb1, hb2⟩
  rcases dins_rel hk hv hkd2 0 hins hes with ⟨g1, g2⟩ | ⟨i, x, E, g1, g2, g3, g4⟩
  · refine ⟨_, ?_, hpost (ES.push { key := K, val := V, born := ck }) (ck + 1) (by simpa using g2 ck)⟩
    simp [Instr.mapUpdate, hu, run_getMap hheap, run_checkKey hkd hkd3, run_findKey hkd g1, run_setMap hheap]
  · have hi : i < ES.size := by
      have := (List.getElem?_eq_some_iff.1 g2).1
      simpa using this
    have hEi : ES[i]? = some E := by simpa using g2
    refine ⟨_, ?_, hpost (ES.modify i fun e => { e with key := K, val := V }) ck ?_⟩
    · simp only [Nat.zero_add] at g1
      simp [Instr.mapUpdate, hu, run_getMap hheap, run_checkKey hkd hkd3, run_findKey hkd g1, run_setMap hheap, hEi, Instr.keyThatStays, g3]
    · have : (ES.modify i fun e => { e with key := K, val := V }).toList = ES.toList.set i { E with key := K, val := V } := by
        apply List.ext_getElem?
        intro j
        simp only [Array.getElem?_toList, Array.getElem?_modify, List.getElem?_set]
        by_cases hj : i = j
        · subst hj; simp [hi, (Array.getElem?_eq_some_iff.1 hEi).2]
        · simp [hj]
      rw [this]; exact g4

theorem firstCells_soundK {P : Program} {ρ : Ren} {m : DMem} {w : World} (hr : MRel ρ m w) {size n k : Nat} {x : DVal} {X : Value} (hx : VRel ρ x X) {cs : List DVal} (h : srcCells m size n x = some cs) (hk : srcLen x = some k) (hn : n ≤ k) :
    ∃ vs : List Value, VsRel ρ cs vs ∧ (∀ q, (Builtin.firstCells size n X).run P { w with drawn := q } = .ok vs.toArray { w with drawn := q }) ∧ cs.all isCell = true := by
  unfold srcCells at h
  split at h
  · rename_i b o len cap md
    simp only [srcLen, Option.some.injEq] at hk; subst hk
    by_cases hz : n * size = 0
    · obtain ⟨A, cap', rfl, _⟩ := hx.slice_inv
      have hcs : cs = [] := by
        unfold rcells at h
        split at h
        · split at h
          · cases h; rw [hz]; simp
          · cases h
        · split at h
          · cases h; rw [hz]; simp
          · cases h
        · cases h
      subst hcs
      exact ⟨[], .nil, fun q => by simp [Builtin.firstCells, hz, loadCells, loadCellsFrom], rfl⟩
    · have hn0 : 0 < n := by
        rcases Nat.eq_zero_or_pos n with h0 | h0
        · subst h0; simp at hz
        · exact h0
      obtain ⟨s, cap', hs, rfl⟩ := hx.slice_at_len (by omega)
      obtain ⟨_, hc, vs, g1, g2, g3⟩ := rcells_sound hr hs h
      refine ⟨vs, g1, fun q => ?_, hc⟩
      simp only [Builtin.firstCells]
      rw [← g2]
      exact run_loadCells_list { w with drawn := q } (s.at_ o) vs g3
  · cases h
    simp only [VRel] at hx
    obtain ⟨_, _, rfl⟩ := hx
    exact ⟨[], .nil, fun q => by simp [Builtin.firstCells], rfl⟩
  · rename_i s
    have hcs : cs = (s.take n).map fun b => DVal.int .u8 b.toNat := by
      split at h
      · cases h; rfl
      · cases h
    clear h
    subst hcs
    obtain ⟨S, hS, rfl⟩ := hx.str_inv
    refine ⟨(s.take n).map fun b => Value.int .u8 b.toNat, VsRel.map_same _ _ (fun b => by simp [VRel]) _, fun q => ?_, ?_⟩
    · simp only [Builtin.firstCells, Sem.run_pure]
      congr 1
      apply Array.ext'
      rw [← hS]
      simp
    · rw [List.all_eq_true]
      intro y hy
      simp only [List.mem_map] at hy
      obtain ⟨b, _, rfl⟩ := hy; rfl
  · cases h

theorem firstCells_sound {P : Program} {ρ : Ren} {m : DMem} {w : World} (hr : MRel ρ m w) {size n k : Nat} {x : DVal} {X : Value} (hx : VRel ρ x X) {cs : List DVal} (h : srcCells m size n x = some cs) (hk : srcLen x = some k) (hn : n ≤ k) :
    ∃ vs : List Value, VsRel ρ cs vs ∧ (Builtin.firstCells size n X).run P w = .ok vs.toArray w ∧ cs.all isCell = true := by
  obtain ⟨vs, g1, g2, g3⟩ := firstCells_soundK (P := P) hr hx h hk hn
  exact ⟨vs, g1, g2 w.drawn, g3⟩

theorem srcCells_zero {m : DMem} {size : Nat} {x : DVal} {cs : List DVal} (h : srcCells m size 0 x = some cs) : cs = [] := by
  unfold srcCells at h
  split at h
  · unfold rcells at h
    split at h
    · split at h
      · cases h; simp
      · cases h
    · split at h
      · cases h; simp
      · cases h
    · cases h
  · cases h; rfl
  · split at h
    · cases h; simp
    · cases h
  · cases h

theorem srcLen_sound {P : Program} {ρ : Ren} {w : World} {x : DVal} {X : Value} (hx : VRel ρ x X) {n : Nat} (h : srcLen x = some n) : (Builtin.lenOf X).run P w = .ok n w := by
  unfold srcLen at h
  split at h
  · rename_i a k cap md
    cases h
    cases a with
    | none => simp only [VRel] at hx; obtain ⟨rfl, _, rfl⟩ := hx; simp [Builtin.lenOf]
    | some p => obtain ⟨A, C, e, _⟩ := hx.slice_inv; subst e; simp [Builtin.lenOf]
  · rename_i s
    cases h
    obtain ⟨S, hS, rfl⟩ := hx.str_inv
    have : s.length = S.size := by rw [← hS]; simp only [Array.length_toList]; rfl
    simp [Builtin.lenOf, this]
  · cases h

/-- A store of cells at a slice's address, where there are any. -/
theorem wmaybe_sound {P : Program} {ρ : Ren} {m m' : DMem} {w : World} (hr : MRel ρ m w) {a : Option (Nat × Nat)} {len cap : Nat} {md : Md} {X : Value} (hx : VRel ρ (.slice a len cap md) X) {off : Nat} {vs : List DVal} (h : wmaybe m a off vs = some m')
    {VS : List Value} (hv : VsRel ρ vs VS) (hc : vs.all isCell = true) (hcap : vs ≠ [] → 0 < cap ∨ 0 < len) :
    ∃ A cap' w', X = .slice A len cap' ∧ (match A with | some a => storeCells (a.add off) VS | none => pure () : Sem Unit).run P w = .ok () w' ∧ Post ρ m w m' ρ w' := by
  unfold wmaybe at h
  split at h
  · cases h
    simp only [VsRel] at hv; subst hv
    cases a with
    | none =>
      simp only [VRel] at hx
      obtain ⟨rfl, rfl, rfl⟩ := hx
      exact ⟨none, 0, w, rfl, by simp, Post.refl hr⟩
    | some p =>
      obtain ⟨A, cap', rfl, _⟩ := hx.slice_inv
      exact ⟨some A, cap', w, rfl, by simp [storeCells], Post.refl hr⟩
  · rename_i b o
    obtain ⟨s, cap', hs, rfl⟩ : ∃ s cap', ρ b = some s ∧ X = .slice (some (s.at_ o)) len cap' := by
      rcases hcap (by simp) with h0 | h0
      · exact hx.slice_at h0
      · exact hx.slice_at_len h0
    obtain ⟨w', g1, g2⟩ := wcells_sound (P := P) hr hs h hv hc
    exact ⟨_, cap', w', rfl, by simpa [Spot.add] using g1, g2⟩
  · cases h

theorem dcopy_sound {c : Ctx} (ok : CtxOk c) {ρ : Ren} {m m' : DMem} {w : World} (hr : MRel ρ m w) {tys : List TypeId} {args : List DVal} {v : DVal} (h : dcopy c tys args m = some (v, m')) {args' : Array Value} (ha : VsRel ρ args args'.toList)
    {tys' : Array TypeId} (ht : tys'.toList = tys) (ty : TypeId) :
    ∃ V w', (Builtin.copy_ tys' ty args').run c.P w = .ok V w' ∧ VRel ρ v V ∧ Post ρ m w m' ρ w' := by
  unfold dcopy at h
  split at h
  · rename_i dt rest a len cap md x
    simp only [VsRel] at ha
    obtain ⟨D, r1, e1, hD, S, r2, e2, hS, hn⟩ := ha
    subst e2; subst hn
    split at h
    · rename_i e z1 z2 z3 n hdt hlen
      split at h
      · cases h
      · rename_i ie hie
        split at h
        · cases h
        · rename_i new hnew
          simp only [Option.map_eq_some_iff] at h
          obtain ⟨m1, hw, hh⟩ := h
          cases hh
          have hT := ok.ty _ _ hie
          have hu := (ok.ty _ _ hdt).run_underlying w
          simp only at hu
          obtain ⟨vs, g1, g2, g3⟩ := firstCells_sound (P := c.P) hr hS hnew hlen (Nat.min_le_left _ _)
          have hlenOf := srcLen_sound (P := c.P) (w := w) hS hlen
          have hne : new ≠ [] → 0 < cap ∨ 0 < len := by
            intro hnn
            right
            rcases Nat.eq_zero_or_pos len with h0 | h0
            · subst h0
              rw [Nat.min_zero] at hnew
              exact absurd (srcCells_zero hnew) hnn
            · exact h0
          obtain ⟨A, cap', w', rfl, k1, k2⟩ := wmaybe_sound (P := c.P) hr hD hw g1 g3 hne
          have e0 : args'[0]? = some (.slice A len cap') := by rw [← Array.getElem?_toList, e1]; rfl
          have e1' : args'[1]? = some S := by rw [← Array.getElem?_toList, e1]; rfl
          have e2' : tys'[0]? = some dt := by rw [← Array.getElem?_toList, ht]; rfl
          have e3 : tys'[1]? = rest[0]? := by rw [← Array.getElem?_toList, ht]; rfl
          refine ⟨.int .i64 (min n len : Nat), w', ?_, by simp [VRel], k2⟩
          cases A with
          | none =>
            simp at k1
            subst k1
            simp [Builtin.copy_, e0, e1', e2', hu, hlenOf, hT.run_sizeOf, g2, goInt]
          | some A =>
            have k1' : (storeCells A vs).run c.P w = .ok () w' := by
              have : A.add 0 = A := by simp [Addr.add]
              simpa [this] using k1
            simp [Builtin.copy_, e0, e1', e2', hu, hlenOf, hT.run_sizeOf, g2, k1', goInt]
    · cases h
  · cases h
end
end Go.DM
