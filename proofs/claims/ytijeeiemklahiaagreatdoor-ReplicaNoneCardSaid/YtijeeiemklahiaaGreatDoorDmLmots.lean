/-
  Keys for one signature: a chain, a secret, a public key, run by the machine with variables for their numbers (a filled template).
-/
import Derived.Test.YtijeeiemklahiaaGreatDoorDmHash
namespace Go.DM
noncomputable section
open Go.Proofs
set_option maxRecDepth 1000000

def chainRun (d e : Nat) (id : Nat → Int) (q i : Int) (h : Nat → Int) : Option (DVal × DMem) :=
  kcall true (ctxOf glH orcS noHint) 1000 (.fn 240) [.agg (ints .u8 16 id), .int .u32 q, .int .i64 i, .agg (ints .u8 32 h), .int .i64 (.ofNat d), .int .i64 (.ofNat e)] (stB [])
theorem chain_run (id h : Nat → Int) (q i : Int) : okAgg 32 .u8 (chainRun 0 15 id q i h) = true := by kernel_rfl
def secretRun (id : Nat → Int) (q i : Int) (h : Nat → Int) : Option (DVal × DMem) :=
  kcall true (ctxOf glH orcS noHint) 1000 (.fn 241) [.agg (ints .u8 16 id), .int .u32 q, .int .i64 i, .agg (ints .u8 32 h)] (stB [])
theorem secret_run (id h : Nat → Int) (q i : Int) : okAgg 32 .u8 (secretRun id q i h) = true := by kernel_rfl

def chainOrc (args : List DVal) (m : DMem) : Option (DVal × DMem) :=
  match args with
  | [.agg id, .int .u32 q, .int .i64 i, .agg h, .int .i64 (.ofNat d), .int .i64 (.ofNat e)] =>
    match hasH m && okU .u8 16 id && okU .u8 32 h && Nat.beq d 0 && Nat.beq e 15 with
    | true => some (.agg (ints .u8 32 (aggInt (chainRun 0 15 (intAt id) q i (intAt h)))), m)
    | false => none
  | _ => none
theorem chainOrc_ok (args : List DVal) (m : DMem) (v : DVal) (m' : DMem) (h : chainOrc args m = some (v, m')) : m' = m ∧ CallP glH 240 args m v m' := by
  unfold chainOrc at h
  split at h
  · rename_i id q i hh d e
    split at h
    · rename_i hc
      simp only [Option.some.injEq, Prod.mk.injEq] at h
      obtain ⟨rfl, rfl⟩ := h
      simp only [Bool.and_eq_true] at hc
      obtain ⟨⟨⟨⟨hm, hid⟩, hh'⟩, hd⟩, he⟩ := hc
      obtain rfl := Nat.eq_of_beq_eq_true hd
      obtain rfl := Nat.eq_of_beq_eq_true he
      obtain ⟨m2, e1, e2⟩ := okAgg_ints (chain_run (intAt id) (intAt hh) q i)
      generalize aggInt (chainRun 0 15 (intAt id) q i (intAt hh)) = V at e1 ⊢
      unfold chainRun at e1
      rw [← (okU_facts hid).2.2.2, ← (okU_facts hh').2.2.2] at e1
      refine ⟨rfl, small_plain ((CallP.run orcS_ok e1).2 e2) (by simp only [plain]; exact ints_plain _ _ _) ?_ hm⟩
      simp only [plains, plain, (okU_facts hid).2.1, (okU_facts hh').2.1, Bool.and_true]
    · cases h
  · cases h
def secretOrc (args : List DVal) (m : DMem) : Option (DVal × DMem) :=
  match args with
  | [.agg id, .int .u32 q, .int .i64 i, .agg h] =>
    match hasH m && okU .u8 16 id && okU .u8 32 h with
    | true => some (.agg (ints .u8 32 (aggInt (secretRun (intAt id) q i (intAt h)))), m)
    | false => none
  | _ => none
theorem secretOrc_ok (args : List DVal) (m : DMem) (v : DVal) (m' : DMem) (h : secretOrc args m = some (v, m')) : m' = m ∧ CallP glH 241 args m v m' := by
  unfold secretOrc at h
  split at h
  · rename_i id q i hh
    split at h
    · rename_i hc
      simp only [Option.some.injEq, Prod.mk.injEq] at h
      obtain ⟨rfl, rfl⟩ := h
      simp only [Bool.and_eq_true] at hc
      obtain ⟨⟨hm, hid⟩, hh'⟩ := hc
      obtain ⟨m2, e1, e2⟩ := okAgg_ints (secret_run (intAt id) (intAt hh) q i)
      generalize aggInt (secretRun (intAt id) q i (intAt hh)) = V at e1 ⊢
      unfold secretRun at e1
      rw [← (okU_facts hid).2.2.2, ← (okU_facts hh').2.2.2] at e1
      refine ⟨rfl, small_plain ((CallP.run orcS_ok e1).2 e2) (by simp only [plain]; exact ints_plain _ _ _) ?_ hm⟩
      simp only [plains, plain, (okU_facts hid).2.1, (okU_facts hh').2.1, Bool.and_true]
    · cases h
  · cases h

/-- With the table of the kinds' numbers. -/
def glL (g : Nat) : Bool := glH g || Nat.beq g 2
theorem glH_glL (g : Nat) (h : glH g = true) : glL g = true := by unfold glL; rw [h]; rfl
theorem glL_mem {g : Nat} (h : glL g = true) : g ∈ [0, 1, 2] := by
  simp only [glL, glH, Bool.or_eq_true] at h
  rcases h with (h | h) | h <;> simp [Nat.eq_of_beq_eq_true h]
def stL : DMem := ⟨T.set (T.set (T.set .leaf 0 (.ro cG0)) 1 (.ro cG2)) 2 (.ro cGF), 5, []⟩
def hasL (m : DMem) : Bool := hasH m && hasG m 2 cGF
theorem stL_none (i : Nat) (h : 5 ≤ i) : stL.get i = none := by
  show ((T.set (T.set (T.set .leaf 0 (.ro cG0)) 1 (.ro cG2)) 2 (.ro cGF)).get i : Option DObj) = none
  rw [T.get_set, T.get_set, T.get_set, if_neg (by omega), if_neg (by omega), if_neg (by omega)]; rfl
theorem smallL_plain {f : FuncId} {args : List DVal} {v : DVal} {m m2 : DMem} (hcall : CallP glL f args stL v m2) (hv : plain v = true) (hp : plains args = true) (hm : hasL m = true) :
    CallP glL f args m v m := by
  simp only [hasL, hasH, Bool.and_eq_true] at hm
  exact view_plain (gs := [0, 1, 2]) (m := m) hcall (fun g hg => glL_mem hg) stL_none
    (by intro g hg; simp at hg; rcases hg with rfl | rfl | rfl <;> (show _ < 5; omega))
    (by
      intro g hg
      simp at hg
      rcases hg with rfl | rfl | rfl
      · obtain ⟨h, hpl⟩ := hasG_get hm.1.1; exact .inr ⟨cG0, rfl, h, hpl⟩
      · obtain ⟨h, hpl⟩ := hasG_get hm.1.2; exact .inr ⟨cG2, rfl, h, hpl⟩
      · obtain ⟨h, hpl⟩ := hasG_get hm.2; exact .inr ⟨cGF, rfl, h, hpl⟩)
    hp hv

def orcC : Orc := oneOrc 240 chainOrc (oneOrc 241 secretOrc orcS)
theorem orcC_ok : OrcOk glL orcC :=
  (oneOrc_ok (fun args m v m' h => free_ok (chainOrc_ok args m v m' h)) (oneOrc_ok (fun args m v m' h => free_ok (secretOrc_ok args m v m' h)) orcS_ok)).widen glH_glL

/-- A run that gave a hash and no error. -/
def okHash : Option (DVal × DMem) → Bool
  | some (.tuple [.agg l, .int k (.ofNat 0)], m) => okU .u8 32 l && decide (k = .i64) && m.ob.isEmpty
  | _ => false
def hashInt (r : Option (DVal × DMem)) (i : Nat) : Int :=
  match r with
  | some (.tuple [.agg l, _], _) => intAt l i
  | _ => 0
theorem okHash_ints {r : Option (DVal × DMem)} (h : okHash r = true) : ∃ m, r = some (.tuple [.agg (ints .u8 32 (hashInt r)), .int .i64 0], m) ∧ Ok m := by
  unfold okHash at h
  split at h
  · rename_i l k m
    simp only [Bool.and_eq_true, List.isEmpty_iff, decide_eq_true_eq] at h
    obtain ⟨⟨h1, rfl⟩, h2⟩ := h
    refine ⟨m, ?_, fun p hp => by rw [h2] at hp; cases hp⟩
    have := (okU_facts h1).2.2.2
    show some (DVal.tuple [.agg l, .int .i64 (.ofNat 0)], m) = some (DVal.tuple [.agg (ints .u8 32 (intAt l)), .int .i64 0], m)
    rw [← this]; rfl
  · cases h

def publicRun (id : Nat → Int) (q : Int) (h : Nat → Int) : Option (DVal × DMem) :=
  kcall true (ctxOf glL orcC noHint) 1000 (.fn 178) [.int .i64 (.ofNat 3), .agg (ints .u8 16 id), .int .u32 q, .agg (ints .u8 32 h)] stL
/-- A PUBLIC KEY, with variables for its numbers. -/
theorem public_run (id h : Nat → Int) (q : Int) : okHash (publicRun id q h) = true := by kernel_rfl
def publicOrc (args : List DVal) (m : DMem) : Option (DVal × DMem) :=
  match args with
  | [.int .i64 (.ofNat k), .agg id, .int .u32 q, .agg h] =>
    match hasL m && okU .u8 16 id && okU .u8 32 h && Nat.beq k 3 with
    | true => some (.tuple [.agg (ints .u8 32 (hashInt (publicRun (intAt id) q (intAt h)))), .int .i64 0], m)
    | false => none
  | _ => none
theorem publicOrc_ok (args : List DVal) (m : DMem) (v : DVal) (m' : DMem) (h : publicOrc args m = some (v, m')) : m' = m ∧ CallP glL 178 args m v m' := by
  unfold publicOrc at h
  split at h
  · rename_i k id q hh
    split at h
    · rename_i hc
      simp only [Option.some.injEq, Prod.mk.injEq] at h
      obtain ⟨rfl, rfl⟩ := h
      simp only [Bool.and_eq_true] at hc
      obtain ⟨⟨⟨hm, hid⟩, hh'⟩, hk⟩ := hc
      obtain rfl := Nat.eq_of_beq_eq_true hk
      obtain ⟨m2, e1, e2⟩ := okHash_ints (public_run (intAt id) (intAt hh) q)
      generalize hashInt (publicRun (intAt id) q (intAt hh)) = V at e1 ⊢
      unfold publicRun at e1
      rw [← (okU_facts hid).2.2.2, ← (okU_facts hh').2.2.2] at e1
      refine ⟨rfl, smallL_plain ((CallP.run orcC_ok e1).2 e2) (by simp only [plain, plains, ints_plain, Bool.and_true]) ?_ hm⟩
      simp only [plains, plain, (okU_facts hid).2.1, (okU_facts hh').2.1, Bool.and_true]
    · cases h
  · cases h
def orcP : Orc := oneOrc 178 publicOrc (oneOrc 107 sumOrc noOrc)
theorem orcP_ok : OrcOk glL orcP :=
  oneOrc_ok (fun args m v m' h => free_ok (publicOrc_ok args m v m' h)) (orcS_ok.widen glH_glL)
end
end Go.DM
