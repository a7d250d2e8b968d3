/-
  The hash: its block function and its sum, run by the machine with variables for their numbers (a filled template).
-/
import Derived.Test.YtijeeiemklahiaaGreatDoorDmBase
import Derived.Test.YtijeeiemklahiaaGreatDoorDmTab
namespace Go.DM
noncomputable section
open Go.Proofs
set_option maxRecDepth 1000000
def cG0 : List DVal := [.int .u32 1779033703, .int .u32 3144134277, .int .u32 1013904242, .int .u32 2773480762, .int .u32 1359893119, .int .u32 2600822924, .int .u32 528734635, .int .u32 1541459225]
def cG2 : List DVal := [.int .u32 1116352408, .int .u32 1899447441, .int .u32 3049323471, .int .u32 3921009573, .int .u32 961987163, .int .u32 1508970993, .int .u32 2453635748, .int .u32 2870763221, .int .u32 3624381080, .int .u32 310598401, .int .u32 607225278, .int .u32 1426881987, .int .u32 1925078388, .int .u32 2162078206, .int .u32 2614888103, .int .u32 3248222580, .int .u32 3835390401, .int .u32 4022224774, .int .u32 264347078, .int .u32 604807628, .int .u32 770255983, .int .u32 1249150122, .int .u32 1555081692, .int .u32 1996064986, .int .u32 2554220882, .int .u32 2821834349, .int .u32 2952996808, .int .u32 3210313671, .int .u32 3336571891, .int .u32 3584528711, .int .u32 113926993, .int .u32 338241895, .int .u32 666307205, .int .u32 773529912, .int .u32 1294757372, .int .u32 1396182291, .int .u32 1695183700, .int .u32 1986661051, .int .u32 2177026350, .int .u32 2456956037, .int .u32 2730485921, .int .u32 2820302411, .int .u32 3259730800, .int .u32 3345764771, .int .u32 3516065817, .int .u32 3600352804, .int .u32 4094571909, .int .u32 275423344, .int .u32 430227734, .int .u32 506948616, .int .u32 659060556, .int .u32 883997877, .int .u32 958139571, .int .u32 1322822218, .int .u32 1537002063, .int .u32 1747873779, .int .u32 1955562222, .int .u32 2024104815, .int .u32 2227730452, .int .u32 2361852424, .int .u32 2428436474, .int .u32 2756734187, .int .u32 3204031479, .int .u32 3329325298]
def cGF : List DVal := [.int .i64 0, .int .i64 0, .int .i64 0, .int .i64 1, .int .i64 265, .int .i64 7, .int .i64 2, .int .i64 133, .int .i64 6, .int .i64 4, .int .i64 67, .int .i64 4, .int .i64 8, .int .i64 34, .int .i64 0]
/-- The tables that the hash reads. -/
def glH (g : Nat) : Bool := Nat.beq g 0 || Nat.beq g 1
def stB (bs : List DVal) : DMem := ⟨T.set (T.set (T.set .leaf 0 (.ro cG0)) 1 (.ro cG2)) 5 (.ro bs), 6, []⟩
def hasH (m : DMem) : Bool := hasG m 0 cG0 && hasG m 1 cG2

theorem stB_get (bs : List DVal) : (stB bs).get 0 = some (.ro cG0) ∧ (stB bs).get 1 = some (.ro cG2) ∧ (stB bs).get 5 = some (.ro bs) ∧ ∀ i, 6 ≤ i → (stB bs).get i = none := by
  refine ⟨rfl, rfl, rfl, fun i hi => ?_⟩
  show ((T.set (T.set (T.set .leaf 0 (.ro cG0)) 1 (.ro cG2)) 5 (.ro bs)).get i : Option DObj) = none
  rw [T.get_set, T.get_set, T.get_set, if_neg (by omega), if_neg (by omega), if_neg (by omega)]; rfl

/-- A call that was run in the small memory, in any memory that has the same. -/
theorem small_call {f : FuncId} {p : List DVal} {n : Nat} {bs : List DVal} {v : DVal} {m m2 : DMem} {b o cap : Nat} {md : Md}
    (hcall : CallP glH f (p ++ [.slice (some (5, 0)) n n .ro]) (stB bs) v m2)
    (hv : plain v = true) (hp : plains p = true) (hbs : okU .u8 bs.length bs = true)
    (hm : hasH m = true) (hb : glH b = false) (hr : rcells m b o bs.length = some bs) (hbn : bs.length ≤ n) (hn : n ≤ cap) (hpos : 0 < n) :
    CallP glH f (p ++ [.slice (some (b, o)) n cap md]) m v m := by
  obtain ⟨g0, g2, g8, gz⟩ := stB_get bs
  have hb' := okU_facts hbs
  simp only [hasH, Bool.and_eq_true] at hm
  exact view_call (gs := [0, 1]) (q := 5) (b := b) (o := o) (cap := cap) (md := md) (m := m) hcall
    (by intro g hg; have hg' : glH g = true := hg; simp only [glH, Bool.or_eq_true] at hg'; rcases hg' with h | h <;> simp [Nat.eq_of_beq_eq_true h])
    (by intro g hg; simp at hg; rcases hg with rfl | rfl <;> rfl) (by simp) (fun i hi => gz i hi) (by intro g hg; simp at hg; rcases hg with rfl | rfl <;> (show _ < 6; omega)) (show 5 < 6 by omega) g8
    (by
      intro g hg
      simp at hg
      rcases hg with rfl | rfl
      · obtain ⟨h, hpl⟩ := hasG_get hm.1; exact .inr ⟨cG0, g0, h, hpl⟩
      · obtain ⟨h, hpl⟩ := hasG_get hm.2; exact .inr ⟨cG2, g2, h, hpl⟩)
    hp hb'.2.1 hv
    (by intro hm; simp at hm; rcases hm with rfl | rfl <;> cases hb) hr hbn hn hpos hb'.2.2.1

/-- A call of plain values that was run in the small memory, in any memory that has the tables. -/
theorem small_plain {f : FuncId} {args : List DVal} {bs : List DVal} {v : DVal} {m m2 : DMem} (hcall : CallP glH f args (stB bs) v m2) (hv : plain v = true) (hp : plains args = true) (hm : hasH m = true) :
    CallP glH f args m v m := by
  obtain ⟨g0, g2, g8, gz⟩ := stB_get bs
  simp only [hasH, Bool.and_eq_true] at hm
  exact view_plain (gs := [0, 1]) (m := m) hcall
    (by intro g hg; have hg' : glH g = true := hg; simp only [glH, Bool.or_eq_true] at hg'; rcases hg' with h | h <;> simp [Nat.eq_of_beq_eq_true h])
    (fun i hi => gz i hi) (by intro g hg; simp at hg; rcases hg with rfl | rfl <;> (show _ < 6; omega))
    (by
      intro g hg
      simp at hg
      rcases hg with rfl | rfl
      · obtain ⟨h, hpl⟩ := hasG_get hm.1; exact .inr ⟨cG0, g0, h, hpl⟩
      · obtain ⟨h, hpl⟩ := hasG_get hm.2; exact .inr ⟨cG2, g2, h, hpl⟩)
    hp hv

def blkRun (n : Nat) (s bs : List DVal) : Option (DVal × DMem) := kcall true (ctxOf glH noOrc noHint) 1000 (.fn 181) [.agg s, .slice (some (5, 0)) n n .ro] (stB bs)
/-- BLOCK, with variables for its numbers. -/
theorem block_run (x s : Nat → Int) (k : Nat) : okAgg 8 .u32 (blkRun (k + 64) (ints .u32 8 s) (ints .u8 64 x)) = true := by kernel_rfl

def blkOrc (args : List DVal) (m : DMem) : Option (DVal × DMem) :=
  match args with
  | [.agg s, .slice (some (b, o)) n cap _] => match rcells m b o 64 with
    | some bs => match hasH m && not (glH b) && Nat.ble 64 n && Nat.ble n cap && okU .u32 8 s && okU .u8 64 bs with
      | true => some (.agg (ints .u32 8 (aggInt (blkRun n s bs))), m)
      | false => none
    | none => none
  | _ => none

theorem blkOrc_ok (args : List DVal) (m : DMem) (v : DVal) (m' : DMem) (h : blkOrc args m = some (v, m')) : m' = m ∧ CallP glH 181 args m v m' := by
  unfold blkOrc at h
  split at h
  · rename_i s b o n cap _
    split at h
    · rename_i bs hr
      split at h
      · rename_i hc
        simp only [Option.some.injEq, Prod.mk.injEq] at h
        obtain ⟨rfl, rfl⟩ := h
        simp only [Bool.and_eq_true, Bool.not_eq_true'] at hc
        obtain ⟨⟨⟨⟨⟨hm, hb⟩, h64⟩, hn⟩, hs⟩, hbs⟩ := hc
        obtain ⟨k, rfl⟩ : ∃ k, n = k + 64 := ⟨n - 64, by have := Nat.le_of_ble_eq_true h64; omega⟩
        have es := (okU_facts hs).2.2.2
        have eb := (okU_facts hbs).2.2.2
        have hrun := block_run (intAt bs) (intAt s) k
        rw [← eb, ← es] at hrun
        obtain ⟨m2, e1, e2⟩ := okAgg_ints hrun
        have hlen : bs.length = 64 := (okU_facts hbs).1
        exact ⟨rfl, small_call (p := [.agg s]) ((CallP.run (noOrc_ok glH) e1).2 e2) (by simp only [plain]; exact ints_plain _ _ _) (by simp only [plains, plain, Bool.and_true]; exact (okU_facts hs).2.1) (by rw [hlen]; exact hbs) hm hb (by rw [hlen]; exact hr) (by omega) (Nat.le_of_ble_eq_true hn) (by omega)⟩
      · cases h
    · cases h
  · cases h

/-- What stands for one function. -/
def oneOrc (f : FuncId) (g : List DVal → DMem → Option (DVal × DMem)) (rest : Orc) : Orc := fun i =>
  match Nat.beq i f with
  | true => some g
  | false => rest i
theorem oneOrc_ok {gl : Nat → Bool} {f : FuncId} {g : List DVal → DMem → Option (DVal × DMem)} {rest : Orc} (hg : ∀ args m v m', g args m = some (v, m') → Owes m m' ∧ (Ok m' → CallP gl f args m v m')) (hr : OrcOk gl rest) : OrcOk gl (oneOrc f g rest) := by
  intro i g' hi args m v m' h
  unfold oneOrc at hi
  split at hi
  · rename_i hb
    have := Nat.eq_of_beq_eq_true hb
    subst this
    cases hi
    exact hg args m v m' h
  · exact hr i g' hi args m v m' h
theorem free_ok {gl : Nat → Bool} {f : FuncId} {args : List DVal} {m m' : DMem} {v : DVal} (h : m' = m ∧ CallP gl f args m v m') : Owes m m' ∧ (Ok m' → CallP gl f args m v m') :=
  ⟨by rw [h.1]; exact Owes.refl m, fun _ => h.2⟩
theorem OrcOk.widen {gl gl' : Nat → Bool} (hgl : ∀ g, gl g = true → gl' g = true) {orc : Orc} (h : OrcOk gl orc) : OrcOk gl' orc :=
  fun f g hf args m v m' hx => ⟨(h f g hf args m v m' hx).1, fun hk => ((h f g hf args m v m' hx).2 hk).widen hgl⟩

def orcK : Orc := oneOrc 181 blkOrc noOrc
theorem orcK_ok : OrcOk glH orcK := oneOrc_ok (fun args m v m' h => free_ok (blkOrc_ok args m v m' h)) (noOrc_ok glH)

def sumRun (n : Nat) (bs : List DVal) : Option (DVal × DMem) := kcall true (ctxOf glH orcK noHint) 1000 (.fn 107) [.slice (some (5, 0)) n n .ro] (stB bs)
theorem sum_run37 (x : Nat → Int) : okAgg 32 .u8 (sumRun 37 (ints .u8 37 x)) = true := by kernel_rfl
theorem sum_run54 (x : Nat → Int) : okAgg 32 .u8 (sumRun 54 (ints .u8 54 x)) = true := by kernel_rfl
theorem sum_run55 (x : Nat → Int) : okAgg 32 .u8 (sumRun 55 (ints .u8 55 x)) = true := by kernel_rfl
theorem sum_run86 (x : Nat → Int) : okAgg 32 .u8 (sumRun 86 (ints .u8 86 x)) = true := by kernel_rfl
theorem sum_run2166 (x : Nat → Int) : okAgg 32 .u8 (sumRun 2166 (ints .u8 2166 x)) = true := by kernel_rfl
def sumLens : List Nat := [37, 54, 55, 86, 2166]
theorem sum_run (n : Nat) (hn : n ∈ sumLens) (bs : List DVal) (hbs : okU .u8 n bs = true) : okAgg 32 .u8 (sumRun n bs) = true := by
  have eb := (okU_facts hbs).2.2.2
  simp only [sumLens, List.mem_cons, List.not_mem_nil, or_false] at hn
  rw [eb]
  rcases hn with rfl | rfl | rfl | rfl | rfl
  · exact sum_run37 (intAt bs)
  · exact sum_run54 (intAt bs)
  · exact sum_run55 (intAt bs)
  · exact sum_run86 (intAt bs)
  · exact sum_run2166 (intAt bs)
def sumOrc (args : List DVal) (m : DMem) : Option (DVal × DMem) :=
  match args with
  | [.slice (some (b, o)) n cap _] => match rcells m b o n with
    | some bs => match hasH m && not (glH b) && sumLens.contains n && Nat.blt 0 n && Nat.ble n cap && okU .u8 n bs with
      | true => some (.agg (ints .u8 32 (aggInt (sumRun n bs))), m)
      | false => none
    | none => none
  | _ => none

theorem sumOrc_ok (args : List DVal) (m : DMem) (v : DVal) (m' : DMem) (h : sumOrc args m = some (v, m')) : m' = m ∧ CallP glH 107 args m v m' := by
  unfold sumOrc at h
  split at h
  · rename_i b o n cap _
    split at h
    · rename_i bs hr
      split at h
      · rename_i hc
        simp only [Option.some.injEq, Prod.mk.injEq] at h
        obtain ⟨rfl, rfl⟩ := h
        simp only [Bool.and_eq_true, Bool.not_eq_true'] at hc
        obtain ⟨⟨⟨⟨⟨hm, hb⟩, hlen⟩, hpos⟩, hn⟩, hbs⟩ := hc
        have hl : bs.length = n := (okU_facts hbs).1
        have hrun := sum_run n (by simpa using hlen) bs hbs
        obtain ⟨m2, e1, e2⟩ := okAgg_ints hrun
        exact ⟨rfl, small_call (p := []) ((CallP.run orcK_ok e1).2 e2) (by simp only [plain]; exact ints_plain _ _ _) rfl (by rw [hl]; exact hbs) hm hb (by rw [hl]; exact hr) (by omega) (Nat.le_of_ble_eq_true hn) (Nat.le_of_ble_eq_true hpos)⟩
      · cases h
    · cases h
  · cases h
def orcS : Orc := oneOrc 107 sumOrc noOrc
theorem orcS_ok : OrcOk glH orcS := oneOrc_ok (fun args m v m' h => free_ok (sumOrc_ok args m v m' h)) (noOrc_ok glH)
end
end Go.DM
