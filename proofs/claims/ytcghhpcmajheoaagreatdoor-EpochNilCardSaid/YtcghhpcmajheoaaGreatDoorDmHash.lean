/-
  The hash: its block function and its sum, run by the machine with variables for their numbers (printed by gen_hash.py).
-/
import Derived.Test.YtcghhpcmajheoaaGreatDoorDmBase
namespace Go.DM
noncomputable section
open Go.Proofs
set_option maxRecDepth 1000000
def cG0 : List DVal := [.int .u32 1779033703, .int .u32 3144134277, .int .u32 1013904242, .int .u32 2773480762, .int .u32 1359893119, .int .u32 2600822924, .int .u32 528734635, .int .u32 1541459225]
def cG2 : List DVal := [.int .u32 1116352408, .int .u32 1899447441, .int .u32 3049323471, .int .u32 3921009573, .int .u32 961987163, .int .u32 1508970993, .int .u32 2453635748, .int .u32 2870763221, .int .u32 3624381080, .int .u32 310598401, .int .u32 607225278, .int .u32 1426881987, .int .u32 1925078388, .int .u32 2162078206, .int .u32 2614888103, .int .u32 3248222580, .int .u32 3835390401, .int .u32 4022224774, .int .u32 264347078, .int .u32 604807628, .int .u32 770255983, .int .u32 1249150122, .int .u32 1555081692, .int .u32 1996064986, .int .u32 2554220882, .int .u32 2821834349, .int .u32 2952996808, .int .u32 3210313671, .int .u32 3336571891, .int .u32 3584528711, .int .u32 113926993, .int .u32 338241895, .int .u32 666307205, .int .u32 773529912, .int .u32 1294757372, .int .u32 1396182291, .int .u32 1695183700, .int .u32 1986661051, .int .u32 2177026350, .int .u32 2456956037, .int .u32 2730485921, .int .u32 2820302411, .int .u32 3259730800, .int .u32 3345764771, .int .u32 3516065817, .int .u32 3600352804, .int .u32 4094571909, .int .u32 275423344, .int .u32 430227734, .int .u32 506948616, .int .u32 659060556, .int .u32 883997877, .int .u32 958139571, .int .u32 1322822218, .int .u32 1537002063, .int .u32 1747873779, .int .u32 1955562222, .int .u32 2024104815, .int .u32 2227730452, .int .u32 2361852424, .int .u32 2428436474, .int .u32 2756734187, .int .u32 3204031479, .int .u32 3329325298]
def stB (bs : List DVal) : DMem := ⟨T.set (T.set (T.set .leaf 0 (.cells cG0 183 0)) 1 (.cells cG2 204 0)) 4 (.cells bs 5 0)  , 5⟩
def glH (g : Nat) : Bool := Nat.beq g 0 || Nat.beq g 1
def isU (k : IntKind) : DVal → Bool
  | .int k' _ => decide (k = k')
  | _ => false
def okU (k : IntKind) (n : Nat) (l : List DVal) : Bool := Nat.beq l.length n && l.all (isU k)
def okB (g : List Nat) (n : Nat) (k : IntKind) (st : DMem) : Option (DVal × DMem) → Bool
  | some (.agg l, m) => okU k n l && g.all fun b => stillB st m b
  | _ => false
def intAt (l : List DVal) (i : Nat) : Int :=
  match l[i]? with
  | some (.int _ n) => n
  | _ => 0
def eqInts : List DVal → List DVal → Bool
  | [], [] => true
  | .int k a :: xs, .int k' b :: ys => decide (k = k') && decide (a = b) && eqInts xs ys
  | _, _ => false
def hasG (m : DMem) (g : Nat) (cs : List DVal) : Bool :=
  match m.get g with
  | some (.cells c _ _) => eqInts c cs
  | _ => false

theorem eqInts_eq (xs : List DVal) : ∀ ys, eqInts xs ys = true → xs = ys ∧ plains xs = true := by
  induction xs with
  | nil =>
    intro ys h
    cases ys with
    | nil => exact ⟨rfl, rfl⟩
    | cons y ys => simp [eqInts] at h
  | cons x xs ih =>
    intro ys h
    cases ys with
    | nil => cases x <;> simp [eqInts] at h
    | cons y ys =>
      cases x with
      | int k a =>
        cases y with
        | int k' b =>
          simp only [eqInts, Bool.and_eq_true, decide_eq_true_eq] at h
          obtain ⟨⟨rfl, rfl⟩, h⟩ := h
          obtain ⟨rfl, h2⟩ := ih ys h
          exact ⟨rfl, by simp [plains, plain, h2]⟩
        | _ => simp [eqInts] at h
      | _ => simp [eqInts] at h

theorem hasG_get {m : DMem} {g : Nat} {cs : List DVal} (h : hasG m g cs = true) : (∃ e v, m.get g = some (.cells cs e v)) ∧ plains cs = true := by
  unfold hasG at h
  split at h
  · rename_i c e v hm
    obtain ⟨rfl, h2⟩ := eqInts_eq _ _ h
    exact ⟨⟨e, v, hm⟩, h2⟩
  · cases h

theorem isU_eq {k : IntKind} {d : DVal} (h : isU k d = true) : ∃ n, d = .int k n := by
  cases d <;> simp [isU] at h
  subst h; exact ⟨_, rfl⟩

theorem all_isU : ∀ {k : IntKind} {l : List DVal}, l.all (isU k) = true → plains l = true ∧ l.all isCell = true ∧ ∀ i, i < l.length → l[i]? = some (.int k (intAt l i))
  | k, [], _ => ⟨rfl, rfl, fun i h => by simp at h⟩
  | k, d :: l, h => by
    simp only [List.all_cons, Bool.and_eq_true] at h
    obtain ⟨n, rfl⟩ := isU_eq h.1
    obtain ⟨h1, h2, h3⟩ := all_isU h.2
    refine ⟨by simp [plains, plain, h1], by simpa [isCell] using h2, fun i hi => ?_⟩
    cases i with
    | zero => simp [intAt]
    | succ i =>
      have := h3 i (by simpa using hi)
      simpa [intAt] using this

theorem okU_facts {k : IntKind} {n : Nat} {l : List DVal} (h : okU k n l = true) : l.length = n ∧ plains l = true ∧ l.all isCell = true ∧ l = (List.range n).map fun i => .int k (intAt l i) := by
  unfold okU at h
  simp only [Bool.and_eq_true] at h
  have hn := Nat.eq_of_beq_eq_true h.1
  obtain ⟨h1, h2, h3⟩ := all_isU h.2
  refine ⟨hn, h1, h2, List.ext_getElem? fun i => ?_⟩
  by_cases hi : i < n
  · rw [h3 i (by omega)]; simp [List.getElem?_range hi]
  · rw [List.getElem?_eq_none (by omega), List.getElem?_eq_none (by simp; omega)]

theorem okB_facts {g : List Nat} {n : Nat} {k : IntKind} {st : DMem} {r : Option (DVal × DMem)} (h : okB g n k st r = true) : ∃ l m, r = some (.agg l, m) ∧ okU k n l = true ∧ ∀ b ∈ g, stillB st m b = true := by
  unfold okB at h
  split at h
  · rename_i l m
    simp only [Bool.and_eq_true, List.all_eq_true] at h
    exact ⟨l, m, rfl, h.1, h.2⟩
  · cases h

theorem CallTo.widen {gl gl' : Nat → Bool} {orc orc' : FuncId → Option (List DVal → DMem → Option (DVal × DMem))} (hgl : ∀ g, gl g = true → gl' g = true) {f : FuncId} {args : List DVal} {m m' : DMem} {v : DVal}
    (h : CallTo (ctxOf gl orc) f args m v m') : CallTo (ctxOf gl' orc') f args m v m' :=
  fun ρ w A h1 h2 h3 => h ρ w A h1 (fun g hg => h2 g (hgl g hg)) h3

theorem stB_get (bs : List DVal) : (stB bs).get 0 = some (.cells cG0 183 0) ∧ (stB bs).get 1 = some (.cells cG2 204 0) ∧ (stB bs).get 4 = some (.cells bs 5 0) ∧ ∀ i, 5 ≤ i → (stB bs).get i = none := by
  refine ⟨rfl, rfl, rfl, fun i hi => ?_⟩
  show ((T.set (T.set (T.set .leaf 0 (.cells cG0 183 0)) 1 (.cells cG2 204 0)) 4 (.cells bs 5 0)).get i : Option DObj) = none
  rw [T.get_set, T.get_set, T.get_set, if_neg (by omega), if_neg (by omega), if_neg (by omega)]; rfl

/-- A call that was run in the small memory, in any memory that has the same. -/
theorem small_call {orc orc' : FuncId → Option (List DVal → DMem → Option (DVal × DMem))} {f : FuncId} {p : List DVal} {n : Nat} {bs l : List DVal} {k : IntKind} {q : Nat} {m m2 : DMem} {b o cap : Nat} {md : Md}
    (hcall : CallTo (ctxOf glH orc) f (p ++ [.slice (some (4, 0)) n n .ro]) (stB bs) (.agg l) m2)
    (hl : okU k q l = true) (hstill : ∀ i ∈ [0, 1, 4], stillB (stB bs) m2 i = true) (hp : plains p = true) (hbs : okU .u8 bs.length bs = true)
    (h0 : hasG m 0 cG0 = true) (h2 : hasG m 1 cG2 = true) (hb : glH b = false) (hr : rcells m b o bs.length = some bs) (hbn : bs.length ≤ n) (hn : n ≤ cap) (hpos : 0 < n) :
    CallTo (ctxOf glH orc') f (p ++ [.slice (some (b, o)) n cap md]) m (.agg l) m := by
  obtain ⟨g0, g2, g8, gz⟩ := stB_get bs
  have hl' := okU_facts hl
  have hb' := okU_facts hbs
  have key := view_call (c := ctxOf glH orc) (gs := [0, 1]) (q := 4) (b := b) (o := o) (cap := cap) (md := md) (m := m) hcall
    (by intro g hg; have hg' : glH g = true := hg; simp only [glH, Bool.or_eq_true] at hg'; rcases hg' with h | h <;> simp [Nat.eq_of_beq_eq_true h])
    (by intro g hg; simp at hg; rcases hg with rfl | rfl <;> rfl) (by simp) (fun i hi => gz i hi) (by intro g hg; simp at hg; rcases hg with rfl | rfl <;> (show _ < 5; omega)) (show 4 < 5 by omega) g8
    (by
      intro g hg
      simp at hg
      rcases hg with rfl | rfl
      · obtain ⟨⟨e, v, h⟩, hpl⟩ := hasG_get h0; exact .inr ⟨cG0, 183, 0, e, v, g0, h, hpl⟩
      · obtain ⟨⟨e, v, h⟩, hpl⟩ := hasG_get h2; exact .inr ⟨cG2, 204, 0, e, v, g2, h, hpl⟩)
    (by intro i hi; apply hstill; simp at hi ⊢; omega)
    hp hb'.2.1 (by simp only [plain]; exact hl'.2.1)
    (by intro hm; simp at hm; rcases hm with rfl | rfl <;> cases hb) hr hbn hn hpos hb'.2.2.1
  exact fun ρ w A h1 h2 h3 => key ρ w A h1 h2 h3


/-- BLOCK, with variables for its numbers. -/
theorem block_run (x s : Nat → Int) (k : Nat) : okB [0, 1, 4] 8 .u32 (stB [.int .u8 (x 0), .int .u8 (x 1), .int .u8 (x 2), .int .u8 (x 3), .int .u8 (x 4), .int .u8 (x 5), .int .u8 (x 6), .int .u8 (x 7), .int .u8 (x 8), .int .u8 (x 9), .int .u8 (x 10), .int .u8 (x 11), .int .u8 (x 12), .int .u8 (x 13), .int .u8 (x 14), .int .u8 (x 15), .int .u8 (x 16), .int .u8 (x 17), .int .u8 (x 18), .int .u8 (x 19), .int .u8 (x 20), .int .u8 (x 21), .int .u8 (x 22), .int .u8 (x 23), .int .u8 (x 24), .int .u8 (x 25), .int .u8 (x 26), .int .u8 (x 27), .int .u8 (x 28), .int .u8 (x 29), .int .u8 (x 30), .int .u8 (x 31), .int .u8 (x 32), .int .u8 (x 33), .int .u8 (x 34), .int .u8 (x 35), .int .u8 (x 36), .int .u8 (x 37), .int .u8 (x 38), .int .u8 (x 39), .int .u8 (x 40), .int .u8 (x 41), .int .u8 (x 42), .int .u8 (x 43), .int .u8 (x 44), .int .u8 (x 45), .int .u8 (x 46), .int .u8 (x 47), .int .u8 (x 48), .int .u8 (x 49), .int .u8 (x 50), .int .u8 (x 51), .int .u8 (x 52), .int .u8 (x 53), .int .u8 (x 54), .int .u8 (x 55), .int .u8 (x 56), .int .u8 (x 57), .int .u8 (x 58), .int .u8 (x 59), .int .u8 (x 60), .int .u8 (x 61), .int .u8 (x 62), .int .u8 (x 63)]) (kcall true (ctxOf glH fun _ => none) 1000 92 [.agg [.int .u32 (s 0), .int .u32 (s 1), .int .u32 (s 2), .int .u32 (s 3), .int .u32 (s 4), .int .u32 (s 5), .int .u32 (s 6), .int .u32 (s 7)], .slice (some (4, 0)) (k + 64) (k + 64) .ro] (stB [.int .u8 (x 0), .int .u8 (x 1), .int .u8 (x 2), .int .u8 (x 3), .int .u8 (x 4), .int .u8 (x 5), .int .u8 (x 6), .int .u8 (x 7), .int .u8 (x 8), .int .u8 (x 9), .int .u8 (x 10), .int .u8 (x 11), .int .u8 (x 12), .int .u8 (x 13), .int .u8 (x 14), .int .u8 (x 15), .int .u8 (x 16), .int .u8 (x 17), .int .u8 (x 18), .int .u8 (x 19), .int .u8 (x 20), .int .u8 (x 21), .int .u8 (x 22), .int .u8 (x 23), .int .u8 (x 24), .int .u8 (x 25), .int .u8 (x 26), .int .u8 (x 27), .int .u8 (x 28), .int .u8 (x 29), .int .u8 (x 30), .int .u8 (x 31), .int .u8 (x 32), .int .u8 (x 33), .int .u8 (x 34), .int .u8 (x 35), .int .u8 (x 36), .int .u8 (x 37), .int .u8 (x 38), .int .u8 (x 39), .int .u8 (x 40), .int .u8 (x 41), .int .u8 (x 42), .int .u8 (x 43), .int .u8 (x 44), .int .u8 (x 45), .int .u8 (x 46), .int .u8 (x 47), .int .u8 (x 48), .int .u8 (x 49), .int .u8 (x 50), .int .u8 (x 51), .int .u8 (x 52), .int .u8 (x 53), .int .u8 (x 54), .int .u8 (x 55), .int .u8 (x 56), .int .u8 (x 57), .int .u8 (x 58), .int .u8 (x 59), .int .u8 (x 60), .int .u8 (x 61), .int .u8 (x 62), .int .u8 (x 63)])) = true := by kernel_rfl

def blkRun (n : Nat) (s bs : List DVal) : Option (DVal × DMem) := kcall true (ctxOf glH fun _ => none) 1000 92 [.agg s, .slice (some (4, 0)) n n .ro] (stB bs)
def blkInt (n : Nat) (s bs : List DVal) (i : Nat) : Int :=
  match blkRun n s bs with
  | some (.agg l, _) => intAt l i
  | _ => 0
def blkOrc (args : List DVal) (m : DMem) : Option (DVal × DMem) :=
  match args with
  | [.agg s, .slice (some (b, o)) n cap md] => match rcells m b o 64 with
    | some bs => match hasG m 0 cG0 && hasG m 1 cG2 && not (glH b) && Nat.ble 64 n && Nat.ble n cap && okU .u32 8 s && okU .u8 64 bs with
      | true => some (.agg [.int .u32 (blkInt n s bs 0), .int .u32 (blkInt n s bs 1), .int .u32 (blkInt n s bs 2), .int .u32 (blkInt n s bs 3), .int .u32 (blkInt n s bs 4), .int .u32 (blkInt n s bs 5), .int .u32 (blkInt n s bs 6), .int .u32 (blkInt n s bs 7)], m)
      | false => none
    | none => none
  | _ => none

theorem blkOrc_ok {orc : FuncId → Option (List DVal → DMem → Option (DVal × DMem))} (args : List DVal) (m : DMem) (v : DVal) (m' : DMem) (h : blkOrc args m = some (v, m')) : CallTo (ctxOf glH orc) 92 args m v m' := by
  unfold blkOrc at h
  split at h
  · rename_i s b o n cap md
    split at h
    · rename_i bs hr
      split at h
      · rename_i hc
        simp only [Option.some.injEq, Prod.mk.injEq] at h
        obtain ⟨rfl, rfl⟩ := h
        simp only [Bool.and_eq_true, Bool.not_eq_true'] at hc
        obtain ⟨⟨⟨⟨⟨⟨h0, h2⟩, hb⟩, h64⟩, hn⟩, hs⟩, hbs⟩ := hc
        obtain ⟨k, rfl⟩ : ∃ k, n = k + 64 := ⟨n - 64, by have := Nat.le_of_ble_eq_true h64; omega⟩
        have es := (okU_facts hs).2.2.2
        have eb := (okU_facts hbs).2.2.2
        have hrun := block_run (intAt bs) (intAt s) k
        have eb' : [.int .u8 (intAt bs 0), .int .u8 (intAt bs 1), .int .u8 (intAt bs 2), .int .u8 (intAt bs 3), .int .u8 (intAt bs 4), .int .u8 (intAt bs 5), .int .u8 (intAt bs 6), .int .u8 (intAt bs 7), .int .u8 (intAt bs 8), .int .u8 (intAt bs 9), .int .u8 (intAt bs 10), .int .u8 (intAt bs 11), .int .u8 (intAt bs 12), .int .u8 (intAt bs 13), .int .u8 (intAt bs 14), .int .u8 (intAt bs 15), .int .u8 (intAt bs 16), .int .u8 (intAt bs 17), .int .u8 (intAt bs 18), .int .u8 (intAt bs 19), .int .u8 (intAt bs 20), .int .u8 (intAt bs 21), .int .u8 (intAt bs 22), .int .u8 (intAt bs 23), .int .u8 (intAt bs 24), .int .u8 (intAt bs 25), .int .u8 (intAt bs 26), .int .u8 (intAt bs 27), .int .u8 (intAt bs 28), .int .u8 (intAt bs 29), .int .u8 (intAt bs 30), .int .u8 (intAt bs 31), .int .u8 (intAt bs 32), .int .u8 (intAt bs 33), .int .u8 (intAt bs 34), .int .u8 (intAt bs 35), .int .u8 (intAt bs 36), .int .u8 (intAt bs 37), .int .u8 (intAt bs 38), .int .u8 (intAt bs 39), .int .u8 (intAt bs 40), .int .u8 (intAt bs 41), .int .u8 (intAt bs 42), .int .u8 (intAt bs 43), .int .u8 (intAt bs 44), .int .u8 (intAt bs 45), .int .u8 (intAt bs 46), .int .u8 (intAt bs 47), .int .u8 (intAt bs 48), .int .u8 (intAt bs 49), .int .u8 (intAt bs 50), .int .u8 (intAt bs 51), .int .u8 (intAt bs 52), .int .u8 (intAt bs 53), .int .u8 (intAt bs 54), .int .u8 (intAt bs 55), .int .u8 (intAt bs 56), .int .u8 (intAt bs 57), .int .u8 (intAt bs 58), .int .u8 (intAt bs 59), .int .u8 (intAt bs 60), .int .u8 (intAt bs 61), .int .u8 (intAt bs 62), .int .u8 (intAt bs 63)] = bs := eb.symm
        have es' : [.int .u32 (intAt s 0), .int .u32 (intAt s 1), .int .u32 (intAt s 2), .int .u32 (intAt s 3), .int .u32 (intAt s 4), .int .u32 (intAt s 5), .int .u32 (intAt s 6), .int .u32 (intAt s 7)] = s := es.symm
        rw [eb', es'] at hrun
        obtain ⟨l, m2, e1, e2, e3⟩ := okB_facts hrun
        have el := (okU_facts e2).2.2.2
        have hint : ∀ i, blkInt (k + 64) s bs i = intAt l i := fun i => by unfold blkInt blkRun; rw [e1]
        have el' : [.int .u32 (blkInt (k + 64) s bs 0), .int .u32 (blkInt (k + 64) s bs 1), .int .u32 (blkInt (k + 64) s bs 2), .int .u32 (blkInt (k + 64) s bs 3), .int .u32 (blkInt (k + 64) s bs 4), .int .u32 (blkInt (k + 64) s bs 5), .int .u32 (blkInt (k + 64) s bs 6), .int .u32 (blkInt (k + 64) s bs 7)] = l := by simp only [hint]; exact el.symm
        rw [el']
        have hlen : bs.length = 64 := (okU_facts hbs).1
        exact small_call (p := [.agg s]) (ctxOf_run (fun _ _ h => by cases h) e1) e2 e3 (by simp only [plains, plain, Bool.and_true]; exact (okU_facts hs).2.1) (by rw [hlen]; exact hbs) h0 h2 hb (by rw [hlen]; exact hr) (by omega) (Nat.le_of_ble_eq_true hn) (by omega)
      · cases h
    · cases h
  · cases h

def sumO (f : FuncId) : Option (List DVal → DMem → Option (DVal × DMem)) :=
  match Nat.beq f 92 with
  | true => some blkOrc
  | false => none
theorem sumO_ok (f : FuncId) (g : List DVal → DMem → Option (DVal × DMem)) (hf : sumO f = some g) (args : List DVal) (m : DMem) (v : DVal) (m' : DMem) (h : g args m = some (v, m')) : CallTo (ctxOf glH sumO) f args m v m' := by
  unfold sumO at hf
  split at hf
  · rename_i hb
    have := Nat.eq_of_beq_eq_true hb
    subst this
    cases hf
    exact blkOrc_ok args m v m' h
  · cases hf

def sumRun (n : Nat) (bs : List DVal) : Option (DVal × DMem) := kcall true (ctxOf glH sumO) 1000 65 [.slice (some (4, 0)) n n .ro] (stB bs)
theorem sum_run6 (x : Nat → Int) : okB [0, 1, 4] 32 .u8 (stB [.int .u8 (x 0), .int .u8 (x 1), .int .u8 (x 2), .int .u8 (x 3), .int .u8 (x 4), .int .u8 (x 5)]) (sumRun 6 [.int .u8 (x 0), .int .u8 (x 1), .int .u8 (x 2), .int .u8 (x 3), .int .u8 (x 4), .int .u8 (x 5)]) = true := by kernel_rfl
theorem sum_run37 (x : Nat → Int) : okB [0, 1, 4] 32 .u8 (stB [.int .u8 (x 0), .int .u8 (x 1), .int .u8 (x 2), .int .u8 (x 3), .int .u8 (x 4), .int .u8 (x 5), .int .u8 (x 6), .int .u8 (x 7), .int .u8 (x 8), .int .u8 (x 9), .int .u8 (x 10), .int .u8 (x 11), .int .u8 (x 12), .int .u8 (x 13), .int .u8 (x 14), .int .u8 (x 15), .int .u8 (x 16), .int .u8 (x 17), .int .u8 (x 18), .int .u8 (x 19), .int .u8 (x 20), .int .u8 (x 21), .int .u8 (x 22), .int .u8 (x 23), .int .u8 (x 24), .int .u8 (x 25), .int .u8 (x 26), .int .u8 (x 27), .int .u8 (x 28), .int .u8 (x 29), .int .u8 (x 30), .int .u8 (x 31), .int .u8 (x 32), .int .u8 (x 33), .int .u8 (x 34), .int .u8 (x 35), .int .u8 (x 36)]) (sumRun 37 [.int .u8 (x 0), .int .u8 (x 1), .int .u8 (x 2), .int .u8 (x 3), .int .u8 (x 4), .int .u8 (x 5), .int .u8 (x 6), .int .u8 (x 7), .int .u8 (x 8), .int .u8 (x 9), .int .u8 (x 10), .int .u8 (x 11), .int .u8 (x 12), .int .u8 (x 13), .int .u8 (x 14), .int .u8 (x 15), .int .u8 (x 16), .int .u8 (x 17), .int .u8 (x 18), .int .u8 (x 19), .int .u8 (x 20), .int .u8 (x 21), .int .u8 (x 22), .int .u8 (x 23), .int .u8 (x 24), .int .u8 (x 25), .int .u8 (x 26), .int .u8 (x 27), .int .u8 (x 28), .int .u8 (x 29), .int .u8 (x 30), .int .u8 (x 31), .int .u8 (x 32), .int .u8 (x 33), .int .u8 (x 34), .int .u8 (x 35), .int .u8 (x 36)]) = true := by kernel_rfl
theorem sum_run50 (x : Nat → Int) : okB [0, 1, 4] 32 .u8 (stB [.int .u8 (x 0), .int .u8 (x 1), .int .u8 (x 2), .int .u8 (x 3), .int .u8 (x 4), .int .u8 (x 5), .int .u8 (x 6), .int .u8 (x 7), .int .u8 (x 8), .int .u8 (x 9), .int .u8 (x 10), .int .u8 (x 11), .int .u8 (x 12), .int .u8 (x 13), .int .u8 (x 14), .int .u8 (x 15), .int .u8 (x 16), .int .u8 (x 17), .int .u8 (x 18), .int .u8 (x 19), .int .u8 (x 20), .int .u8 (x 21), .int .u8 (x 22), .int .u8 (x 23), .int .u8 (x 24), .int .u8 (x 25), .int .u8 (x 26), .int .u8 (x 27), .int .u8 (x 28), .int .u8 (x 29), .int .u8 (x 30), .int .u8 (x 31), .int .u8 (x 32), .int .u8 (x 33), .int .u8 (x 34), .int .u8 (x 35), .int .u8 (x 36), .int .u8 (x 37), .int .u8 (x 38), .int .u8 (x 39), .int .u8 (x 40), .int .u8 (x 41), .int .u8 (x 42), .int .u8 (x 43), .int .u8 (x 44), .int .u8 (x 45), .int .u8 (x 46), .int .u8 (x 47), .int .u8 (x 48), .int .u8 (x 49)]) (sumRun 50 [.int .u8 (x 0), .int .u8 (x 1), .int .u8 (x 2), .int .u8 (x 3), .int .u8 (x 4), .int .u8 (x 5), .int .u8 (x 6), .int .u8 (x 7), .int .u8 (x 8), .int .u8 (x 9), .int .u8 (x 10), .int .u8 (x 11), .int .u8 (x 12), .int .u8 (x 13), .int .u8 (x 14), .int .u8 (x 15), .int .u8 (x 16), .int .u8 (x 17), .int .u8 (x 18), .int .u8 (x 19), .int .u8 (x 20), .int .u8 (x 21), .int .u8 (x 22), .int .u8 (x 23), .int .u8 (x 24), .int .u8 (x 25), .int .u8 (x 26), .int .u8 (x 27), .int .u8 (x 28), .int .u8 (x 29), .int .u8 (x 30), .int .u8 (x 31), .int .u8 (x 32), .int .u8 (x 33), .int .u8 (x 34), .int .u8 (x 35), .int .u8 (x 36), .int .u8 (x 37), .int .u8 (x 38), .int .u8 (x 39), .int .u8 (x 40), .int .u8 (x 41), .int .u8 (x 42), .int .u8 (x 43), .int .u8 (x 44), .int .u8 (x 45), .int .u8 (x 46), .int .u8 (x 47), .int .u8 (x 48), .int .u8 (x 49)]) = true := by kernel_rfl
theorem sum_run73 (x : Nat → Int) : okB [0, 1, 4] 32 .u8 (stB [.int .u8 (x 0), .int .u8 (x 1), .int .u8 (x 2), .int .u8 (x 3), .int .u8 (x 4), .int .u8 (x 5), .int .u8 (x 6), .int .u8 (x 7), .int .u8 (x 8), .int .u8 (x 9), .int .u8 (x 10), .int .u8 (x 11), .int .u8 (x 12), .int .u8 (x 13), .int .u8 (x 14), .int .u8 (x 15), .int .u8 (x 16), .int .u8 (x 17), .int .u8 (x 18), .int .u8 (x 19), .int .u8 (x 20), .int .u8 (x 21), .int .u8 (x 22), .int .u8 (x 23), .int .u8 (x 24), .int .u8 (x 25), .int .u8 (x 26), .int .u8 (x 27), .int .u8 (x 28), .int .u8 (x 29), .int .u8 (x 30), .int .u8 (x 31), .int .u8 (x 32), .int .u8 (x 33), .int .u8 (x 34), .int .u8 (x 35), .int .u8 (x 36), .int .u8 (x 37), .int .u8 (x 38), .int .u8 (x 39), .int .u8 (x 40), .int .u8 (x 41), .int .u8 (x 42), .int .u8 (x 43), .int .u8 (x 44), .int .u8 (x 45), .int .u8 (x 46), .int .u8 (x 47), .int .u8 (x 48), .int .u8 (x 49), .int .u8 (x 50), .int .u8 (x 51), .int .u8 (x 52), .int .u8 (x 53), .int .u8 (x 54), .int .u8 (x 55), .int .u8 (x 56), .int .u8 (x 57), .int .u8 (x 58), .int .u8 (x 59), .int .u8 (x 60), .int .u8 (x 61), .int .u8 (x 62), .int .u8 (x 63), .int .u8 (x 64), .int .u8 (x 65), .int .u8 (x 66), .int .u8 (x 67), .int .u8 (x 68), .int .u8 (x 69), .int .u8 (x 70), .int .u8 (x 71), .int .u8 (x 72)]) (sumRun 73 [.int .u8 (x 0), .int .u8 (x 1), .int .u8 (x 2), .int .u8 (x 3), .int .u8 (x 4), .int .u8 (x 5), .int .u8 (x 6), .int .u8 (x 7), .int .u8 (x 8), .int .u8 (x 9), .int .u8 (x 10), .int .u8 (x 11), .int .u8 (x 12), .int .u8 (x 13), .int .u8 (x 14), .int .u8 (x 15), .int .u8 (x 16), .int .u8 (x 17), .int .u8 (x 18), .int .u8 (x 19), .int .u8 (x 20), .int .u8 (x 21), .int .u8 (x 22), .int .u8 (x 23), .int .u8 (x 24), .int .u8 (x 25), .int .u8 (x 26), .int .u8 (x 27), .int .u8 (x 28), .int .u8 (x 29), .int .u8 (x 30), .int .u8 (x 31), .int .u8 (x 32), .int .u8 (x 33), .int .u8 (x 34), .int .u8 (x 35), .int .u8 (x 36), .int .u8 (x 37), .int .u8 (x 38), .int .u8 (x 39), .int .u8 (x 40), .int .u8 (x 41), .int .u8 (x 42), .int .u8 (x 43), .int .u8 (x 44), .int .u8 (x 45), .int .u8 (x 46), .int .u8 (x 47), .int .u8 (x 48), .int .u8 (x 49), .int .u8 (x 50), .int .u8 (x 51), .int .u8 (x 52), .int .u8 (x 53), .int .u8 (x 54), .int .u8 (x 55), .int .u8 (x 56), .int .u8 (x 57), .int .u8 (x 58), .int .u8 (x 59), .int .u8 (x 60), .int .u8 (x 61), .int .u8 (x 62), .int .u8 (x 63), .int .u8 (x 64), .int .u8 (x 65), .int .u8 (x 66), .int .u8 (x 67), .int .u8 (x 68), .int .u8 (x 69), .int .u8 (x 70), .int .u8 (x 71), .int .u8 (x 72)]) = true := by kernel_rfl
theorem sum_run98 (x : Nat → Int) : okB [0, 1, 4] 32 .u8 (stB [.int .u8 (x 0), .int .u8 (x 1), .int .u8 (x 2), .int .u8 (x 3), .int .u8 (x 4), .int .u8 (x 5), .int .u8 (x 6), .int .u8 (x 7), .int .u8 (x 8), .int .u8 (x 9), .int .u8 (x 10), .int .u8 (x 11), .int .u8 (x 12), .int .u8 (x 13), .int .u8 (x 14), .int .u8 (x 15), .int .u8 (x 16), .int .u8 (x 17), .int .u8 (x 18), .int .u8 (x 19), .int .u8 (x 20), .int .u8 (x 21), .int .u8 (x 22), .int .u8 (x 23), .int .u8 (x 24), .int .u8 (x 25), .int .u8 (x 26), .int .u8 (x 27), .int .u8 (x 28), .int .u8 (x 29), .int .u8 (x 30), .int .u8 (x 31), .int .u8 (x 32), .int .u8 (x 33), .int .u8 (x 34), .int .u8 (x 35), .int .u8 (x 36), .int .u8 (x 37), .int .u8 (x 38), .int .u8 (x 39), .int .u8 (x 40), .int .u8 (x 41), .int .u8 (x 42), .int .u8 (x 43), .int .u8 (x 44), .int .u8 (x 45), .int .u8 (x 46), .int .u8 (x 47), .int .u8 (x 48), .int .u8 (x 49), .int .u8 (x 50), .int .u8 (x 51), .int .u8 (x 52), .int .u8 (x 53), .int .u8 (x 54), .int .u8 (x 55), .int .u8 (x 56), .int .u8 (x 57), .int .u8 (x 58), .int .u8 (x 59), .int .u8 (x 60), .int .u8 (x 61), .int .u8 (x 62), .int .u8 (x 63), .int .u8 (x 64), .int .u8 (x 65), .int .u8 (x 66), .int .u8 (x 67), .int .u8 (x 68), .int .u8 (x 69), .int .u8 (x 70), .int .u8 (x 71), .int .u8 (x 72), .int .u8 (x 73), .int .u8 (x 74), .int .u8 (x 75), .int .u8 (x 76), .int .u8 (x 77), .int .u8 (x 78), .int .u8 (x 79), .int .u8 (x 80), .int .u8 (x 81), .int .u8 (x 82), .int .u8 (x 83), .int .u8 (x 84), .int .u8 (x 85), .int .u8 (x 86), .int .u8 (x 87), .int .u8 (x 88), .int .u8 (x 89), .int .u8 (x 90), .int .u8 (x 91), .int .u8 (x 92), .int .u8 (x 93), .int .u8 (x 94), .int .u8 (x 95), .int .u8 (x 96), .int .u8 (x 97)]) (sumRun 98 [.int .u8 (x 0), .int .u8 (x 1), .int .u8 (x 2), .int .u8 (x 3), .int .u8 (x 4), .int .u8 (x 5), .int .u8 (x 6), .int .u8 (x 7), .int .u8 (x 8), .int .u8 (x 9), .int .u8 (x 10), .int .u8 (x 11), .int .u8 (x 12), .int .u8 (x 13), .int .u8 (x 14), .int .u8 (x 15), .int .u8 (x 16), .int .u8 (x 17), .int .u8 (x 18), .int .u8 (x 19), .int .u8 (x 20), .int .u8 (x 21), .int .u8 (x 22), .int .u8 (x 23), .int .u8 (x 24), .int .u8 (x 25), .int .u8 (x 26), .int .u8 (x 27), .int .u8 (x 28), .int .u8 (x 29), .int .u8 (x 30), .int .u8 (x 31), .int .u8 (x 32), .int .u8 (x 33), .int .u8 (x 34), .int .u8 (x 35), .int .u8 (x 36), .int .u8 (x 37), .int .u8 (x 38), .int .u8 (x 39), .int .u8 (x 40), .int .u8 (x 41), .int .u8 (x 42), .int .u8 (x 43), .int .u8 (x 44), .int .u8 (x 45), .int .u8 (x 46), .int .u8 (x 47), .int .u8 (x 48), .int .u8 (x 49), .int .u8 (x 50), .int .u8 (x 51), .int .u8 (x 52), .int .u8 (x 53), .int .u8 (x 54), .int .u8 (x 55), .int .u8 (x 56), .int .u8 (x 57), .int .u8 (x 58), .int .u8 (x 59), .int .u8 (x 60), .int .u8 (x 61), .int .u8 (x 62), .int .u8 (x 63), .int .u8 (x 64), .int .u8 (x 65), .int .u8 (x 66), .int .u8 (x 67), .int .u8 (x 68), .int .u8 (x 69), .int .u8 (x 70), .int .u8 (x 71), .int .u8 (x 72), .int .u8 (x 73), .int .u8 (x 74), .int .u8 (x 75), .int .u8 (x 76), .int .u8 (x 77), .int .u8 (x 78), .int .u8 (x 79), .int .u8 (x 80), .int .u8 (x 81), .int .u8 (x 82), .int .u8 (x 83), .int .u8 (x 84), .int .u8 (x 85), .int .u8 (x 86), .int .u8 (x 87), .int .u8 (x 88), .int .u8 (x 89), .int .u8 (x 90), .int .u8 (x 91), .int .u8 (x 92), .int .u8 (x 93), .int .u8 (x 94), .int .u8 (x 95), .int .u8 (x 96), .int .u8 (x 97)]) = true := by kernel_rfl
def sumLens : List Nat := [6, 37, 50, 73, 98]
theorem sum_run (n : Nat) (hn : n ∈ sumLens) (bs : List DVal) (hbs : okU .u8 n bs = true) : okB [0, 1, 4] 32 .u8 (stB bs) (sumRun n bs) = true := by
  have eb := (okU_facts hbs).2.2.2
  simp only [sumLens, List.mem_cons, List.not_mem_nil, or_false] at hn
  rcases hn with rfl | rfl | rfl | rfl | rfl
  · rw [eb]; exact sum_run6 (intAt bs)
  · rw [eb]; exact sum_run37 (intAt bs)
  · rw [eb]; exact sum_run50 (intAt bs)
  · rw [eb]; exact sum_run73 (intAt bs)
  · rw [eb]; exact sum_run98 (intAt bs)

def sumInt (bs : List DVal) (i : Nat) : Int :=
  match sumRun bs.length bs with
  | some (.agg l, _) => intAt l i
  | _ => 0
/-- SUM, as the machine may take it. -/
def sumOrc (args : List DVal) (m : DMem) : Option (DVal × DMem) :=
  match args with
  | [.slice (some (b, o)) n cap md] => match rcells m b o n with
    | some bs => match hasG m 0 cG0 && hasG m 1 cG2 && not (glH b) && sumLens.contains n && Nat.blt 0 n && Nat.ble n cap && okU .u8 n bs with
      | true => some (.agg [.int .u8 (sumInt bs 0), .int .u8 (sumInt bs 1), .int .u8 (sumInt bs 2), .int .u8 (sumInt bs 3), .int .u8 (sumInt bs 4), .int .u8 (sumInt bs 5), .int .u8 (sumInt bs 6), .int .u8 (sumInt bs 7), .int .u8 (sumInt bs 8), .int .u8 (sumInt bs 9), .int .u8 (sumInt bs 10), .int .u8 (sumInt bs 11), .int .u8 (sumInt bs 12), .int .u8 (sumInt bs 13), .int .u8 (sumInt bs 14), .int .u8 (sumInt bs 15), .int .u8 (sumInt bs 16), .int .u8 (sumInt bs 17), .int .u8 (sumInt bs 18), .int .u8 (sumInt bs 19), .int .u8 (sumInt bs 20), .int .u8 (sumInt bs 21), .int .u8 (sumInt bs 22), .int .u8 (sumInt bs 23), .int .u8 (sumInt bs 24), .int .u8 (sumInt bs 25), .int .u8 (sumInt bs 26), .int .u8 (sumInt bs 27), .int .u8 (sumInt bs 28), .int .u8 (sumInt bs 29), .int .u8 (sumInt bs 30), .int .u8 (sumInt bs 31)], m)
      | false => none
    | none => none
  | _ => none

theorem sumOrc_ok {gl : Nat → Bool} {orc : FuncId → Option (List DVal → DMem → Option (DVal × DMem))} (hgl : ∀ g, glH g = true → gl g = true) (args : List DVal) (m : DMem) (v : DVal) (m' : DMem) (h : sumOrc args m = some (v, m')) : CallTo (ctxOf gl orc) 65 args m v m' := by
  unfold sumOrc at h
  split at h
  · rename_i b o n cap md
    split at h
    · rename_i bs hr
      split at h
      · rename_i hc
        simp only [Option.some.injEq, Prod.mk.injEq] at h
        obtain ⟨rfl, rfl⟩ := h
        simp only [Bool.and_eq_true, Bool.not_eq_true'] at hc
        obtain ⟨⟨⟨⟨⟨⟨h0, h2⟩, hb⟩, hlen⟩, hpos⟩, hn⟩, hbs⟩ := hc
        have hl : bs.length = n := (okU_facts hbs).1
        have hrun := sum_run n (by simpa using hlen) bs hbs
        obtain ⟨l, m2, e1, e2, e3⟩ := okB_facts hrun
        have el := (okU_facts e2).2.2.2
        have hint : ∀ i, sumInt bs i = intAt l i := fun i => by unfold sumInt; rw [hl, e1]
        have el' : [.int .u8 (sumInt bs 0), .int .u8 (sumInt bs 1), .int .u8 (sumInt bs 2), .int .u8 (sumInt bs 3), .int .u8 (sumInt bs 4), .int .u8 (sumInt bs 5), .int .u8 (sumInt bs 6), .int .u8 (sumInt bs 7), .int .u8 (sumInt bs 8), .int .u8 (sumInt bs 9), .int .u8 (sumInt bs 10), .int .u8 (sumInt bs 11), .int .u8 (sumInt bs 12), .int .u8 (sumInt bs 13), .int .u8 (sumInt bs 14), .int .u8 (sumInt bs 15), .int .u8 (sumInt bs 16), .int .u8 (sumInt bs 17), .int .u8 (sumInt bs 18), .int .u8 (sumInt bs 19), .int .u8 (sumInt bs 20), .int .u8 (sumInt bs 21), .int .u8 (sumInt bs 22), .int .u8 (sumInt bs 23), .int .u8 (sumInt bs 24), .int .u8 (sumInt bs 25), .int .u8 (sumInt bs 26), .int .u8 (sumInt bs 27), .int .u8 (sumInt bs 28), .int .u8 (sumInt bs 29), .int .u8 (sumInt bs 30), .int .u8 (sumInt bs 31)] = l := by simp only [hint]; exact el.symm
        rw [el']
        exact (small_call (orc' := sumO) (p := []) (ctxOf_run sumO_ok e1) e2 e3 rfl (by rw [hl]; exact hbs) h0 h2 hb (by rw [hl]; exact hr) (by omega) (Nat.le_of_ble_eq_true hn) (Nat.le_of_ble_eq_true hpos)).widen hgl
      · cases h
    · cases h
  · cases h
end
end Go.DM
