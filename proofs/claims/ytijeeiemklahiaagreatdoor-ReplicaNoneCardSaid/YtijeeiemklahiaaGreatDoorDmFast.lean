/-
  The deterministic machine, laid out so that the kernel runs it in fewer steps: each arm of a match is closed, whole numbers are reckoned by the kernel's own naturals. 'kcall_eq': it is the same machine.
-/
import Derived.Test.YtijeeiemklahiaaGreatDoorDmRun
namespace Go.DM
noncomputable section

def kmod (k : IntKind) : Nat := IntKind.casesOn (motive := fun _ => Nat) k 256 65536 4294967296 18446744073709551616 256 65536 4294967296 18446744073709551616
def kmax (k : IntKind) : Nat := IntKind.casesOn (motive := fun _ => Nat) k 127 32767 2147483647 9223372036854775807 255 65535 4294967295 18446744073709551615

/-- A natural as a literal. -/
def kforce (k : IntKind) (r : Nat) : DVal := Nat.rec (motive := fun _ => DVal) (.int k (.ofNat 0)) (fun p _ => .int k (.ofNat (Nat.succ p))) r

theorem kforce_eq (k : IntKind) (r : Nat) : kforce k r = .int k (.ofNat r) := by cases r <;> rfl

def kwrapped (k : IntKind) (n : Nat) : DVal :=
  match k.wrap (.ofNat n) with
  | .ofNat r => kforce k r
  | .negSucc r => .int k (.negSucc r)

/-- A natural, wrapped. -/
def knorm (k : IntKind) (n : Nat) : DVal :=
  Bool.rec (kforce k (Nat.mod n (kmod k))) (Bool.rec (kwrapped k n) (kforce k n) (Nat.ble n (kmax k))) k.signed

theorem kwrapped_eq (k : IntKind) (n : Nat) : kwrapped k n = .int k (k.wrap (.ofNat n)) := by
  unfold kwrapped
  split
  · rename_i r h; rw [kforce_eq, h]
  · rename_i r h; rw [h]

theorem knorm_eq (k : IntKind) (n : Nat) : knorm k n = .int k (k.wrap (.ofNat n)) := by
  unfold knorm
  cases hs : k.signed with
  | false =>
    show kforce k (n % kmod k) = _
    rw [kforce_eq]
    congr 1
    cases k <;> first | (exact absurd hs (by decide)) | (simp only [IntKind.wrap, IntKind.signed, IntKind.bits, kmod, Bool.false_and, Bool.false_eq_true, if_false]; rfl)
  | true =>
    show (Bool.rec (kwrapped k n) (kforce k n) (Nat.ble n (kmax k)) : DVal) = _
    cases hb : Nat.ble n (kmax k) with
    | false => exact kwrapped_eq k n
    | true =>
      have hle : n ≤ kmax k := Nat.le_of_ble_eq_true hb
      show kforce k n = _
      rw [kforce_eq]
      congr 1
      cases k <;> first
        | (exact absurd hs (by decide))
        | (simp only [kmax] at hle
           simp only [IntKind.wrap, IntKind.signed, IntKind.bits, Bool.true_and, Int.ofNat_eq_natCast]
           rw [if_neg (by simp; omega)]
           omega)

/-- The bits of a natural within a kind. -/
def kint (op : BinOp) (k : IntKind) (a b : Int) : Option DVal :=
  Int.rec (motive := fun _ => Option DVal)
    (fun x => Int.rec (motive := fun _ => Option DVal)
      (fun y => match op with
        | .add => some (knorm k (Nat.add x y))
        | .sub => Bool.rec (dint .sub k (.ofNat x) (.ofNat y)) (some (knorm k (Nat.sub x y))) (Nat.ble y x)
        | .mul => some (knorm k (Nat.mul x y))
        | .quo => Bool.rec (some (knorm k (Nat.div x y))) none (Nat.beq y 0)
        | .rem => Bool.rec (some (kforce k (Nat.mod x y))) none (Nat.beq y 0)
        | .and => some (knorm k (Nat.land (Nat.mod x (kmod k)) (Nat.mod y (kmod k))))
        | .or => some (knorm k (Nat.lor (Nat.mod x (kmod k)) (Nat.mod y (kmod k))))
        | .xor => some (knorm k (Nat.xor (Nat.mod x (kmod k)) (Nat.mod y (kmod k))))
        | .eql => some (.bool (Nat.beq x y))
        | .neq => some (.bool (not (Nat.beq x y)))
        | .lss => some (.bool (Nat.blt x y))
        | .leq => some (.bool (Nat.ble x y))
        | .gtr => some (.bool (Nat.blt y x))
        | .geq => some (.bool (Nat.ble y x))
        | op => dint op k (.ofNat x) (.ofNat y))
      (fun y => dint op k (.ofNat x) (.negSucc y)) b)
    (fun x => dint op k (.negSucc x) b) a

theorem kmod_eq (k : IntKind) : kmod k = 2 ^ k.bits := by cases k <;> rfl
theorem blt_decide (x y : Nat) : Nat.blt x y = decide ((x : Int) < (y : Int)) := by
  rw [Bool.eq_iff_iff]
  simp only [decide_eq_true_eq, Int.ofNat_lt]
  exact ⟨fun h => Nat.le_of_ble_eq_true h, fun h => Nat.ble_eq_true_of_le h⟩
theorem ble_decide (x y : Nat) : Nat.ble x y = decide ((x : Int) ≤ (y : Int)) := by
  rw [Bool.eq_iff_iff]
  simp only [decide_eq_true_eq, Int.ofNat_le]
  exact ⟨fun h => Nat.le_of_ble_eq_true h, fun h => Nat.ble_eq_true_of_le h⟩
theorem beq_beq (x y : Nat) : Nat.beq x y = ((x : Int) == (y : Int)) := by
  rw [Bool.eq_iff_iff]
  simp only [Nat.beq_eq, beq_iff_eq]
  exact Int.ofNat_inj.symm

theorem kint_eq (op : BinOp) (k : IntKind) (a b : Int) : kint op k a b = dint op k a b := by
  cases a with
  | negSucc x => rfl
  | ofNat x =>
    cases b with
    | negSucc y => rfl
    | ofNat y =>
      cases op with
      | add => show some (knorm k (x + y)) = _; rw [knorm_eq]; rfl
      | sub =>
        show (Bool.rec (dint .sub k (.ofNat x) (.ofNat y)) (some (knorm k (x - y))) (Nat.ble y x) : Option DVal) = _
        cases hb : Nat.ble y x with
        | false => rfl
        | true =>
          have := Nat.le_of_ble_eq_true hb
          show some (knorm k (x - y)) = _
          rw [knorm_eq]
          show _ = some (DVal.int k (k.wrap ((x : Int) - (y : Int))))
          rw [show (x : Int) - (y : Int) = Int.ofNat (x - y) by simp; omega]
      | mul => show some (knorm k (x * y)) = _; rw [knorm_eq]; rfl
      | quo =>
        show (Bool.rec (some (knorm k (x / y))) none (Nat.beq y 0) : Option DVal) = _
        cases y with
        | zero => rfl
        | succ y => show some (knorm k (x / (y + 1))) = _; rw [knorm_eq]; rfl
      | rem =>
        show (Bool.rec (some (kforce k (x % y))) none (Nat.beq y 0) : Option DVal) = _
        cases y with
        | zero => rfl
        | succ y => show some (kforce k (x % (y + 1))) = _; rw [kforce_eq]; rfl
      | and =>
        show some (knorm k ((x % kmod k) &&& (y % kmod k))) = _
        rw [knorm_eq, kmod_eq]
        simp [dint]
      | or =>
        show some (knorm k ((x % kmod k) ||| (y % kmod k))) = _
        rw [knorm_eq, kmod_eq]
        simp [dint]
      | xor =>
        show some (knorm k ((x % kmod k) ^^^ (y % kmod k))) = _
        rw [knorm_eq, kmod_eq]
        simp [dint]
      | eql => show some (DVal.bool (Nat.beq x y)) = some (DVal.bool ((x : Int) == (y : Int))); rw [beq_beq]
      | neq => show some (DVal.bool (!(Nat.beq x y))) = some (DVal.bool ((x : Int) != (y : Int))); rw [beq_beq]; rfl
      | lss => show some (DVal.bool (Nat.blt x y)) = some (DVal.bool (decide ((x : Int) < (y : Int)))); rw [blt_decide]
      | leq => show some (DVal.bool (Nat.ble x y)) = some (DVal.bool (decide ((x : Int) ≤ (y : Int)))); rw [ble_decide]
      | gtr => show some (DVal.bool (Nat.blt y x)) = some (DVal.bool (decide ((y : Int) < (x : Int)))); rw [blt_decide]
      | geq => show some (DVal.bool (Nat.ble y x)) = some (DVal.bool (decide ((y : Int) ≤ (x : Int)))); rw [ble_decide]
      | shl => rfl
      | shr => rfl
      | andNot => rfl

def kshift (op : BinOp) (k : IntKind) (a b : Int) : Option DVal :=
  Int.rec (motive := fun _ => Option DVal)
    (fun x => Int.rec (motive := fun _ => Option DVal)
      (fun y => Bool.rec (dshift op k (.ofNat x) (.ofNat y)) (match op with
        | .shl => some (knorm k (Nat.mul x (Nat.pow 2 y)))
        | .shr => some (kforce k (Nat.div x (Nat.pow 2 y)))
        | _ => none) (Nat.ble y k.bits))
      (fun y => dshift op k (.ofNat x) (.negSucc y)) b)
    (fun x => dshift op k (.negSucc x) b) a

theorem kshift_eq (op : BinOp) (k : IntKind) (a b : Int) : kshift op k a b = dshift op k a b := by
  cases a with
  | negSucc x => rfl
  | ofNat x =>
    cases b with
    | negSucc y => rfl
    | ofNat y =>
      show (Bool.rec (dshift op k (.ofNat x) (.ofNat y)) (match op with
        | .shl => some (knorm k (Nat.mul x (Nat.pow 2 y)))
        | .shr => some (kforce k (Nat.div x (Nat.pow 2 y)))
        | _ => none) (Nat.ble y k.bits) : Option DVal) = _
      cases hb : Nat.ble y k.bits with
      | false => rfl
      | true =>
        have hle := Nat.le_of_ble_eq_true hb
        have hneg : ¬ (Int.ofNat y < 0) := by simp
        have hmin : min (Int.ofNat y).toNat k.bits = y := by simp; omega
        unfold dshift
        rw [if_neg hneg]
        cases op with
        | shl =>
          show some (knorm k (x * 2 ^ y)) = some (DVal.int k (k.wrap ((x : Int) * 2 ^ (min (Int.ofNat y).toNat k.bits))))
          rw [knorm_eq, hmin]
          have : (x : Int) * 2 ^ y = Int.ofNat (x * 2 ^ y) := by simp
          rw [this]
        | shr =>
          show some (kforce k (x / 2 ^ y)) = some (DVal.int k ((x : Int).fdiv (2 ^ (min (Int.ofNat y).toNat k.bits))))
          rw [kforce_eq, hmin]
          have : (x : Int).fdiv (2 ^ y) = Int.ofNat (x / 2 ^ y) := by
            rw [Int.fdiv_eq_ediv_of_nonneg _ (by exact_mod_cast Nat.zero_le _)]; simp
          rw [this]
        | _ => rfl

/-- 'z': numbers without a sign are left unreckoned (they may be variables). -/
def kintz (z : Bool) (op : BinOp) (k : IntKind) (a b : Int) : Option DVal :=
  Bool.rec (kint op k a b) (Bool.rec (dint op k a b) (kint op k a b) k.signed) z
def kshiftz (z : Bool) (op : BinOp) (k : IntKind) (a b : Int) : Option DVal :=
  Bool.rec (kshift op k a b) (dshift op k a b) z

theorem kintz_eq (z : Bool) (op : BinOp) (k : IntKind) (a b : Int) : kintz z op k a b = dint op k a b := by
  unfold kintz
  cases z with
  | false => exact kint_eq _ _ _ _
  | true => cases k.signed with
    | false => rfl
    | true => exact kint_eq _ _ _ _
theorem kshiftz_eq (z : Bool) (op : BinOp) (k : IntKind) (a b : Int) : kshiftz z op k a b = dshift op k a b := by
  unfold kshiftz
  cases z with
  | false => exact kshift_eq _ _ _ _
  | true => rfl

def kbin (x : DVal) : DVal → Bool → Ctx → BinOp → TypeId → Option DVal :=
  match x with
  | .int k a => fun y => match y with
    | .int k' b => fun z _ op _ => match op with
      | .shl => kshiftz z .shl k a b
      | .shr => kshiftz z .shr k a b
      | op => Bool.rec none (kintz z op k a b) (decide (k = k'))
    | y => fun _ c op t => dbin c op t (.int k a) y
  | x => fun y _ c op t => dbin c op t x y

theorem kbin_eq (z : Bool) (c : Ctx) (op : BinOp) (t : TypeId) (x y : DVal) : kbin x y z c op t = dbin c op t x y := by
  cases x with
  | int k a =>
    cases y with
    | int k' b =>
      have e : ∀ op : BinOp, (Bool.rec none (kintz z op k a b) (decide (k = k')) : Option DVal) = if k = k' then dint op k a b else none := by
        intro op
        by_cases h : k = k'
        · rw [if_pos h, decide_eq_true h]; exact kintz_eq z op k a b
        · rw [if_neg h, decide_eq_false h]
      cases op <;> first | exact e _ | exact kshiftz_eq _ _ _ _ _
    | _ => rfl
  | _ => rfl

def kasNat (v : DVal) : Nat → Option Nat :=
  match v with
  | .int _ n => fun most => Int.rec (motive := fun _ => Option Nat) (fun x => Bool.rec none (some x) (Nat.ble x most)) (fun _ => none) n
  | _ => fun _ => none

theorem kasNat_eq (v : DVal) (most : Nat) : kasNat v most = asNat v most := by
  cases v with
  | int k n =>
    cases n with
    | negSucc x => unfold asNat; simp only; rw [if_neg (by simp)]; rfl
    | ofNat x =>
      show (Bool.rec none (some x) (Nat.ble x most) : Option Nat) = if 0 ≤ Int.ofNat x ∧ Int.ofNat x ≤ most then some (Int.ofNat x).toNat else none
      cases hb : Nat.ble x most with
      | true =>
        have := Nat.le_of_ble_eq_true hb
        rw [if_pos ⟨by simp, by simpa using this⟩]; rfl
      | false =>
        rw [if_neg]
        intro ⟨_, h⟩
        have : x ≤ most := by simpa using h
        rw [Nat.ble_eq_true_of_le this] at hb; cases hb
  | _ => rfl

def koptAsNat (v : Option DVal) (dflt most : Nat) : Option Nat := Option.rec (some dflt) (fun v => kasNat v most) v
theorem koptAsNat_eq (v : Option DVal) (dflt most : Nat) : koptAsNat v dflt most = optAsNat v dflt most := by
  cases v with
  | none => rfl
  | some v => exact kasNat_eq v most

/-- A part of a slice, without a third bound. -/
def kslice (x : DVal) : Ctx → TypeId → Option DVal → Option DVal → Option DVal → Option DVal :=
  match x with
  | .slice (some p) len cap .ro => fun c t lo hi mx => match c.ty t with
    | some ⟨.slice e, _, _, _⟩ => match c.ty e with
      | some ie => match mx with
        | none => match koptAsNat hi len cap with
          | some h => match koptAsNat lo 0 h with
            | some l => match Nat.ble h cap with
              | true => Bool.rec (some (.slice (some (p.1, p.2 + l * ie.size)) (h - l) (cap - l) .ro)) (some (.slice (some p) 0 0 .ro)) (Nat.beq l cap)
              | false => none
            | none => none
          | none => none
        | some m => dslice c t (.slice (some p) len cap .ro) lo hi (some m)
      | none => none
    | _ => none
  | x => fun c t lo hi mx => dslice c t x lo hi mx

theorem kslice_eq (x : DVal) (c : Ctx) (t : TypeId) (lo hi mx : Option DVal) : kslice x c t lo hi mx = dslice c t x lo hi mx := by
  cases x with
  | slice a len cap md =>
    cases a with
    | none => rfl
    | some p =>
      cases md with
      | exact => rfl
      | grow z => rfl
      | ro =>
        simp only [kslice]
        cases mx with
        | some m =>
          unfold dslice
          cases c.ty t with
          | none => rfl
          | some i =>
            obtain ⟨d, a1, a2, a3⟩ := i
            cases d <;> first | rfl | skip
            rename_i e
            simp only
            cases c.ty e with
            | none => rfl
            | some ie => rfl
        | none =>
          simp only [koptAsNat_eq]
          unfold dslice dbounds
          cases c.ty t with
          | none => rfl
          | some i =>
            obtain ⟨d, a1, a2, a3⟩ := i
            cases d <;> first | rfl | skip
            rename_i e
            simp only
            cases c.ty e with
            | none => rfl
            | some ie =>
              have e1 : optAsNat none cap cap = some cap := rfl
              simp only [e1]
              cases hh : optAsNat hi len cap with
              | none => cases hi <;> rfl
              | some h =>
                have e2 : (match hi, (none : Option DVal) with
                  | none, some _ => none
                  | _, _ => match some h with
                    | none => none
                    | some h => match optAsNat lo 0 h with
                      | none => none
                      | some l => some (l, h, cap)) = match optAsNat lo 0 h with
                      | none => none
                      | some l => some (l, h, cap) := by cases hi <;> rfl
                simp only
                cases optAsNat lo 0 h with
                | none => rfl
                | some l =>
                  simp only
                  cases Nat.ble h cap with
                  | false => rfl
                  | true =>
                    simp only
                    by_cases hl : l = cap
                    · subst hl
                      rw [if_pos rfl, show Nat.beq l l = true from Nat.beq_refl l]
                    · rw [if_neg hl]
                      cases hb : Nat.beq l cap with
                      | false => rfl
                      | true => exact absurd (Nat.eq_of_beq_eq_true hb) hl
  | _ => rfl

end
end Go.DM
