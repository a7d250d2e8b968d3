/-
  A deterministic machine over Go's code: the definitions. (A simulation theorem, in other files, ties it to the model.)
-/
import Derived.Orders
import Derived.KernelRfl
import Derived.Scope
namespace Go.DM
noncomputable section

inductive Md where
  | exact
  | grow (esz : Nat)
  | ro
  deriving DecidableEq

inductive DVal where
  | bool (b : Bool)
  | int (k : IntKind) (n : Int)
  | str (s : List UInt8)
  | ptr (a : Option (Nat × Nat))
  | slice (a : Option (Nat × Nat)) (len cap : Nat) (md : Md)
  | map (r : Option Nat)
  | func (fn : Fn) (first captured : List DVal)
  | nilFunc
  | nilIface
  | view (a : Option (Nat × Nat)) (n : Nat)
  | agg (cs : List DVal)
  | tuple (vs : List DVal)

def DVal.cells : DVal → List DVal
  | .agg cs => cs
  | v => [v]

def isCell : DVal → Bool
  | .agg _ | .tuple _ => false
  | _ => true

def dundef : DVal := .tuple []

/-- A radix tree over numbers. -/
inductive T (α : Type) where
  | leaf : T α
  | node (v : Option α) (l r : T α) : T α

namespace T
variable {α : Type}
def getC : T α → Nat → Option α
  | .leaf, _ => none
  | .node v _ _, 0 => v
  | .node _ l r, k + 1 => match k % 2 with
    | 0 => l.getC (k / 2)
    | _ + 1 => r.getC (k / 2)

def setFC (x : α) : Nat → T α → Nat → T α
  | 0, t, _ => t
  | _ + 1, .leaf, 0 => .node (some x) .leaf .leaf
  | _ + 1, .node _ l r, 0 => .node (some x) l r
  | n + 1, .leaf, k + 1 => match k % 2 with
    | 0 => .node none (setFC x n .leaf (k / 2)) .leaf
    | _ + 1 => .node none .leaf (setFC x n .leaf (k / 2))
  | n + 1, .node v l r, k + 1 => match k % 2 with
    | 0 => .node v (setFC x n l (k / 2)) r
    | _ + 1 => .node v l (setFC x n r (k / 2))

def setC (t : T α) (k : Nat) (x : α) : T α := setFC x (k + 1) t k

theorem getC_setFC (x : α) : ∀ (n : Nat) (t : T α) (k : Nat), k < n → ∀ j, (setFC x n t k).getC j = if j = k then some x else t.getC j := by
  intro n
  induction n with
  | zero => intro t k h; omega
  | succ n ih =>
    intro t k h j
    cases t with
    | leaf =>
      cases k with
      | zero => cases j <;> simp [setFC, getC]
                split <;> simp
      | succ k =>
        have hk : k / 2 < n := by omega
        simp only [setFC]
        rcases hm : k % 2 with _ | m
        · cases j with
          | zero => simp [getC]
          | succ j =>
            rcases hj : j % 2 with _ | mj
            · simp only [getC, hj, ih _ _ hk]
              by_cases e : j = k
              · subst e; simp
              · have : j / 2 ≠ k / 2 := by omega
                simp [e, this]
            · simp only [getC, hj]
              have : j ≠ k := by intro e; subst e; omega
              simp [this]
        · cases j with
          | zero => simp [getC]
          | succ j =>
            rcases hj : j % 2 with _ | mj
            · simp only [getC, hj]
              have : j ≠ k := by intro e; subst e; omega
              simp [this]
            · simp only [getC, hj, ih _ _ hk]
              by_cases e : j = k
              · subst e; simp
              · have : j / 2 ≠ k / 2 := by omega
                simp [e, this]
    | node v l r =>
      cases k with
      | zero => cases j <;> simp [setFC, getC]
      | succ k =>
        have hk : k / 2 < n := by omega
        simp only [setFC]
        rcases hm : k % 2 with _ | m
        · cases j with
          | zero => simp [getC]
          | succ j =>
            rcases hj : j % 2 with _ | mj
            · simp only [getC, hj, ih _ _ hk]
              by_cases e : j = k
              · subst e; simp
              · have : j / 2 ≠ k / 2 := by omega
                simp [e, this]
            · simp only [getC, hj]
              have : j ≠ k := by intro e; subst e; omega
              simp [this]
        · cases j with
          | zero => simp [getC]
          | succ j =>
            rcases hj : j % 2 with _ | mj
            · simp only [getC, hj]
              have : j ≠ k := by intro e; subst e; omega
              simp [this]
            · simp only [getC, hj, ih _ _ hk]
              by_cases e : j = k
              · subst e; simp
              · have : j / 2 ≠ k / 2 := by omega
                simp [e, this]

theorem getC_setC (t : T α) (k : Nat) (x : α) (j : Nat) : (t.setC k x).getC j = if j = k then some x else t.getC j :=
  getC_setFC x _ t k (by omega) j

/-- The same by the bare recursor: the kernel runs it in fewer steps. 'p' is the place and one. -/
def getP (t : T α) : Nat → Option α :=
  T.rec (motive := fun _ => Nat → Option α) (fun _ => none)
    (fun v _ _ gl gr p => Bool.rec (Bool.rec (gr (Nat.div p 2)) (gl (Nat.div p 2)) (Nat.beq (Nat.mod p 2) 0)) v (Nat.beq p 1)) t

def setP (x : α) (t : T α) : Nat → T α :=
  T.rec (motive := fun _ => Nat → T α) (fun p => setFC x p .leaf (Nat.pred p))
    (fun v l r gl gr p => Bool.rec (Bool.rec (.node v l (gr (Nat.div p 2))) (.node v (gl (Nat.div p 2)) r) (Nat.beq (Nat.mod p 2) 0)) (.node (some x) l r) (Nat.beq p 1)) t

def get (t : T α) (k : Nat) : Option α := getP t (Nat.succ k)
def set (t : T α) (k : Nat) (x : α) : T α := setP x t (Nat.succ k)

theorem beq_one (k : Nat) : Nat.beq (k + 1 + 1) 1 = false := rfl

theorem getP_eq (t : T α) : ∀ k, getP t (k + 1) = getC t k := by
  induction t with
  | leaf => intro k; rfl
  | node v l r il ir =>
    intro k
    cases k with
    | zero => rfl
    | succ k =>
      have e1 : Nat.div (k + 1 + 1) 2 = k / 2 + 1 := by show (k + 1 + 1) / 2 = _; omega
      have e2 : Nat.mod (k + 1 + 1) 2 = k % 2 := by show (k + 1 + 1) % 2 = _; omega
      show (Bool.rec (Bool.rec (getP r (Nat.div (k + 1 + 1) 2)) (getP l (Nat.div (k + 1 + 1) 2)) (Nat.beq (Nat.mod (k + 1 + 1) 2) 0)) v (Nat.beq (k + 1 + 1) 1) : Option α) = _
      rw [e1, e2, beq_one, il, ir]
      simp only [getC]
      rcases hm : k % 2 with _ | m
      · rfl
      · rfl

theorem setFC_fuel (x : α) : ∀ (n n' : Nat) (t : T α) (k : Nat), k < n → k < n' → setFC x n t k = setFC x n' t k := by
  intro n
  induction n with
  | zero => intro n' t k h; omega
  | succ n ih =>
    intro n' t k h h'
    obtain ⟨n', rfl⟩ : ∃ q, n' = q + 1 := ⟨n' - 1, by omega⟩
    cases k with
    | zero => cases t <;> simp only [setFC]
    | succ k =>
      cases t with
      | leaf => simp only [setFC]; rw [ih n' .leaf (k / 2) (by omega) (by omega)]
      | node v l r => simp only [setFC]; rw [ih n' l (k / 2) (by omega) (by omega), ih n' r (k / 2) (by omega) (by omega)]

theorem setP_eq (x : α) (t : T α) : ∀ k, setP x t (k + 1) = setC t k x := by
  induction t with
  | leaf => intro k; rfl
  | node v l r il ir =>
    intro k
    cases k with
    | zero => rfl
    | succ k =>
      have e1 : Nat.div (k + 1 + 1) 2 = k / 2 + 1 := by show (k + 1 + 1) / 2 = _; omega
      have e2 : Nat.mod (k + 1 + 1) 2 = k % 2 := by show (k + 1 + 1) % 2 = _; omega
      show (Bool.rec (Bool.rec (.node v l (setP x r (Nat.div (k + 1 + 1) 2))) (.node v (setP x l (Nat.div (k + 1 + 1) 2)) r) (Nat.beq (Nat.mod (k + 1 + 1) 2) 0)) (.node (some x) l r) (Nat.beq (k + 1 + 1) 1) : T α) = _
      rw [e1, e2, beq_one, il, ir]
      simp only [setC, setFC]
      rcases hm : k % 2 with _ | m
      · show T.node v (setFC x (k / 2 + 1) l (k / 2)) r = _
        rw [setFC_fuel x (k / 2 + 1) (k + 1) l (k / 2) (by omega) (by omega)]
      · show T.node v l (setFC x (k / 2 + 1) r (k / 2)) = _
        rw [setFC_fuel x (k / 2 + 1) (k + 1) r (k / 2) (by omega) (by omega)]

theorem get_csimp : @get = @getC := by funext α t k; exact getP_eq t k
theorem set_csimp : @set = @setC := by funext α t k x; exact setP_eq x t k

theorem get_set (t : T α) (k : Nat) (x : α) (j : Nat) : (t.set k x).get j = if j = k then some x else t.get j := by
  rw [get_csimp, set_csimp]; exact getC_setC t k x j
theorem get_leaf (k : Nat) : (T.leaf : T α).get k = none := rfl
end T

inductive DObj where
  | cells (c : List DVal) (elem : TypeId) (ver : Nat)
  | map (es : List (DVal × DVal)) (ver : Nat)
  | ro (c : List DVal)
  | dead

structure DMem where
  t : T DObj
  size : Nat
  /-- What a run still owes (only what stands for a call adds to it). -/
  ob : List Prop

namespace DMem
def get (m : DMem) (b : Nat) : Option DObj := m.t.get b
def put (m : DMem) (b : Nat) (o : DObj) : DMem := match m with | ⟨t, s, ob⟩ => ⟨t.set b o, s, ob⟩
def alloc (m : DMem) (o : DObj) : DMem := match m with | ⟨t, s, ob⟩ => ⟨t.set s o, s + 1, ob⟩
end DMem

def splice {α : Type} : List α → Nat → List α → List α
  | c, 0, vs => vs ++ c.drop vs.length
  | x :: c, n + 1, vs => x :: splice c n vs
  | [], _ + 1, _ => []

/-- 'n' cells of block 'b' from 'o' on. -/
def rcells (m : DMem) (b o n : Nat) : Option (List DVal) :=
  match m.get b with
  | some (.cells c _ _) =>
    match Nat.ble (o + n) c.length with
    | true => some ((c.drop o).take n)
    | false => none
  | some (.ro c) =>
    match Nat.ble (o + n) c.length with
    | true => some ((c.drop o).take n)
    | false => none
  | _ => none

def wcells (m : DMem) (b o : Nat) (vs : List DVal) : Option DMem :=
  match m.get b with
  | some (.cells c e ver) =>
    match Nat.ble (o + vs.length) c.length with
    | true => some (m.put b (.cells (splice c o vs) e (ver + 1)))
    | false => none
  | _ => none

/-- What is known of a type. -/
structure TI where
  desc : TypeDesc
  size : Nat
  bytes : Nat
  zero : List DVal

def TI.isAgg (i : TI) : Bool :=
  match i.desc with
  | .struct _ | .array _ _ => true
  | _ => false

/-- A frame's slots. -/
structure Fr where
  t : T DVal
  n : Nat

structure DSt where
  fr : Fr
  m : DMem

inductive DExit where
  | normal
  | exit (id : Nat)
  | ret

structure Ctx where
  P : Program
  ty : TypeId → Option TI
  fn : FuncId → Option Func
  orc : FuncId → Option (List DVal → DMem → Option (DVal × DMem))
  glob : Nat → Bool
  /-- A value that is laid in the place of an operation's (the two are owed to be one). -/
  hint : Oper → Option DVal
  /-- The value of an operation that is not reckoned, and what is owed for it. -/
  pre : Oper → Option ((Operand → Option DVal) → DMem → Option (DVal × Prop))
  /-- What a loop comes to, and what is owed for it. -/
  lp : Code → Option (DSt → Option (DExit × DSt × Prop))

mutual
def ofConst : Value → Option DVal
  | .bool b => some (.bool b)
  | .int k n => some (.int k n)
  | .string s => some (.str s.data.toList)
  | .pointer none => some (.ptr none)
  | .slice none 0 0 => some (.slice none 0 0 .exact)
  | .map none => some (.map none)
  | .nilFunc => some .nilFunc
  | .nilIface => some .nilIface
  | .agg ⟨cs⟩ => (ofConsts cs).map .agg
  | .tuple ⟨cs⟩ => (ofConsts cs).map .tuple
  | _ => none
def ofConsts : List Value → Option (List DVal)
  | [] => some []
  | v :: vs => match ofConst v, ofConsts vs with
    | some d, some ds => some (d :: ds)
    | _, _ => none
end

def Fr.get? (fr : Fr) (k : Nat) : Option DVal :=
  match Nat.blt k fr.n with
  | true => match fr.t.get k with
    | some v => some v
    | none => some dundef
  | false => none

def Fr.getD (fr : Fr) (k : Nat) : DVal :=
  match fr.get? k with
  | some v => v
  | none => dundef

def Fr.put (fr : Fr) (k : Nat) (v : DVal) : Fr :=
  match fr with
  | ⟨t, n⟩ => match Nat.blt k n with
    | true => ⟨t.set k v, n⟩
    | false => ⟨t, n⟩

def Fr.args : T DVal → Nat → List DVal → T DVal
  | t, _, [] => t
  | t, k, v :: vs => Fr.args (t.set k v) (k + 1) vs

/-- A frame at a function's begin. -/
def Fr.init (args : List DVal) (n : Nat) : Fr := ⟨Fr.args .leaf 0 args, args.length + (n - args.length)⟩

def dev (gl : Nat → Bool) (fr : Fr) : Operand → Option DVal
  | .tmp t => some (fr.getD t)
  | .const v => ofConst v
  | .global g => match gl g with
    | true => some (.ptr (some (g, 0)))
    | false => none
  | .func f => some (.func (.func f) [] [])

def devs (ev : Operand → Option DVal) : List Operand → Option (List DVal)
  | [] => some []
  | x :: xs => match ev x, devs ev xs with
    | some d, some ds => some (d :: ds)
    | _, _ => none

/-- Equality, by the type. -/
def deqT (c : Ctx) : Nat → TypeId → DVal → DVal → Option Bool
  | 0, _, _, _ => none
  | d + 1, t, x, y =>
    match c.ty t with
    | none => none
    | some i =>
      match i.desc, x, y with
      | .bool, .bool a, .bool b => some (a == b)
      | .int _, .int k a, .int k' b => if k = k' then some (a == b) else none
      | .string, .str a, .str b => some (a == b)
      | .array n e, .agg xs, .agg ys =>
        match c.ty e with
        | none => none
        | some ie => (List.range n).foldlM (fun (acc : Bool) j =>
            match acc with
            | false => some false
            | true =>
              if ie.isAgg then deqT c d e (.agg ((xs.drop (j * ie.size)).take ie.size)) (.agg ((ys.drop (j * ie.size)).take ie.size))
              else match xs[j * ie.size]?, ys[j * ie.size]? with
                | some u, some v => deqT c d e u v
                | _, _ => none) true
      | .struct fs, .agg xs, .agg ys =>
        fs.toList.foldlM (fun (acc : Bool) f =>
            match acc with
            | false => some false
            | true =>
              match c.ty f.type with
              | none => none
              | some ie =>
                if ie.isAgg then deqT c d f.type (.agg ((xs.drop f.offset).take ie.size)) (.agg ((ys.drop f.offset).take ie.size))
                else match xs[f.offset]?, ys[f.offset]? with
                  | some u, some v => deqT c d f.type u v
                  | _, _ => none) true
      | _, _, _ => none

/-- May values of a type be compared by 'deqT'? -/
def eqable (P : Program) : Nat → TypeId → Bool
  | 0, _ => false
  | d + 1, t =>
    match P.underlying t with
    | some .bool | some (.int _) | some .string => true
    | some (.array _ e) => eqable P d e
    | some (.struct fs) => !P.stoodInHeld t && fs.toList.all fun f => f.name != "_" && eqable P d f.type
    | _ => false

def dint (op : BinOp) (k : IntKind) (a b : Int) : Option DVal :=
  match op with
  | .add => some (.int k (k.wrap (a + b)))
  | .sub => some (.int k (k.wrap (a - b)))
  | .mul => some (.int k (k.wrap (a * b)))
  | .quo => if b = 0 then none else some (.int k (k.wrap (a.tdiv b)))
  | .rem => if b = 0 then none else some (.int k (a.tmod b))
  | .and => some (.int k (k.wrap (BitVec.ofInt k.bits a &&& BitVec.ofInt k.bits b).toNat))
  | .or => some (.int k (k.wrap (BitVec.ofInt k.bits a ||| BitVec.ofInt k.bits b).toNat))
  | .xor => some (.int k (k.wrap (BitVec.ofInt k.bits a ^^^ BitVec.ofInt k.bits b).toNat))
  | .andNot => some (.int k (k.wrap (BitVec.ofInt k.bits a &&& ~~~ BitVec.ofInt k.bits b).toNat))
  | .eql => some (.bool (a == b))
  | .neq => some (.bool (a != b))
  | .lss => some (.bool (decide (a < b)))
  | .leq => some (.bool (decide (a ≤ b)))
  | .gtr => some (.bool (decide (a > b)))
  | .geq => some (.bool (decide (a ≥ b)))
  | _ => none

def dshift (op : BinOp) (k : IntKind) (a b : Int) : Option DVal :=
  if b < 0 then none else
  match op with
  | .shl => some (.int k (k.wrap (a * 2 ^ (min b.toNat k.bits))))
  | .shr => some (.int k (a.fdiv (2 ^ (min b.toNat k.bits))))
  | _ => none

/-- '==' on values that are no numbers. -/
def deq (c : Ctx) (t : TypeId) (x y : DVal) : Option Bool :=
  match x, y with
  | .str a, .str b => some (a == b)
  | .bool a, .bool b => match c.ty t with
    | some ⟨.bool, _, _, _⟩ => some (a == b)
    | _ => none
  | .ptr none, .ptr b => match c.ty t with
    | some ⟨.pointer _, _, _, _⟩ => some b.isNone
    | _ => none
  | .ptr a, .ptr none => match c.ty t with
    | some ⟨.pointer _, _, _, _⟩ => some a.isNone
    | _ => none
  | .slice none _ _ _, .slice b _ _ _ => match c.ty t with
    | some ⟨.slice _, _, _, _⟩ => some b.isNone
    | _ => none
  | .slice (some _) _ _ _, .slice none _ _ _ => match c.ty t with
    | some ⟨.slice _, _, _, _⟩ => some false
    | _ => none
  | .agg xs, .agg ys => match eqable c.P 20 t with
    | true => deqT c 20 t (.agg xs) (.agg ys)
    | false => none
  | _, _ => none

def dbin (c : Ctx) (op : BinOp) (t : TypeId) (x y : DVal) : Option DVal :=
  match x, y with
  | .int k a, .int k' b =>
    match op with
    | .shl | .shr => dshift op k a b
    | _ => if k = k' then dint op k a b else none
  | x, y =>
    match op with
    | .eql => (deq c t x y).map .bool
    | .neq => (deq c t x y).map fun b => .bool (!b)
    | _ => none

def dun (op : UnOp) (x : DVal) : Option DVal :=
  match op, x with
  | .neg, .int k n => some (.int k (k.wrap (0 - n)))
  | .xor, .int k n => dint .xor k (if k.signed then -1 else k.max) n
  | .not, .bool b => some (.bool (!b))
  | _, _ => none

def asNat (v : DVal) (most : Nat) : Option Nat :=
  match v with
  | .int _ n => if 0 ≤ n ∧ n ≤ most then some n.toNat else none
  | _ => none

def optAsNat (v : Option DVal) (dflt most : Nat) : Option Nat :=
  match v with
  | none => some dflt
  | some v => asNat v most

/-- The bounds of a slice expression: from, to, and the greatest. -/
def dbounds (len cap : Nat) (lo hi mx : Option DVal) : Option (Nat × Nat × Nat) :=
  match optAsNat mx cap cap with
  | none => none
  | some m =>
    match hi, mx with
    | none, some _ => none
    | _, _ =>
      match optAsNat hi len m with
      | none => none
      | some h =>
        match optAsNat lo 0 h with
        | none => none
        | some l => some (l, h, m)

def oev (ev : Operand → Option DVal) (x : Option Operand) : Option (Option DVal) :=
  match x with
  | none => some none
  | some x => (ev x).map some

def dslice (c : Ctx) (t : TypeId) (x : DVal) (lo hi mx : Option DVal) : Option DVal :=
  match c.ty t with
  | none => none
  | some i =>
    match i.desc, x with
    | .string, .str s =>
      match mx with
      | some _ => none
      | none =>
        match dbounds s.length s.length lo hi none with
        | some (l, h, _) => some (.str ((s.drop l).take (h - l)))
        | none => none
    | .array n e, .ptr (some (b, o)) =>
      match c.ty e, dbounds n n lo hi mx with
      | some ie, some (l, h, m) => some (.slice (some (if m = l then (b, o) else (b, o + l * ie.size))) (h - l) (m - l) .exact)
      | _, _ => none
    | .slice e, .slice a len cap md =>
      match c.ty e, dbounds len cap lo hi mx with
      | some ie, some (l, h, m) =>
        match a with
        | none => some (.slice none 0 0 .exact)
        | some p =>
          match md with
          | .exact => some (.slice (some (if m = l then p else (p.1, p.2 + l * ie.size))) (h - l) (m - l) .exact)
          | .grow z =>
            match mx with
            | some _ => some (.slice (some (if m = l then p else (p.1, p.2 + l * ie.size))) (h - l) (m - l) .exact)
            | none =>
              match Nat.ble h cap, Nat.beq ie.size z with
              | true, true =>
                if l = 0 then some (.slice (some p) h cap (.grow z))
                else if l = cap then some (.slice (some p) 0 0 .ro)
                else some (.slice (some (p.1, p.2 + l * ie.size)) (h - l) (cap - l) (.grow z))
              | _, _ => none
          | .ro =>
            match mx with
            | some _ => none
            | none =>
              match Nat.ble h cap with
              | true =>
                if l = cap then some (.slice (some p) 0 0 .ro)
                else some (.slice (some (p.1, p.2 + l * ie.size)) (h - l) (cap - l) .ro)
              | false => none
      | _, _ => none
    | _, _ => none

/-- A part of an aggregate's cells. -/
def dpart (i : TI) (cs : List DVal) (off : Nat) : Option DVal :=
  if i.isAgg then some (.agg ((cs.drop off).take i.size)) else cs[off]?

def dfill (place : Nat → Option (Nat × Nat)) (cs : List DVal) : List (Nat × DVal) → Option (List DVal)
  | [] => some cs
  | (i, v) :: rest =>
    match place i with
    | none => none
    | some (off, size) =>
      if v.cells.length ≠ size ∨ off + v.cells.length > cs.length then none
      else dfill place (splice cs off v.cells) rest

def sizes (c : Ctx) : List Field → Option (List (Nat × Nat))
  | [] => some []
  | f :: fs => match c.ty f.type, sizes c fs with
    | some i, some r => some ((f.offset, i.size) :: r)
    | _, _ => none

def devp (ev : Operand → Option DVal) : List (Nat × Operand) → Option (List (Nat × DVal))
  | [] => some []
  | (i, x) :: xs => match ev x, devp ev xs with
    | some d, some ds => some ((i, d) :: ds)
    | _, _ => none

def dbuild (c : Ctx) (t : TypeId) (parts : List (Nat × DVal)) : Option DVal :=
  match c.ty t with
  | none => none
  | some i =>
    match parts.all fun p => p.2.cells.all isCell with
    | false => none
    | true =>
    match i.desc with
    | .struct fs =>
      match sizes c fs.toList with
      | none => none
      | some ps => (dfill (ps[·]?) i.zero parts).map .agg
    | .array _ e =>
      match c.ty e with
      | none => none
      | some ie => (dfill (fun i => some (i * ie.size, ie.size)) i.zero parts).map .agg
    | _ => none

def dmin : List DVal → Option DVal
  | .int k x :: rest => rest.foldlM (fun a b => match a, b with
      | .int k x, .int k' y => if k = k' then some (.int k (if y < x then y else x)) else none
      | _, _ => none) (.int k x)
  | _ => none
def dmax : List DVal → Option DVal
  | .int k x :: rest => rest.foldlM (fun a b => match a, b with
      | .int k x, .int k' y => if k = k' then some (.int k (if y > x then y else x)) else none
      | _, _ => none) (.int k x)
  | _ => none

/-- The operations that touch no memory. -/
def dpure (c : Ctx) (ev : Operand → Option DVal) : Op → Option DVal
  | .move x | .assign x => ev x
  | .pick q a b =>
    match ev q with
    | some (.bool true) => ev a
    | some (.bool false) => ev b
    | _ => none
  | .nilCheck x =>
    match ev x with
    | some (.ptr (some a)) => some (.ptr (some a))
    | some (.func (.func f) a b) => some (.func (.func f) a b)
    | _ => none
  | .binOp op t x y _ =>
    match ev x, ev y with
    | some a, some b => dbin c op t a b
    | _, _ => none
  | .unOp op _ x =>
    match ev x with
    | some a => dun op a
    | none => none
  | .convert src dst x =>
    match c.ty src, c.ty dst, ev x with
    | some _, some ⟨.int k, _, _, _⟩, some (.int _ n) => some (.int k (k.wrap n))
    | some _, some ⟨.string, _, _, _⟩, some (.str s) => some (.str s)
    | _, _, _ => none
  | .sliceToArrayPointer arr x =>
    match c.ty arr, ev x with
    | some ⟨.array n _, _, _, _⟩, some (.slice (some a) len cap _) => if n ≤ len ∧ 0 < cap then some (.ptr (some a)) else none
    | _, _ => none
  | .fieldAddr s x f =>
    match c.ty s, ev x with
    | some ⟨.struct fs, _, _, _⟩, some (.ptr (some (b, o))) =>
      match fs[f]? with
      | some fd =>
        match c.ty fd.type with
        | some i => if i.size = 0 then none else some (.ptr (some (b, o + fd.offset)))
        | none => none
      | none => none
    | _, _ => none
  | .indexAddr t x ix =>
    match c.ty t, ev x, ev ix with
    | some ⟨.array n e, _, _, _⟩, some (.ptr (some (b, o))), some (.int _ i) =>
      match c.ty e with
      | some ie => if 0 ≤ i ∧ i < n then some (.ptr (some (b, o + i.toNat * ie.size))) else none
      | none => none
    | some ⟨.slice e, _, _, _⟩, some (.slice (some (b, o)) len _ _), some (.int _ i) =>
      match c.ty e with
      | some ie => if 0 ≤ i ∧ i < len then some (.ptr (some (b, o + i.toNat * ie.size))) else none
      | none => none
    | some ⟨.slice e, _, _, _⟩, some (.view (some (b, o)) len), some (.int _ i) =>
      match c.ty e with
      | some ie => if 0 ≤ i ∧ i < len then some (.ptr (some (b, o + i.toNat * ie.size))) else none
      | none => none
    | _, _, _ => none
  | .slice t x lo hi mx =>
    match ev x, oev ev lo, oev ev hi, oev ev mx with
    | some v, some l, some h, some m => dslice c t v l h m
    | _, _, _, _ => none
  | .index t x ix =>
    match c.ty t, ev x, ev ix with
    | some ⟨.array n e, _, _, _⟩, some (.agg cs), some (.int _ i) =>
      match c.ty e with
      | some ie => if 0 ≤ i ∧ i < n then dpart ie cs (i.toNat * ie.size) else none
      | none => none
    | some ⟨.string, _, _, _⟩, some (.str s), some (.int _ i) =>
      if 0 ≤ i then match s[i.toNat]? with
        | some b => some (.int .u8 b.toNat)
        | none => none
      else none
    | _, _, _ => none
  | .field t x f =>
    match c.ty t, ev x with
    | some ⟨.struct fs, _, _, _⟩, some (.agg cs) =>
      match fs[f]? with
      | some fd =>
        match c.ty fd.type with
        | some i => dpart i cs fd.offset
        | none => none
      | none => none
    | _, _ => none
  | .extract t ix =>
    match ev t with
    | some (.tuple vs) => vs[ix]?
    | _ => none
  | .build t parts =>
    match devp ev parts.toList with
    | some ps => dbuild c t ps
    | none => none
  | .makeFunc fn first captured =>
    match devs ev first.toList, devs ev captured.toList with
    | some a, some b => some (.func fn a b)
    | _, _ => none
  | .call ⟨.builtin .len, args, tys⟩ =>
    match devs ev args.toList, tys[0]? with
    | some [x], some t =>
      match c.ty t, x with
      | some ⟨.string, _, _, _⟩, .str s => some (.int .i64 s.length)
      | some ⟨.array n _, _, _, _⟩, _ => some (.int .i64 n)
      | some ⟨.slice _, _, _, _⟩, .slice _ n _ _ => some (.int .i64 n)
      | some ⟨.slice _, _, _, _⟩, .view _ n => some (.int .i64 n)
      | _, _ => none
    | _, _ => none
  | .call ⟨.builtin .cap, args, tys⟩ =>
    match devs ev args.toList, tys[0]? with
    | some [x], some t =>
      match c.ty t, x with
      | some ⟨.array n _, _, _, _⟩, _ => some (.int .i64 n)
      | some ⟨.slice _, _, _, _⟩, .slice _ _ n .exact => some (.int .i64 n)
      | _, _ => none
    | _, _ => none
  | .call ⟨.builtin .min, args, _⟩ =>
    match devs ev args.toList with
    | some xs => dmin xs
    | none => none
  | .call ⟨.builtin .max, args, _⟩ =>
    match devs ev args.toList with
    | some xs => dmax xs
    | none => none
  | _ => none

/-- Bytes out of cells. -/
def bytesOf : List DVal → Option (List UInt8)
  | [] => some []
  | .int .u8 n :: vs => match bytesOf vs with
    | some bs => some (UInt8.ofNat n.toNat :: bs)
    | none => none
  | _ => none

/-- A key's place among a map's entries. -/
def dfind (k : DVal) : List (DVal × DVal) → Option (Option DVal)
  | [] => some none
  | (k', v) :: es =>
    match k, k' with
    | .int kk a, .int kk' b => if kk = kk' then (if a = b then some (some v) else dfind k es) else none
    | .str a, .str b => if a = b then some (some v) else dfind k es
    | _, _ => none

def dins (k v : DVal) : List (DVal × DVal) → Option (List (DVal × DVal))
  | [] => some [(k, v)]
  | (k', v') :: es =>
    match k, k' with
    | .int kk a, .int kk' b => if kk = kk' then (if a = b then some ((k, v) :: es) else (dins k v es).map ((k', v') :: ·)) else none
    | .str a, .str b => if a = b then some ((k, v) :: es) else (dins k v es).map ((k', v') :: ·)
    | _, _ => none

def keyOk (c : Ctx) (kt : TypeId) (k : DVal) : Bool :=
  match c.ty kt, k with
  | some ⟨.int _, _, _, _⟩, .int _ _ => true
  | some ⟨.string, _, _, _⟩, .str _ => true
  | _, _ => false

/-- The blocks at which an operation looks (of those that look at memory alone), and what it gives. -/
def dread (c : Ctx) (ev : Operand → Option DVal) (m : DMem) : Op → Option (DVal × Nat)
  | .load t x =>
    match c.ty t, ev x with
    | some i, some (.ptr (some (b, o))) =>
      if i.isAgg then (rcells m b o i.size).map fun cs => (.agg cs, b)
      else match rcells m b o 1 with
        | some [v] => some (v, b)
        | _ => none
    | _, _ => none
  | .lookup t x ix ok =>
    match c.ty t, ev x, ev ix with
    | some ⟨.map kt et, _, _, _⟩, some (.map (some r)), some k =>
      match c.ty et, keyOk c kt k, m.get r with
      | some ie, true, some (.map es _) =>
        match dfind k es with
        | some (some v) => some (if ok then .tuple [v, .bool true] else v, r)
        | some none =>
          let z : DVal := if ie.isAgg then .agg ie.zero else ie.zero.getD 0 dundef
          some (if ok then .tuple [z, .bool false] else z, r)
        | none => none
      | _, _, _ => none
    | _, _, _ => none
  | .call ⟨.builtin .len, args, tys⟩ =>
    match devs ev args.toList, tys[0]? with
    | some [.map (some r)], some t =>
      match c.ty t, m.get r with
      | some ⟨.map _ _, _, _, _⟩, some (.map es _) => some (.int .i64 es.length, r)
      | _, _ => none
    | _, _ => none
  | .convert src dst x =>
    match c.ty src, c.ty dst, ev x with
    | some ⟨.slice e, _, _, _⟩, some ⟨.string, _, _, _⟩, some (.slice (some (b, o)) len _ _) =>
      match c.ty e, rcells m b o len with
      | some ⟨.int .u8, _, _, _⟩, some cs => match bytesOf cs with
        | some bs => some (.str bs, b)
        | none => none
      | _, _ => none
    | _, _, _ => none
  | _ => none

def repeatCells (z : List DVal) : Nat → List DVal
  | 0 => []
  | n + 1 => z ++ repeatCells z n

/-- The operations that make one block: what is in it, and what the operation gives where it lies in block 'n'. -/
def dalloc (c : Ctx) (ev : Operand → Option DVal) (n : Nat) : Op → Option (DVal × DObj)
  | .alloc e =>
    match c.ty e with
    | some i => some (.ptr (some (n, 0)), .cells i.zero e 0)
    | none => none
  | .box e x =>
    match ev x with
    | some v => match v.cells.all isCell with
      | true => some (.ptr (some (n, 0)), .cells v.cells e 0)
      | false => none
    | none => none
  | .buildSlice t len parts =>
    match c.ty t, devp ev parts.toList with
    | some ⟨.slice e, _, _, _⟩, some ps =>
      match c.ty e with
      | some ie =>
        if len * ie.size > 2 ^ 24 ∨ ie.size = 0 ∨ (ps.all fun p => p.2.cells.all isCell) = false then none
        else match dfill (fun i => some (i * ie.size, ie.size)) (repeatCells ie.zero len) ps with
          | some cs => some (.slice (some (n, 0)) len len .exact, .cells cs e 0)
          | none => none
      | none => none
    | _, _ => none
  | .makeSlice t l cp =>
    match c.ty t, ev l, ev cp with
    | some ⟨.slice e, _, _, _⟩, some (.int .i64 a), some (.int .i64 b) =>
      match c.ty e with
      | some ie =>
        if 0 ≤ a ∧ a ≤ b ∧ b * ie.bytes ≤ 2 ^ 40 ∧ b ≤ 2 ^ 40 ∧ ie.size ≠ 0 then
          some (.slice (some (n, 0)) a.toNat b.toNat .exact, .cells (repeatCells ie.zero b.toNat) e 0)
        else none
      | none => none
    | _, _, _ => none
  | .makeMap _ none => some (.map (some n), .map [] 0)
  | .convert src dst x =>
    match c.ty src, c.ty dst, ev x with
    | some _, some ⟨.slice e, _, _, _⟩, some (.str s) =>
      match c.ty e with
      | some ⟨.int .u8, _, _, _⟩ => some (.slice (some (n, 0)) s.length s.length (.grow 1), .cells (s.map fun b => .int .u8 b.toNat) e 0)
      | _ => none
    | _, _, _ => none
  | _ => none

/-- The cells of an append's or a copy's source. -/
def srcCells (m : DMem) (size n : Nat) : DVal → Option (List DVal)
  | .slice (some (b, o)) _ _ _ => rcells m b o (n * size)
  | .slice none _ _ _ => some []
  | .str s => match size with
    | 1 => some ((s.take n).map fun b => .int .u8 b.toNat)
    | _ => none
  | _ => none

def srcLen : DVal → Option Nat
  | .slice _ n _ _ => some n
  | .str s => some s.length
  | _ => none

def wmaybe (m : DMem) (a : Option (Nat × Nat)) (off : Nat) (vs : List DVal) : Option DMem :=
  match vs, a with
  | [], _ => some m
  | _ :: _, some (b, o) => wcells m b (o + off) vs
  | _ :: _, none => none

def isSliceOrStr (c : Ctx) (t : TypeId) : Bool :=
  match c.ty t with
  | some ⟨.slice _, _, _, _⟩ | some ⟨.string, _, _, _⟩ => true
  | _ => false

def isIntTy (c : Ctx) (t : TypeId) : Bool :=
  match c.ty t with
  | some ⟨.int _, _, _, _⟩ => true
  | _ => false

/-- What is appended: how many elements, and their cells. -/
def dnew (c : Ctx) (ie : TI) (m : DMem) (xt : TypeId) (x : DVal) : Option (Nat × List DVal) :=
  match isSliceOrStr c xt with
  | true => match srcLen x with
    | some n => match srcCells m ie.size n x with
      | some new => some (n, new)
      | none => none
    | none => none
  | false => match isIntTy c xt, x with
    | true, .int .i64 n => if 0 ≤ n ∧ n ≤ 2 ^ 40 ∧ n * ie.bytes ≤ 2 ^ 40 ∧ ie.size ≠ 0 then some (n.toNat, repeatCells ie.zero n.toNat) else none
    | _, _ => none

/-- An append of 'n' elements with the cells 'new'. -/
def dgrow (e : TypeId) (ie : TI) (a : Option (Nat × Nat)) (len cap : Nat) (md : Md) (n : Nat) (new : List DVal) (m : DMem) : Option (DVal × DMem) :=
  match Nat.ble (len + n) cap with
  | true => (wmaybe m a (len * ie.size) new).map fun m' => (.slice a (len + n) cap md, m')
  | false =>
    match Nat.ble ((len + n) * ie.bytes) (2 ^ 40), Nat.ble (len + n) (2 ^ 40), ie.size with
    | true, true, z + 1 =>
      match srcCells m (z + 1) len (.slice a len cap md) with
      | none => none
      | some old =>
        match md, a with
        | .exact, _ => some (.slice (some (m.size, 0)) (len + n) (len + n) (.grow (z + 1)), m.alloc (.cells (old ++ new) e 0))
        | .grow z', some (b, o) =>
          match m.get b with
          | some (.cells cs _ _) =>
            match Nat.beq z' (z + 1), Nat.beq (o + cap * z') cs.length, Nat.blt b m.size with
            | true, true, true => some (.slice (some (m.size, 0)) (len + n) (len + n) (.grow (z + 1)), (m.alloc (.cells (old ++ new) e 0)).put b .dead)
            | _, _, _ => none
          | _ => none
        | _, _ => none
    | _, _, _ => none

def dappend (c : Ctx) (tys : List TypeId) (args : List DVal) (m : DMem) : Option (DVal × DMem) :=
  match tys, args with
  | [st, xt], [.slice a len cap md, x] =>
    match c.ty st with
    | some ⟨.slice e, _, _, _⟩ =>
      match c.ty e with
      | none => none
      | some ie =>
        match dnew c ie m xt x with
        | some (n, new) => dgrow e ie a len cap md n new m
        | none => none
    | _ => none
  | _, _ => none

def dcopy (c : Ctx) (tys : List TypeId) (args : List DVal) (m : DMem) : Option (DVal × DMem) :=
  match tys, args with
  | dt :: _, [.slice a len _ _, x] =>
    match c.ty dt, srcLen x with
    | some ⟨.slice e, _, _, _⟩, some n =>
      match c.ty e with
      | none => none
      | some ie =>
        match srcCells m ie.size (min n len) x with
        | none => none
        | some new => (wmaybe m a 0 new).map fun m' => (.int .i64 (min n len : Nat), m')
    | _, _ => none
  | _, _ => none

/-- The operations that write, but calls. -/
def dheavy (c : Ctx) (ev : Operand → Option DVal) (m : DMem) : Op → Option (DVal × DMem)
  | .store t x v =>
    match c.ty t, ev x, ev v with
    | some i, some (.ptr (some (b, o))), some v =>
      if v.cells.length = i.size ∧ v.cells.all isCell = true then (wcells m b o v.cells).map fun m' => (dundef, m') else none
    | _, _, _ => none
  | .mapUpdate t x k v | .insert t x k v =>
    match c.ty t, ev x, ev k, ev v with
    | some ⟨.map kt _, _, _, _⟩, some (.map (some r)), some k, some v =>
      match keyOk c kt k, m.get r with
      | true, some (.map es ver) => match dins k v es with
        | some es' => some (dundef, m.put r (.map es' (ver + 1)))
        | none => none
      | _, _ => none
    | _, _, _, _ => none
  | .convert src dst x =>
    match c.ty src, ev x with
    | some ⟨.slice e, _, _, _⟩, some (.slice (some (b, o)) len cap md) =>
      match Nat.beq src dst, c.ty e, m.get b, cap with
      | true, some ⟨.int .u8, _, _, _⟩, some (.cells cs el ver), _ + 1 => some (.slice (some (b, o)) len cap md, m.put b (.cells cs el (ver + 1)))
      | _, _, _, _ => none
    | _, _ => none
  | .call ⟨.builtin .append, args, tys⟩ =>
    match devs ev args.toList with
    | some as => dappend c tys.toList as m
    | none => none
  | .call ⟨.builtin .copy, args, tys⟩ =>
    match devs ev args.toList with
    | some as => dcopy c tys.toList as m
    | none => none
  | _ => none

/-- What a call goes to: a function, and the arguments. -/
def dtarget (ev : Operand → Option DVal) : Op → Option (FuncId × List DVal)
  | .call ⟨.value f, args, _⟩ =>
    match ev f, devs ev args.toList with
    | some (.func (.func g) first captured), some as => some (g, first ++ as ++ captured)
    | _, _ => none
  | _ => none

/-- What kind of operation it is: 0 touches no memory, 1 reads, 2 makes a block, 3 writes, 4 calls. -/
def kindOf : Op → Nat
  | .move _ | .assign _ | .pick .. | .nilCheck _ | .binOp .. | .unOp .. | .sliceToArrayPointer .. | .fieldAddr .. | .indexAddr .. | .slice .. | .index ..
  | .field .. | .extract .. | .build .. | .makeFunc .. => 0
  | .call ⟨.builtin .len, _, _⟩ | .call ⟨.builtin .cap, _, _⟩ | .call ⟨.builtin .min, _, _⟩ | .call ⟨.builtin .max, _, _⟩ => 0
  | .load .. | .lookup .. => 1
  | .alloc _ | .box .. | .buildSlice .. | .makeSlice .. | .makeMap .. => 2
  | .store .. | .mapUpdate .. | .insert .. | .call ⟨.builtin .append, _, _⟩ | .call ⟨.builtin .copy, _, _⟩ => 3
  | .call ⟨.value _, _, _⟩ => 4
  | _ => 5

/-- A function by its number; or what is to be owed (its one argument is handed back). -/
inductive Key where
  | fn (f : FuncId)
  | owe (P : Prop)
abbrev Callee := Key → List DVal → DMem → Option (DVal × DMem)

/-- What an operation did: its value, the memory behind it, the block that it looked at or made ('none': none that matters), whether it is heavy. -/
structure Did where
  v : DVal
  m : DMem
  at_ : Option Nat

def dexec (c : Ctx) (call : Callee) (ev : Operand → Option DVal) (m : DMem) (op : Op) : Option Did :=
  match dpure c ev op with
  | some v => some ⟨v, m, none⟩
  | none =>
    match dread c ev m op with
    | some (v, b) => some ⟨v, m, some b⟩
    | none =>
      match dalloc c ev m.size op with
      | some (v, o) => some ⟨v, m.alloc o, some m.size⟩
      | none =>
        match dheavy c ev m op with
        | some (v, m') => some ⟨v, m', none⟩
        | none =>
          match dtarget ev op with
          | some (f, as) => (call (.fn f) as m).map fun r => ⟨r.1, r.2, none⟩
          | none => none

end
end Go.DM
