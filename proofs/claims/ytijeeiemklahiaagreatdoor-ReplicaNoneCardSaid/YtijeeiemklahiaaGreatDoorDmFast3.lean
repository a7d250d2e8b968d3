/-
  The machine laid out for the kernel: regions, code, calls.
-/
import Derived.Test.YtijeeiemklahiaaGreatDoorDmFast2
namespace Go.DM
noncomputable section

def kdo (z : Bool) (dst : Option Nat) (op : Op) (c : Ctx) (call : Callee) (fr : Fr) (m : DMem) : Option (DSt × Option Nat) :=
  Option.rec none (fun d => Did.rec (motive := fun _ => Option (DSt × Option Nat)) (fun v m' at_ => some (⟨Option.rec fr (fun k => kput fr k v) dst, m'⟩, at_)) d) (kexec z op c call fr m)

def kstep (z : Bool) (o : Oper) : Ctx → Callee → Array Oper → DSt → Option (DSt × Option Nat) :=
  Oper.rec (motive := fun _ => Ctx → Callee → Array Oper → DSt → Option (DSt × Option Nat))
    (fun dst op ty pos after guard c call ops s => DSt.rec (motive := fun _ => Option (DSt × Option Nat)) (fun fr m => Option.rec (kdo z dst op c call fr m)
      (fun _ => Bool.rec (some (⟨dput fr dst dundef, m⟩, none)) (kdo z dst op c call fr m) (dwanted ops fr ⟨dst, op, ty, pos, after, guard⟩)) guard) s) o

theorem kdo_eq (z : Bool) (dst : Option Nat) (op : Op) (c : Ctx) (call : Callee) (fr : Fr) (m : DMem) : kdo z dst op c call fr m =
    match dexec c call (dev c.glob fr) m op with
      | some ⟨v, m', at_⟩ => some (⟨dput fr dst v, m'⟩, at_)
      | none => none := by
  unfold kdo
  rw [kexec_eq]
  cases dexec c call (dev c.glob fr) m op with
  | none => rfl
  | some d =>
    obtain ⟨v, m', a⟩ := d
    cases dst with
    | none => rfl
    | some k => show some (DSt.mk (kput fr k v) m', a) = some (DSt.mk (fr.put k v) m', a); rw [kput_eq]

theorem kstep_eq (z : Bool) (o : Oper) (c : Ctx) (call : Callee) (ops : Array Oper) (s : DSt) : kstep z o c call ops s = dstep c call ops o s := by
  obtain ⟨dst, op, ty, pos, after, guard⟩ := o
  obtain ⟨fr, m⟩ := s
  cases guard with
  | none => exact kdo_eq z dst op c call fr m
  | some g =>
    show (Bool.rec (some (⟨dput fr dst dundef, m⟩, none)) (kdo z dst op c call fr m) (dwanted ops fr ⟨dst, op, ty, pos, after, some g⟩) : Option (DSt × Option Nat)) = _
    unfold dstep
    simp only
    cases dwanted ops fr ⟨dst, op, ty, pos, after, some g⟩ with
    | false => rfl
    | true => exact kdo_eq z dst op c call fr m

def knext (z : Bool) (c : Ctx) (call : Callee) (ops : Array Oper) (o : Oper) (s : DSt) : Option DSt :=
  match c.pre o with
  | none => Option.rec none (fun p => dhint c call o p.1) (kstep z o c call ops s)
  | some p => match s with
    | ⟨fr, m⟩ => match dwanted ops fr o with
      | false => some ⟨dput fr o.dst dundef, m⟩
      | true => match p (dev c.glob fr) m with
        | none => none
        | some (v, P) => match call (.owe P) [v] m with
          | some (u, m') => some ⟨dput fr o.dst u, m'⟩
          | none => none
theorem knext_eq (z : Bool) (c : Ctx) (call : Callee) (ops : Array Oper) (o : Oper) (s : DSt) : knext z c call ops o s = dnext c call ops o s := by
  unfold knext dnext
  cases c.pre o with
  | none =>
    simp only [kstep_eq]
    cases dstep c call ops o s with
    | none => rfl
    | some p => rfl
  | some v => rfl

def kseq (z : Bool) (c : Ctx) (call : Callee) (ops : Array Oper) (l : List Oper) : DSt → Option DSt :=
  List.rec (motive := fun _ => DSt → Option DSt) (fun s => some s)
    (fun o _ ih s => Option.rec none ih (knext z c call ops o s)) l

theorem kseq_eq (z : Bool) (c : Ctx) (call : Callee) (ops : Array Oper) : ∀ (l : List Oper) (s : DSt), kseq z c call ops l s = dseq c call ops l s
  | [], s => rfl
  | o :: l, s => by
    show (Option.rec none (kseq z c call ops l) (knext z c call ops o s) : Option DSt) = _
    rw [knext_eq]
    unfold dseq
    cases dnext c call ops o s with
    | none => rfl
    | some s' => exact kseq_eq z c call ops l s'

def kgo (z : Bool) (c : Ctx) (call : Callee) (ops : Array Oper) (clo : T Nat) (l : List Nat) : List (Nat × Nat × Nat) → DSt → Option DSt :=
  List.rec (motive := fun _ => List (Nat × Nat × Nat) → DSt → Option DSt) (fun _ s => some s)
    (fun i _ ih pend s => Option.rec none (fun o => Option.rec none (fun p =>
      match isHeavy o.op with
      | true => match pendOk p.1.m ((clo.get i).getD 0) pend with
          | true => ih pend p.1
          | false => none
      | false => match p.2 with
          | some b => match p.1.m.ver b with
            | some v => ih ((i, b, v) :: pend) p.1
            | none => none
          | none => ih pend p.1) (kstep z o c call ops s)) ops[i]?) l

theorem kgo_eq (z : Bool) (c : Ctx) (call : Callee) (ops : Array Oper) (clo : T Nat) : ∀ (l : List Nat) (pend : List (Nat × Nat × Nat)) (s : DSt), kgo z c call ops clo l pend s = dgo c call ops clo l pend s
  | [], _, s => rfl
  | i :: l, pend, s => by
    show (Option.rec none (fun o => Option.rec none (fun p =>
      match isHeavy o.op with
      | true => match pendOk p.1.m ((clo.get i).getD 0) pend with
          | true => kgo z c call ops clo l pend p.1
          | false => none
      | false => match p.2 with
          | some b => match p.1.m.ver b with
            | some v => kgo z c call ops clo l ((i, b, v) :: pend) p.1
            | none => none
          | none => kgo z c call ops clo l pend p.1) (kstep z o c call ops s)) ops[i]? : Option DSt) = _
    unfold dgo
    cases ops[i]? with
    | none => rfl
    | some o =>
      simp only [kstep_eq]
      cases dstep c call ops o s with
      | none => rfl
      | some p =>
        obtain ⟨s', a⟩ := p
        simp only
        cases isHeavy o.op with
        | true =>
          simp only
          cases pendOk s'.m ((clo.get i).getD 0) pend with
          | true => exact kgo_eq z c call ops clo l pend s'
          | false => rfl
        | false =>
          simp only
          cases a with
          | none => exact kgo_eq z c call ops clo l pend s'
          | some b =>
            simp only
            cases s'.m.ver b with
            | none => rfl
            | some v => exact kgo_eq z c call ops clo l _ s'

def kregion (z : Bool) (c : Ctx) (call : Callee) (ops : Array Oper) (draw : Bool) (s : DSt) : Option DSt :=
  Bool.rec (kseq z c call ops ops.toList s)
    (Bool.rec none (kgo z c call ops (closure ops (orderGo ops ops.size 0) .leaf) (orderGo ops ops.size 0) [] s)
      (okOrder ops (orderGo ops ops.size 0) (closure ops (orderGo ops ops.size 0) .leaf))) draw

theorem kregion_eq (z : Bool) (c : Ctx) (call : Callee) (ops : Array Oper) (draw : Bool) (s : DSt) : kregion z c call ops draw s = dregion c call ops draw s := by
  cases draw with
  | false => exact kseq_eq z c call ops ops.toList s
  | true =>
    show (Bool.rec none (kgo z c call ops (closure ops (orderGo ops ops.size 0) .leaf) (orderGo ops ops.size 0) [] s)
      (okOrder ops (orderGo ops ops.size 0) (closure ops (orderGo ops ops.size 0) .leaf)) : Option DSt) = _
    unfold dregion
    simp only
    cases okOrder ops (orderGo ops ops.size 0) (closure ops (orderGo ops ops.size 0) .leaf) with
    | false => rfl
    | true => exact kgo_eq z _ _ _ _ _ _ _

/-- On behind an exit that is the normal one. -/
def kthen (r : Option (DExit × DSt)) (k : DSt → Option (DExit × DSt)) : Option (DExit × DSt) :=
  Option.rec none (fun p => DExit.rec (motive := fun _ => Option (DExit × DSt)) (k p.2) (fun i => some (.exit i, p.2)) (some (.ret, p.2)) p.1) r

def kloop (body : DSt → Option (DExit × DSt)) (n : Nat) : DSt → Option (DExit × DSt) :=
  Nat.rec (motive := fun _ => DSt → Option (DExit × DSt)) (fun _ => none) (fun _ ih s => kthen (body s) ih) n

theorem kloop_eq (body : DSt → Option (DExit × DSt)) : ∀ (n : Nat) (s : DSt), kloop body n s = loopN body n s
  | 0, _ => rfl
  | n + 1, s => by
    show kthen (body s) (kloop body n) = _
    unfold loopN kthen
    cases body s with
    | none => rfl
    | some p =>
      obtain ⟨x, s'⟩ := p
      cases x with
      | normal => exact kloop_eq body n s'
      | exit i => rfl
      | ret => rfl

def kcond (v : Option DVal) : (DSt → Option (DExit × DSt)) → (DSt → Option (DExit × DSt)) → DSt → Option (DExit × DSt) :=
  match v with
  | some (.bool q) => fun a b s => Bool.rec (b s) (a s) q
  | _ => fun _ _ _ => none

def kcode (z : Bool) (c : Ctx) (call : Callee) (fuel : Nat) (code : Code) : DSt → Option (DExit × DSt) :=
  Code.rec (motive := fun _ => DSt → Option (DExit × DSt))
    (fun s => some (.normal, s))
    (fun _ ops draw s => Option.rec none (fun s' => some (.normal, s')) (kregion z c call ops draw s))
    (fun _ _ a b s => kthen (a s) b)
    (fun q _ _ a b s => kcond (kev q c.glob s.fr) a b s)
    (fun id _ b s => Option.rec none (fun p => DExit.rec (motive := fun _ => Option (DExit × DSt)) (some (.normal, p.2)) (fun i => Bool.rec (some (.exit i, p.2)) (some (.normal, p.2)) (Nat.beq i id)) (some (.ret, p.2)) p.1) (b s))
    (fun b0 b s => Option.rec (kloop b fuel s) (fun g => match g s with
      | none => none
      | some (e, s', P) => match call (.owe P) [dundef] s'.m with
        | some (_, m') => some (e, ⟨s'.fr, m'⟩)
        | none => none) (c.lp b0))
    (fun _ _ _ _ _ _ _ => none)
    (fun id s => some (.exit id, s))
    (fun _ b s => b s)
    (fun _ s => some (.normal, s))
    (fun _ _ => none)
    (fun s => some (.ret, s))
    (fun _ _ => none) code

theorem kcode_eq (z : Bool) (c : Ctx) (call : Callee) (fuel : Nat) (code : Code) : ∀ s, kcode z c call fuel code s = dcode c call fuel code s := by
  induction code with
  | skip => intro s; rfl
  | region id ops draw =>
    intro s
    show (Option.rec none (fun s' => some (.normal, s')) (kregion z c call ops draw s) : Option (DExit × DSt)) = _
    rw [kregion_eq]
    unfold dcode
    cases dregion c call ops draw s <;> rfl
  | seq a b iha ihb =>
    intro s
    show kthen (kcode z c call fuel a s) (kcode z c call fuel b) = _
    rw [iha, show kcode z c call fuel b = dcode c call fuel b from funext ihb]
    conv => rhs; unfold dcode
    unfold kthen
    cases dcode c call fuel a s with
    | none => rfl
    | some p => obtain ⟨x, s'⟩ := p; cases x <;> rfl
  | cond q a b iha ihb =>
    intro s
    show kcond (kev q c.glob s.fr) (kcode z c call fuel a) (kcode z c call fuel b) s = _
    rw [kev_eq, show kcode z c call fuel b = dcode c call fuel b from funext ihb, show kcode z c call fuel a = dcode c call fuel a from funext iha]
    conv => rhs; unfold dcode
    cases dev c.glob s.fr q with
    | none => rfl
    | some v =>
      cases v with
      | bool q => cases q <;> rfl
      | _ => rfl
  | block id b ih =>
    intro s
    show (Option.rec none (fun p => DExit.rec (motive := fun _ => Option (DExit × DSt)) (some (.normal, p.2)) (fun i => Bool.rec (some (.exit i, p.2)) (some (.normal, p.2)) (Nat.beq i id)) (some (.ret, p.2)) p.1) (kcode z c call fuel b s) : Option (DExit × DSt)) = _
    rw [ih]
    conv => rhs; unfold dcode
    cases dcode c call fuel b s with
    | none => rfl
    | some p =>
      obtain ⟨x, s'⟩ := p
      cases x with
      | normal => rfl
      | exit i =>
        show (Bool.rec (some (.exit i, s')) (some (.normal, s')) (Nat.beq i id) : Option (DExit × DSt)) = match i == id with | true => some (.normal, s') | false => some (.exit i, s')
        rw [show (i == id) = Nat.beq i id by rw [Bool.eq_iff_iff]; simp]
        cases Nat.beq i id <;> rfl
      | ret => rfl
  | loop b ih =>
    intro s
    show (Option.rec (kloop (kcode z c call fuel b) fuel s) (fun g => match g s with
      | none => none
      | some (e, s', P) => match call (.owe P) [dundef] s'.m with
        | some (_, m') => some (e, ⟨s'.fr, m'⟩)
        | none => none) (c.lp b) : Option (DExit × DSt)) = _
    rw [kloop_eq, show kcode z c call fuel b = dcode c call fuel b from funext ih]
    conv => rhs; unfold dcode
    cases c.lp b <;> rfl
  | rangeFunc f ps a b _ _ => intro s; rfl
  | exit id => intro s; rfl
  | scope b ih =>
    intro s
    show kcode z c call fuel b s = _
    rw [ih]
    conv => rhs; unfold dcode
  | label l => intro s; rfl
  | goto l => intro s; rfl
  | ret => intro s; rfl
  | refuse w => intro s; rfl

def kbody (z : Bool) (c : Ctx) (call : Callee) (fuel : Nat) (fn : Func) (args : List DVal) (m : DMem) : Option (DVal × DMem) :=
  Option.rec none (fun code => match kcode z c call fuel code ⟨Fr.init args fn.ntmps, m⟩ with
    | some (.normal, s) | some (.ret, s) => match dresults c s fn.results.toList with
      | some vs => some (tup vs, s.m)
      | none => none
    | _ => none) fn.body

theorem kbody_eq (z : Bool) (c : Ctx) (call : Callee) (fuel : Nat) (fn : Func) (args : List DVal) (m : DMem) : kbody z c call fuel fn args m = dbody c call fuel fn args m := by
  unfold kbody dbody
  cases fn.body with
  | none => rfl
  | some code => simp only [kcode_eq]; rfl

def kcall (z : Bool) (c : Ctx) (n : Nat) : Callee :=
  Nat.rec (motive := fun _ => Callee) (fun _ _ _ => none)
    (fun n ih f args m => Key.rec (fun f => Option.rec (Option.rec none (fun fn => kbody z c ih n fn args m) (c.fn f)) (fun g => g args m) (c.orc f)) (fun P => dowe P args m) f) n

theorem kcall_eq (z : Bool) (c : Ctx) : ∀ n, kcall z c n = dcall c n
  | 0 => rfl
  | n + 1 => by
    funext f args m
    cases f with
    | owe P => rfl
    | fn f =>
      show (Option.rec (Option.rec none (fun fn => kbody z c (kcall z c n) n fn args m) (c.fn f)) (fun g => g args m) (c.orc f) : Option (DVal × DMem)) = _
      rw [kcall_eq z c n]
      unfold dcall
      simp only
      cases c.orc f with
      | some g => rfl
      | none =>
        cases c.fn f with
        | none => rfl
        | some fn => exact kbody_eq z _ _ _ _ _ _

end
end Go.DM
