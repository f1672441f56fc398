/-
  The verification conditions of Go code, over the model's Code: 'vc' is reckoned along the text, and 'vc_sound' says that it serves 'Code.wp'. No program in sight.
-/
import Derived.Orders
import Derived.KernelRfl
import Derived.Laws.Sem
import Derived.Laws.World
namespace Go.Proofs.Ythhpdcegkbfijaa.V
set_option linter.all false
set_option linter.unusedVariables false
set_option linter.unusedSimpArgs false
set_option linter.unnecessarySimpa false

abbrev Env := Nat → Value
abbrev Post := Exit → Env → World → Prop
abbrev Kv := Value → World → Prop

def upd (ρ : Env) (d : Nat) (v : Value) : Env := fun t => bif Nat.beq t d then v else ρ t
def updO (ρ : Env) : Option Nat → Value → Env
  | some d, v => upd ρ d v
  | none, _ => ρ
def ev (ρ : Env) : Operand → Value
  | .tmp t => ρ t
  | .const v => v
  | .global g => .pointer (some ⟨g, 0, none⟩)
  | .func f => .func (.func f) #[] #[]

/-! ### What an operation yields -/
/-- A reckoning that only the values decide. -/
def pv (o : Option Value) (w : World) (K : Kv) : Prop := match o with | some v => K v w | none => False
/-- Whatever the model's own run gives. -/
def sv (P : Program) (s : Sem Value) (w : World) (K : Kv) : Prop := match s.run P w with | .ok v w' => K v w' | .halt _ _ => False
def su (P : Program) (s : Sem Unit) (w : World) (K : Kv) : Prop := match s.run P w with | .ok _ w' => K undef w' | .halt _ _ => False
/-- A call that returns. -/
def Ret (P : Program) (f : FuncId) (args : Array Value) (w : World) (R : Kv) : Prop := Calls P f args w fun e w' => ∃ v, e = .returned v ∧ R v w'
theorem Ret.mono {P : Program} {f : FuncId} {args : Array Value} {w : World} {R R' : Kv} (h : Ret P f args w R) (hr : ∀ v w', R v w' → R' v w') : Ret P f args w R' :=
  Calls.mono h fun e w' ⟨v, he, hv⟩ => ⟨v, he, hr v w' hv⟩
/-- A call through a function value. -/
def dcal (P : Program) (fv : Value) (args : Array Value) (w : World) (K : Kv) : Prop :=
  ∃ f first cap, fv = .func (.func f) first cap ∧ (∀ w, (callFunc f (first ++ args ++ cap)).run P w = .ok (.enter f (first ++ args ++ cap)) w) ∧ Ret P f (first ++ args ++ cap) w K

def pkO (c a b : Value) : Option Value := match c with | .bool t => some (bif t then a else b) | _ => none
def ncO (x : Value) : Option Value := match x with
  | .pointer (some a) => some (.pointer (some a))
  | _ => none
def faO (off : Nat) (x : Value) : Option Value := match x with | .pointer (some a) => some (.pointer (some (a.add off))) | _ => none
def ixaO (len sz : Nat) (x i : Value) : Option Value := match x, i with
  | .pointer (some a), .int _ n => if 0 ≤ n ∧ n < (len : Int) then some (.pointer (some (a.add (n.toNat * sz)))) else none
  | _, _ => none
def ixsO (sz : Nat) (x i : Value) : Option Value := match x, i with
  | .slice (some a) len _, .int _ n => if 0 ≤ n ∧ n < (len : Int) then some (.pointer (some (a.add (n.toNat * sz)))) else none
  | _, _ => none
def exO (x : Value) (i : Nat) : Option Value := match x with | .tuple vs => vs[i]? | _ => none
def unO (op : UnOp) (x : Value) : Option Value := match op, x with
  | .not, .bool b => some (.bool !b)
  | .neg, .int k n => some (.int k (k.wrap (0 - n)))
  | _, _ => none
def cviO (k : IntKind) (x : Value) : Option Value := match x with | .int _ n => some (.int k (k.wrap n)) | _ => none
def arithO (op : BinOp) (x y : Value) : Option Value := match x, y with
  | .int k a, .int k' b => match op with
    | .add => if k = k' then some (.int k (k.wrap (a + b))) else none
    | .sub => if k = k' then some (.int k (k.wrap (a - b))) else none
    | .mul => if k = k' then some (.int k (k.wrap (a * b))) else none
    | .quo => if k = k' ∧ b ≠ 0 then some (.int k (k.wrap (a.tdiv b))) else none
    | .rem => if k = k' ∧ b ≠ 0 then some (.int k (a.tmod b)) else none
    | .lss => if k = k' then some (.bool (decide (a < b))) else none
    | .leq => if k = k' then some (.bool (decide (a ≤ b))) else none
    | .gtr => if k = k' then some (.bool (decide (a > b))) else none
    | .geq => if k = k' then some (.bool (decide (a ≥ b))) else none
    | .shl => if 0 ≤ b then some (.int k (k.wrap (a * 2 ^ (min b.toNat k.bits)))) else none
    | .shr => if 0 ≤ b then some (.int k (a.fdiv (2 ^ (min b.toNat k.bits)))) else none
    | .and => if k = k' then some (.int k (k.wrap (BitVec.ofInt k.bits a &&& BitVec.ofInt k.bits b).toNat)) else none
    | .or => if k = k' then some (.int k (k.wrap (BitVec.ofInt k.bits a ||| BitVec.ofInt k.bits b).toNat)) else none
    | .xor => if k = k' then some (.int k (k.wrap (BitVec.ofInt k.bits a ^^^ BitVec.ofInt k.bits b).toNat)) else none
    | .andNot => if k = k' then some (.int k (k.wrap (BitVec.ofInt k.bits a &&& ~~~ BitVec.ofInt k.bits b).toNat)) else none
    | _ => none
  | .string a, .string b => match op with
    | .add => if ((a.size + b.size : Nat) : Int) > IntKind.i64.max then none else some (.string (a ++ b))
    | .lss => some (.bool (Op.bytesLess a.toList b.toList))
    | .leq => some (.bool (Op.bytesLess a.toList b.toList || a.toList == b.toList))
    | .gtr => some (.bool !(Op.bytesLess a.toList b.toList || a.toList == b.toList))
    | .geq => some (.bool !(Op.bytesLess a.toList b.toList))
    | _ => none
  | _, _ => none
/-- '==' between numbers or texts. -/
def eqlO (x y : Value) : Option Bool := match x, y with
  | .int k a, .int k' b => if k = k' then some (a == b) else none
  | .string a, .string b => some (a.toList == b.toList)
  | _, _ => none
def eqbO (x y : Value) : Option Bool := match x, y with
  | .bool a, .bool b => some (a == b)
  | _, _ => none
/-- '==' where one side is nil. -/
def eqpO (x y : Value) : Option Bool := match x, y with
  | .pointer none, .pointer b => some b.isNone
  | .pointer (some _), .pointer none => some false
  | _, _ => none
def eqsO (x y : Value) : Option Bool := match x, y with
  | .slice none _ _, .slice b _ _ => some b.isNone
  | .slice (some _) _ _, .slice none _ _ => some false
  | _, _ => none
def eqmO (x y : Value) : Option Bool := match x, y with
  | .map none, .map b => some b.isNone
  | .map (some _), .map none => some false
  | _, _ => none
def eqiO (x y : Value) : Option Bool := match x, y with
  | .nilIface, .iface _ _ => some false
  | .iface _ _, .nilIface => some false
  | .nilIface, .nilIface => some true
  | _, _ => none
def eqfO (x y : Value) : Option Bool := match x, y with
  | .nilFunc, .nilFunc => some true
  | .nilFunc, .func _ _ _ => some false
  | .func _ _ _, .nilFunc => some false
  | _, _ => none
def cmpO (neg : Bool) (r : Option Bool) : Option Value := match r with | some b => some (.bool (b != neg)) | none => none
def lenO (x : Value) : Option Value := match x with
  | .slice _ n _ => some (.int .i64 n)
  | _ => none
def lenSO (x : Value) : Option Value := match x with
  | .string s => some (.int .i64 s.size)
  | _ => none
def hiO (d : Nat) (hi : Option Value) : Option Int := match hi with | none => some (d : Int) | some (.int _ n) => some n | _ => none
def loO (lo : Option Value) : Option Int := match lo with | none => some (0 : Int) | some (.int _ n) => some n | _ => none
def cutSO (x : Value) (lo hi : Option Value) : Option Value := match x with
  | .string s => match loO lo, hiO s.size hi with
    | some l, some h => if 0 ≤ l ∧ l ≤ h ∧ h ≤ (s.size : Int) then some (.string (s.extract l.toNat h.toNat)) else none
    | _, _ => none
  | _ => none
def cutO (sz : Nat) (x : Value) (lo hi : Option Value) : Option Value := match x with
  | .slice a len cap => match loO lo, hiO len hi with
    | some l, some h => if 0 ≤ l ∧ l ≤ h ∧ h ≤ (cap : Int) then some (.slice (if cap = l.toNat then a else a.map (·.add (l.toNat * sz))) (h.toNat - l.toNat) (cap - l.toNat)) else none
    | _, _ => none
  | _ => none
def ixstrO (x i : Value) : Option Value := match x, i with
  | .string s, .int _ n => if 0 ≤ n then (s[n.toNat]?).map fun b => .int .u8 b.toNat else none
  | _, _ => none
/-! ### Loads, stores, new blocks -/
def ld1 (x : Value) (w : World) (K : Kv) : Prop := ∃ a v, x = .pointer (some a) ∧ w.cell? a = some v ∧ K v w
def rdN (w : World) (a : Addr) : (n i : Nat) → Option (List Value)
  | 0, _ => some []
  | n + 1, i => match w.cell? (a.add i), rdN w a n (i + 1) with | some v, some vs => some (v :: vs) | _, _ => none
def ldN (n : Nat) (x : Value) (w : World) (K : Kv) : Prop := ∃ a vs, x = .pointer (some a) ∧ rdN w a n 0 = some vs ∧ K (.agg vs.toArray) w
def oneB : Value → Bool
  | .agg _ | .tuple _ => false
  | _ => true
/-- the cells are there, may be written, and what is stored is one value a cell -/
def stN : (vs : List Value) → (i : Nat) → (a : Addr) → World → Option World
  | [], _, _, w => some w
  | v :: vs, i, a, w => if oneB v && (w.cell? (a.add i)).isSome && !w.frozen? (a.add i) then stN vs (i + 1) a (w.setCell (a.add i) v) else none
def st (n : Nat) (x v : Value) (w : World) (K : Kv) : Prop := ∃ a w', x = .pointer (some a) ∧ v.cells.size = n ∧ stN v.cells.toList 0 a w = some w' ∧ K undef w'
def bx (t : TypeId) (x : Value) (w : World) (K : Kv) : Prop := K (.pointer (some ⟨w.heap.size, 0, none⟩)) (w.alloc (.cells x.cells t))

def mpA (e : Operand → Value) (l : Array Operand) : Array Value := (l.toList.map e).toArray
def mpP (e : Operand → Value) (l : Array (Nat × Operand)) : Array (Nat × Value) := (l.toList.map fun p => (p.1, e p.2)).toArray
theorem mpA_eq (e : Operand → Value) (l : Array Operand) : mpA e l = l.map e := by
  obtain ⟨l⟩ := l
  simp [mpA]
theorem mpP_eq (e : Operand → Value) (l : Array (Nat × Operand)) : mpP e l = l.map fun (i, x) => (i, e x) := by
  unfold mpP
  obtain ⟨l⟩ := l
  simp

/-! ### Which reckoning serves an operation: closed facts on the program's tables decide -/
def szO (P : Program) (t : TypeId) : Option Nat := match P.info? t with | some i => some i.size | none => none
def aggO (P : Program) (t : TypeId) : Option Bool := match P.underlying t with
  | some (.struct _) | some (.array _ _) => some true
  | some _ => some false
  | none => none
inductive Kd where | int (k : IntKind) | str | bool | slice (sz : Nat) | arr (n sz : Nat) | struct | ptr | map | iface | func | other
def kd (P : Program) (t : TypeId) : Kd := match P.underlying t with
  | some (.int k) => .int k
  | some .string => .str
  | some .bool => .bool
  | some (.slice e) => match szO P e with | some n => .slice n | none => .other
  | some (.array n e) => match szO P e with | some sz => .arr n sz | none => .other
  | some (.struct _) => .struct
  | some (.pointer _) => .ptr
  | some (.map _ _) => .map
  | some (.interface _) => .iface
  | some (.func _ _ _) => .func
  | _ => .other
def isNil : Operand → Bool
  | .const (.pointer none) | .const (.slice none _ _) | .const (.map none) | .const .nilIface | .const .nilFunc => true
  | _ => false
def fieldOff (P : Program) (t : TypeId) (f : Nat) : Option (Nat × TypeId) := match P.underlying t with
  | some (.struct fs) => (fs[f]?).map fun x => (x.offset, x.type)
  | _ => none
def bodyB (P : Program) (f : FuncId) : Bool := match P.funcs[f]? with | some fn => fn.body.isSome && !(fn.name == "runtime.NumGoroutine") | none => false

/-- The reckoning of an operation that only the values decide; none: it is of another make. -/
def pureO (P : Program) (o : Op) (e : Operand → Value) : Option (Option Value) :=
  match o with
  | .pick c a b => some (pkO (e c) (e a) (e b))
  | .nilCheck x => some (ncO (e x))
  | .unOp op _ x => some (unO op (e x))
  | .fieldAddr s x f => match fieldOff P s f with
    | some (off, t) => match szO P t with
      | some (_ + 1) => some (faO off (e x))
      | _ => none
    | none => none
  | .indexAddr t x i => match kd P t with
    | .arr n sz => some (ixaO n sz (e x) (e i))
    | .slice sz => some (ixsO sz (e x) (e i))
    | _ => none
  | .index t x i => match kd P t with
    | .str => some (ixstrO (e x) (e i))
    | _ => none
  | .extract x i => some (exO (e x) i)
  | .makeInterface t x => match kd P t with
    | .int _ | .str | .bool | .slice _ | .arr _ _ | .struct | .ptr | .map => some (some (.iface t (e x)))
    | _ => none
  | .makeFunc fn a b => some (some (.func fn (mpA e a) (mpA e b)))
  | .convert s d x => match kd P s, kd P d with
    | .int _, .int k => some (cviO k (e x))
    | _, _ => none
  | .slice t x lo hi none => match kd P t with
    | .str => some (cutSO (e x) (lo.map e) (hi.map e))
    | .slice sz => some (cutO sz (e x) (lo.map e) (hi.map e))
    | _ => none
  | .binOp op t x y _ => match op with
    | .eql => match kd P t with
      | .int _ | .str => some (cmpO false (eqlO (e x) (e y)))
      | .bool => some (cmpO false (eqbO (e x) (e y)))
      | .ptr => bif isNil x || isNil y then some (cmpO false (eqpO (e x) (e y))) else none
      | .slice _ => some (cmpO false (eqsO (e x) (e y)))
      | .map => some (cmpO false (eqmO (e x) (e y)))
      | .iface => bif isNil x || isNil y then some (cmpO false (eqiO (e x) (e y))) else none
      | .func => some (cmpO false (eqfO (e x) (e y)))
      | _ => none
    | .neq => match kd P t with
      | .int _ | .str => some (cmpO true (eqlO (e x) (e y)))
      | .bool => some (cmpO true (eqbO (e x) (e y)))
      | .ptr => bif isNil x || isNil y then some (cmpO true (eqpO (e x) (e y))) else none
      | .slice _ => some (cmpO true (eqsO (e x) (e y)))
      | .map => some (cmpO true (eqmO (e x) (e y)))
      | .iface => bif isNil x || isNil y then some (cmpO true (eqiO (e x) (e y))) else none
      | .func => some (cmpO true (eqfO (e x) (e y)))
      | _ => none
    | _ => match kd P t with
      | .int _ | .str => some (arithO op (e x) (e y))
      | _ => none
  | .call c => match c.callee, c.args.toList, c.argTypes.toList with
    | .builtin .len, [x], [t] => match kd P t with
      | .str => some (lenSO (e x))
      | .slice _ => some (lenO (e x))
      | _ => none
    | _, _, _ => none
  | _ => none

/-- An operation, and what follows it. -/
def opV (P : Program) (o : Oper) (e : Operand → Value) (w : World) (K : Kv) : Prop :=
  match o.op with
  | .move x | .assign x => K (e x) w
  | .load t x => match aggO P t with
    | some true => match szO P t with
      | some n => ldN n (e x) w K
      | none => False
    | some false => ld1 (e x) w K
    | none => False
  | .store t x v => match szO P t with
    | some n => st n (e x) (e v) w K
    | none => False
  | .alloc t => sv P (Instr.alloc t true (.tuple #[])) w K
  | .box t x => bx t (e x) w K
  | .build t ps => sv P (Instr.build t (mpP e ps)) w K
  | .buildSlice t n ps => sv P (Instr.buildSlice t n (mpP e ps)) w K
  | .field t x f => sv P (Instr.field t (e x) f) w K
  | .makeMap t r => sv P (Instr.makeMap t (r.map e)) w K
  | .makeSlice t l c => sv P (Instr.makeSlice t (e l) (e c)) w K
  | .lookup t x i ok => sv P (Instr.lookup t (e x) (e i) ok) w K
  | .mapUpdate t m k v | .insert t m k v => su P (Instr.mapUpdate t (e m) (e k) (e v)) w K
  | .mapEntry t m k => sv P (Instr.mapEntry t (e m) (e k)) w K
  | .entryStore t m s v => su P (Instr.entryStore t (e m) (e s) (e v)) w K
  | .range t x => sv P (Instr.range t (e x)) w K
  | .next it s => sv P (Instr.next (e it) s o.type) w K
  | .entry it => sv P (Instr.entry (e it)) w K
  | .typeAssert x t u ok => sv P (Instr.typeAssert (e x) t u ok) w K
  | op => match pureO P op e with
    | some r => pv r w K
    | none => match op with
      | .call c => match c.callee with
        | .value (.func f) => bif bodyB P f then Ret P f (mpA e c.args) w K
            else (∃ s : Sem Value, (∀ w, (callFunc f (mpA e c.args)).run P w = (do pure (Next.value (← s)) : Sem Next).run P w) ∧ sv P s w K)
        | .value g => dcal P (e g) (mpA e c.args) w K
        | .builtin .append => sv P (Builtin.append_ c.argTypes o.type (mpA e c.args)) w K
        | .builtin .copy => sv P (Builtin.copy_ c.argTypes o.type (mpA e c.args)) w K
        | .builtin .delete => sv P (Builtin.delete_ c.argTypes o.type (mpA e c.args)) w K
        | .builtin .len => sv P (Builtin.len_ c.argTypes o.type (mpA e c.args)) w K
        | .builtin .cap => sv P (Builtin.cap_ c.argTypes o.type (mpA e c.args)) w K
        | .builtin .min => sv P (Builtin.min_ c.argTypes o.type (mpA e c.args)) w K
        | .builtin .max => sv P (Builtin.max_ c.argTypes o.type (mpA e c.args)) w K
        | .builtin .clear => sv P (Builtin.clear_ c.argTypes o.type (mpA e c.args)) w K
        | _ => False
      | .binOp op t x y yt => sv P (do eqGuard op t x y (e x) (e y); binOp op t (e x) (e y)) w K
      | .unOp op t x => sv P (Op.unary op (e x)) w K
      | .convert s d x => sv P (convert s d (e x)) w K
      | .slice t x lo hi mx => sv P (Instr.sliceAt t (e x) (lo.map e) (hi.map e) (mx.map e)) w K
      | .index t x i => sv P (Instr.index t (e x) (e i)) w K
      | .makeInterface t x => sv P (Instr.makeInterface t (e x)) w K
      | .fieldAddr t x f => sv P (Instr.fieldAt t (e x) f) w K
      | .sliceToArrayPointer t x => sv P (Instr.arrayAt t (e x)) w K
      | _ => False
end Go.Proofs.Ythhpdcegkbfijaa.V
