/-
  The condition of a code, and that it serves.
-/
import Derived.Test.YthhpdcegkbfijaaVDraw
import Derived.Tactics
namespace Go.Proofs.Ythhpdcegkbfijaa.V
set_option linter.all false
set_option linter.unusedVariables false
set_option linter.unusedSimpArgs false
set_option linter.unnecessarySimpa false

def gval (ops : Array Oper) (ρ : Env) (j : Nat) : Value := match (ops[j]?).bind (·.dst) with | some t => ρ t | none => undef
/-- What is done only where a guard says so. -/
def gd (c : Value) (b : Bool) (A : Kv → Prop) (w : World) (K : Kv) : Prop := (c = .bool b → A K) ∧ (c ≠ .bool b → K undef w)
def grd (ops : Array Oper) (o : Oper) (ρ : Env) (A : Kv → Prop) (w : World) (K : Kv) : Prop := match o.guard with
  | none => A K
  | some (j, b) => gd (gval ops ρ j) b A w K
def vcOps (P : Program) (ops : Array Oper) (K : Env → World → Prop) : List Oper → Env → World → Prop
  | [], ρ, w => K ρ w
  | o :: r, ρ, w => grd ops o ρ (fun K => opV P o (ev ρ) w K) w (fun v w' => vcOps P ops K r (updO ρ o.dst v) w')

/-! The same, what stands under one guard taken together. -/
def hasG (o : Oper) (j : Nat) (b : Bool) : Bool := match o.guard with | some (i, c) => Nat.beq i j && (c == b) | none => false
def takeG (j : Nat) (b : Bool) : List Oper → List Oper
  | [] => []
  | o :: r => bif hasG o j b then o :: takeG j b r else []
def dropG (j : Nat) (b : Bool) : List Oper → List Oper
  | [] => []
  | o :: r => bif hasG o j b then dropG j b r else o :: r
def vcU (P : Program) (K : Env → World → Prop) : List Oper → Env → World → Prop
  | [], ρ, w => K ρ w
  | o :: r, ρ, w => opV P o (ev ρ) w (fun v w' => vcU P K r (updO ρ o.dst v) w')
def skipG (ρ : Env) : List Oper → Env
  | [] => ρ
  | o :: r => skipG (updO ρ o.dst undef) r
/-- A block under a guard: what it hands on, or nothing. -/
def gB {X : Type} (c : Value) (b : Bool) (u : X) (A : (X → World → Prop) → Prop) (w : World) (K : X → World → Prop) : Prop := (c = .bool b → A K) ∧ (c ≠ .bool b → K u w)
def vcG (P : Program) (ops : Array Oper) (K : Env → World → Prop) : Nat → List Oper → Env → World → Prop
  | 0, _, _, _ => False
  | f + 1, [], ρ, w => K ρ w
  | f + 1, o :: r, ρ, w => match o.guard with
    | none => opV P o (ev ρ) w (fun v w' => vcG P ops K f r (updO ρ o.dst v) w')
    | some (j, b) => (gval ops ρ j = .bool b → vcU P (fun ρ w => vcG P ops K f (dropG j b (o :: r)) ρ w) (takeG j b (o :: r)) ρ w) ∧
        (gval ops ρ j ≠ .bool b → vcG P ops K f (dropG j b (o :: r)) (skipG ρ (takeG j b (o :: r))) w)
/-- no operation under a guard writes what the guard looks at -/
def gOk (ops : Array Oper) : List Oper → Bool
  | [] => true
  | o :: r => (match o.guard with
    | none => true
    | some (j, _) => match (ops[j]?).bind (·.dst), o.dst with
      | some t, some d => !Nat.beq t d
      | _, _ => true) && gOk ops r

def pureV (P : Program) (o : Op) (e : Operand → Value) (w : World) (K : Kv) : Prop := match o with
  | .move x | .assign x => K (e x) w
  | op => match pureO P op e with
    | some r => pv r w K
    | none => False
def ld1C (C : World → Prop) (x : Value) (w : World) (K : Kv) : Prop := ∃ a v, x = .pointer (some a) ∧ (∀ w', C w' → w'.cell? a = some v) ∧ K v w
def ldNC (C : World → Prop) (n : Nat) (x : Value) (w : World) (K : Kv) : Prop := ∃ a vs, x = .pointer (some a) ∧ (∀ w', C w' → rdN w' a n 0 = some vs) ∧ K (.agg vs.toArray) w
def loadV (P : Program) (o : Op) (e : Operand → Value) (w : World) (K : Kv) : Prop := match o with
  | .load t x => match aggO P t with
    | some true => match szO P t with
      | some n => ldN n (e x) w K
      | none => False
    | some false => ld1 (e x) w K
    | none => False
  | _ => False
def loadVC (P : Program) (C : World → Prop) (o : Op) (e : Operand → Value) (w : World) (K : Kv) : Prop := match o with
  | .load t x => match aggO P t with
    | some true => match szO P t with
      | some n => ldNC C n (e x) w K
      | none => False
    | some false => ld1C C (e x) w K
    | none => False
  | _ => False

/-- How an operation stands in a plan. -/
inductive Pk where | pure | pureF | load | hardF | hard
def Pk.flagged : Pk → Bool | .pureF | .load | .hardF => true | _ => false

/-- A plan where nothing that acts may come between the loads. -/
def vcPlanA (P : Program) (ops : Array Oper) (K : Env → World → Prop) : List (Nat × Pk) → Env → World → Prop
  | [], ρ, w => K ρ w
  | (i, k) :: r, ρ, w => match ops[i]? with
    | none => False
    | some o => grd ops o ρ (fun K => match k with
        | .pure | .pureF => pureV P o.op (ev ρ) w K
        | .load => loadV P o.op (ev ρ) w K
        | .hard => opV P o (ev ρ) w K
        | .hardF => False) w (fun v w' => vcPlanA P ops K r (updO ρ o.dst v) w')
/-- A plan with a class of worlds in which the loads yield the same. -/
def vcPlanB (P : Program) (ops : Array Oper) (C : World → Prop) (K : Env → World → Prop) : List (Nat × Pk) → Env → World → Prop
  | [], ρ, w => K ρ w
  | (i, k) :: r, ρ, w => match ops[i]? with
    | none => False
    | some o => grd ops o ρ (fun K => match k with
        | .pure | .pureF => pureV P o.op (ev ρ) w K
        | .load => loadVC P C o.op (ev ρ) w K
        | .hard => opV P o (ev ρ) w K
        | .hardF => opV P o (ev ρ) w (fun v w' => C w' ∧ K v w')) w (fun v w' => vcPlanB P ops C K r (updO ρ o.dst v) w')

/-- A plan that forks where more than one operation that acts may come up, and takes up a new class of worlds where nothing of the elder one is left. -/
inductive PT where
  | done
  | stop
  | op (i : Nat) (k : Pk) (r : PT)
  | alt (i : Nat) (k : Pk) (r m : PT)
  | newC (r : PT)
def PT.kinds : PT → List (Nat × Pk)
  | .done | .stop | .newC _ => []
  | .op i k r => (i, k) :: r.kinds
  | .alt i k r m => (i, k) :: (r.kinds ++ m.kinds)
def opT (P : Program) (C : World → Prop) (o : Oper) (k : Pk) (ρ : Env) (w : World) (K : Kv) : Prop := match k with
  | .pure | .pureF => pureV P o.op (ev ρ) w K
  | .load => loadVC P C o.op (ev ρ) w K
  | .hard => opV P o (ev ρ) w K
  | .hardF => opV P o (ev ρ) w (fun v w' => C w' ∧ K v w')
def isStop : PT → Bool | .stop => true | _ => false
def vcT (P : Program) (ops : Array Oper) (K : Env → World → Prop) : PT → (World → Prop) → Env → World → Prop
  | .done, _, ρ, w => K ρ w
  | .stop, _, _, _ => True
  | .op i k r, C, ρ, w => match ops[i]? with
    | none => False
    | some o => grd ops o ρ (opT P C o k ρ w) w (fun v w' => vcT P ops K r C (updO ρ o.dst v) w')
  | .alt i k r m, C, ρ, w => match isStop m with
    | true => (match ops[i]? with
      | none => False
      | some o => grd ops o ρ (opT P C o k ρ w) w (fun v w' => vcT P ops K r C (updO ρ o.dst v) w'))
    | false => (match ops[i]? with
      | none => False
      | some o => grd ops o ρ (opT P C o k ρ w) w (fun v w' => vcT P ops K r C (updO ρ o.dst v) w')) ∧ vcT P ops K m C ρ w
  | .newC r, _, ρ, w => ∃ C : World → Prop, C w ∧ vcT P ops K r C ρ w

inductive Ann where
  | nil
  | two (a b : Ann)
  | join (mod live : List Nat) (a b : Ann)
  | loop (mod live : List Nat) (a : Ann)
  | planA (pl : List (Nat × Pk))
  | planB (pl : List (Nat × Pk))
  | planT (t : PT)

def mem : List Nat → Nat → Bool
  | [], _ => false
  | a :: l, t => bif Nat.beq a t then true else mem l t
def Tup : List Nat → Type
  | [] => Unit
  | [_] => Value
  | _ :: b :: l => Value × Tup (b :: l)
def tupOf (ρ : Env) : (l : List Nat) → Tup l
  | [] => ()
  | [a] => ρ a
  | a :: b :: l => (ρ a, tupOf ρ (b :: l))
def setT (ρ : Env) : (l : List Nat) → Tup l → Env
  | [], _ => ρ
  | [a], x => upd ρ a x
  | a :: b :: l, x => upd (setT ρ (b :: l) x.2) a x.1
def junk (ρ σ : Env) (mod : List Nat) : Env := fun t => bif mem mod t then σ t else ρ t

def Thn (N : Env → World → Prop) (Q : Post) : Post := fun e ρ w => match e with | .normal => N ρ w | e => Q e ρ w
def Blk (id : Nat) (Q : Post) : Post := fun e ρ w => match e with
  | .exit j => bif Nat.beq j id then Q .normal ρ w else Q (.exit j) ρ w
  | e => Q e ρ w
def cnd (c : Value) (A B : Prop) : Prop := match c with | .bool true => A | .bool false => B | _ => False

/-- The ways meet: what follows is said once. -/
def join {X : Type} (rest : X → World → Prop) (body : (X → World → Prop) → Prop) : Prop := ∀ K : X → World → Prop, (∀ x w, rest x w → K x w) → body K
/-- A loop: what holds at each round's head, and what falls. -/
def loopV {X : Type} (x : X) (w : World) (body : (X → World → Prop) → X → World → Prop) : Prop :=
  ∃ (J : X → World → Prop) (μ : X → World → Nat), J x w ∧ ∀ x w, J x w → body (fun x' w' => J x' w' ∧ μ x' w' < μ x w) x w

def vc (P : Program) : Code → Ann → Post → Env → World → Prop
  | .skip, _, Q, ρ, w => Q .normal ρ w
  | .seq a b, .two x y, Q, ρ, w => vc P a x (Thn (fun ρ w => vc P b y Q ρ w) Q) ρ w
  | .seq a b, .join mod live x y, Q, ρ, w => join (X := Tup live) (fun xs w => ∀ σ : Env, vc P b y Q (setT (junk ρ σ mod) live xs) w) (fun K => vc P a x (Thn (fun ρ' w' => K (tupOf ρ' live) w') Q) ρ w)
  | .cond c a b, .two x y, Q, ρ, w => cnd (ev ρ c) (vc P a x Q ρ w) (vc P b y Q ρ w)
  | .block id c, x, Q, ρ, w => vc P c x (Blk id Q) ρ w
  | .loop c, .loop mod live x, Q, ρ, w => loopV (X := Tup live) (tupOf ρ live) w (fun K xs w => ∀ σ : Env, vc P c x (Thn (fun ρ' w' => K (tupOf ρ' live) w') Q) (setT (junk ρ σ mod) live xs) w)
  | .region _ ops false, _, Q, ρ, w => vcG P ops (fun ρ w => Q .normal ρ w) (ops.size + 1) ops.toList ρ w
  | .region _ ops true, .planA pl, Q, ρ, w => vcPlanA P ops (fun ρ w => Q .normal ρ w) pl ρ w.drew
  | .region _ ops true, .planB pl, Q, ρ, w => ∃ C : World → Prop, C w.drew ∧ vcPlanB P ops C (fun ρ w => Q .normal ρ w) pl ρ w.drew
  | .region _ ops true, .planT t, Q, ρ, w => vcT P ops (fun ρ w => Q .normal ρ w) t (fun _ => True) ρ w.drew
  | .exit id, _, Q, ρ, w => Q (.exit id) ρ w
  | .ret, _, Q, ρ, w => Q .ret ρ w
  | _, _, _, _, _ => False

/-! ### What is checked once, by reckoning -/
def asg : Code → List Nat
  | .seq a b => asg a ++ asg b
  | .cond _ a b => asg a ++ asg b
  | .block _ c => asg c
  | .loop c => asg c
  | .region _ ops _ => ops.toList.filterMap (·.dst)
  | _ => []
def waitsB (ops : Array Oper) (listed : Array Bool) (k : Nat) : Nat → Nat → Bool
  | 0, _ => false
  | f + 1, j => match ops[j]? with
    | none => false
    | some o => o.after.toList.any fun e => Region.binds .any e && (Nat.beq e.on k || (!listed.getD e.on false && waitsB ops listed k f e.on))
def flagOf (pl : List (Nat × Pk)) (i : Nat) : Bool := pl.any fun p => Nat.beq p.1 i && p.2.flagged
def stillB (ops : Array Oper) (pl : List (Nat × Pk)) (listed : Array Bool) (i : Nat) : Bool :=
  (List.range ops.size).all fun j => Nat.beq j i || listed.getD j true || flagOf pl j || waitsB ops listed i ops.size j
def natsB : List Nat → List Nat → Bool
  | [], [] => true
  | a :: l, b :: m => Nat.beq a b && natsB l m
  | _, _ => false
/-- 'cw': the world is known to be of the class. -/
def planOk (ops : Array Oper) (all : List (Nat × Pk)) : List (Nat × Pk) → Array Bool → Bool → Bool
  | [], listed, _ => natsB (Region.ready .any ops listed) []
  | (i, k) :: r, listed, cw => (Region.ready .any ops listed).contains i && (match k with
    | .pure => !flagOf all i && Region.free .any ops listed i && planOk ops all r (listed.setIfInBounds i true) cw
    | .pureF | .load => cw && Region.free .any ops listed i && stillB ops all listed i && planOk ops all r (listed.setIfInBounds i true) cw
    | .hardF => (cw || (match ops[i]? with | some o => o.guard.isNone | none => false)) && natsB (Region.ready .any ops listed) [i] && planOk ops all r (listed.setIfInBounds i true) true
    | .hard => !flagOf all i && natsB (Region.ready .any ops listed) [i] && planOk ops all r (listed.setIfInBounds i true) false)
/-- .. for a plan that forks; 'all': what is flagged by the class in force; 'acc': the operations that this fork has taken already. -/
def treeOk (ops : Array Oper) : PT → List (Nat × Pk) → Array Bool → Bool → Nat → List Nat → Bool
  | .done, _, listed, _, _, acc => acc.isEmpty && natsB (Region.ready .any ops listed) []
  | .stop, _, listed, _, _, acc => (Region.ready .any ops listed).all fun j => mem acc j
  | .op i k r, all, listed, cw, f, acc => acc.isEmpty && !isStop r && (match f with
    | 0 => false
    | f + 1 => (Region.ready .any ops listed).contains i && (match k with
      | .pure => !flagOf all i && Region.free .any ops listed i && treeOk ops r all (listed.setIfInBounds i true) cw f []
      | .pureF | .load => cw && Region.free .any ops listed i && stillB ops all listed i && treeOk ops r all (listed.setIfInBounds i true) cw f []
      | .hardF => (cw || (match ops[i]? with | some o => o.guard.isNone | none => false)) && natsB (Region.ready .any ops listed) [i] && treeOk ops r all (listed.setIfInBounds i true) true f []
      | .hard => !flagOf all i && natsB (Region.ready .any ops listed) [i] && treeOk ops r all (listed.setIfInBounds i true) false f []))
  | .alt i k r m, all, listed, cw, f, acc => !isStop r && (match f with
    | 0 => false
    | g + 1 => (Region.ready .any ops listed).contains i && (match k with
      | .hardF => (cw || (match ops[i]? with | some o => o.guard.isNone | none => false)) && treeOk ops r all (listed.setIfInBounds i true) true g []
      | .hard => !flagOf all i && treeOk ops r all (listed.setIfInBounds i true) false g []
      | _ => false)) && (match m with | .alt .. | .stop => true | _ => false) && treeOk ops m all listed cw f (i :: acc)
  | .newC r, all, listed, _, f, acc => acc.isEmpty && !isStop r && ((List.range ops.size).all fun i => listed.getD i true || !flagOf all i) && treeOk ops r r.kinds listed true f []
def noHardF : List (Nat × Pk) → Bool
  | [] => true
  | (_, .hardF) :: _ => false
  | _ :: r => noHardF r
def dstsB (n : Nat) (ops : Array Oper) : Bool := ops.toList.all fun o => match o.dst with | some d => Nat.blt d n | none => true
def subB (l m : List Nat) : Bool := l.all fun t => mem m t
def okC (n : Nat) : Code → Ann → Bool
  | .skip, _ => true
  | .seq a b, .two x y => okC n a x && okC n b y
  | .seq a b, .join mod live x y => subB (asg a) mod && subB live mod && okC n a x && okC n b y
  | .cond _ a b, .two x y => okC n a x && okC n b y
  | .block _ c, x => okC n c x
  | .loop c, .loop mod live x => subB (asg c) mod && subB live mod && okC n c x
  | .region _ ops false, _ => dstsB n ops && gOk ops ops.toList
  | .region _ ops true, .planA pl => dstsB n ops && Region.noSelect ops && noHardF pl && Nat.beq pl.length ops.size && planOk ops pl pl (Array.replicate ops.size false) true
  | .region _ ops true, .planB pl => dstsB n ops && Region.noSelect ops && Nat.beq pl.length ops.size && planOk ops pl pl (Array.replicate ops.size false) true
  | .region _ ops true, .planT t => dstsB n ops && Region.noSelect ops && (match t with | .newC _ => true | _ => false) && treeOk ops t [] (Array.replicate ops.size false) true ops.size []
  | .exit _, _ => true
  | .ret, _ => true
  | _, _ => false

end Go.Proofs.Ythhpdcegkbfijaa.V
