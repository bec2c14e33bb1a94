/- The abstract machine: operations, regions, code, functions. -/
import Derived.Test.YthjogeodclpafaaAmC
set_option linter.unusedVariables false
set_option linter.unusedSimpArgs false
namespace Go.Proofs.Ythjogeodclpafaa.AM
open Go

def St.put (s : St) (dst : Option Tmp) (v : SV) : St :=
  match dst with
  | none => s
  | some d => match Nat.blt d s.N with
    | true => { s with sl := sput s.sl d v }
    | false => { s with sl := sput s.sl d .any }

/-! ### Step by step: nothing is put off -/
def frcB (b : BV) (k : BV → Prop) : Prop :=
  match b with
  | .any => k .any
  | .int κ n => k (.int κ n)
  | .bool b => k (.bool b)
  | .lit b => match b with
    | true => k (.lit true)
    | false => k (.lit false)
  | .str s => k (.str s)
  | .nilp => k .nilp
  | .nils => k .nils
  | .nilm => k .nilm
  | .nilf => k .nilf
  | .ptr n o => k (.ptr n o)
  | .eptr n wd i o => k (.eptr n wd i o)
  | .fptr τ x o => k (.fptr τ x o)
  | .aptr n off m wd i o => k (.aptr n off m wd i o)
  | .hd n => k (.hd n)
  | .sub n wd lo len => k (.sub n wd lo len)
  | .fsl e τ xs => k (.fsl e τ xs)
  | .map n => k (.map n)
  | .fn f c => k (.fn f c)
  | .arr m τ xs => k (.arr m τ xs)
  | .nz t p => match t with
    | true => k (.nz true p)
    | false => k (.nz false p)
  | .pre n l => k (.pre n l)
  | .win n wd lo l => k (.win n wd lo l)
  | .prec n l => k (.prec n l)

def frcBs : List BV → (List BV → Prop) → Prop
  | [], k => k []
  | c :: cs, k => frcB c fun c' => frcBs cs fun cs' => k (c' :: cs')

def frcT (v : TV) (k : TV → Prop) : Prop :=
  match v with
  | .one b => frcB b fun b' => k (.one b')
  | .agg cs => frcBs cs fun cs' => k (.agg cs')

def frcTs : List TV → (List TV → Prop) → Prop
  | [], k => k []
  | c :: cs, k => frcT c fun c' => frcTs cs fun cs' => k (c' :: cs')

def frcV (v : SV) (k : SV → Prop) : Prop :=
  match v with
  | .any => k .any
  | .t v => frcT v fun v' => k (.t v')
  | .tup vs => frcTs vs fun vs' => k (.tup vs')
  | .cond ts b v => frcT v fun v' => k (.cond ts b v')

def frcO (o : AObj) (k : AObj → Prop) : Prop :=
  match o with
  | .cells t cs => frcBs cs fun cs' => k (.cells t cs')
  | .row e τ xs => k (.row e τ xs)
  | .map a κ τ es => k (.map a κ τ es)
  | .frow e τ xs => k (.frow e τ xs)
  | .buf e τ ys n => k (.buf e τ ys n)
  | .dead => k .dead

def frcH : List AObj → (List AObj → Prop) → Prop
  | [], k => k []
  | o :: r, k => frcO o fun o' => frcH r fun r' => k (o' :: r')

def frcSl : List (Nat × SV) → (List (Nat × SV) → Prop) → Prop
  | [], k => k []
  | (i, v) :: r, k => frcV v fun v' => frcSl r fun r' => k ((i, v') :: r')

def frcSt (s : St) (k : St → Prop) : Prop :=
  match s with
  | ⟨n0, N, sl, H⟩ => frcSl sl fun sl' => frcH H fun H' => k ⟨n0, N, sl', H'⟩

def sputK : List (Nat × SV) → Nat → SV → (List (Nat × SV) → Prop) → Prop
  | [], i, v, k => k [(i, v)]
  | (j, u) :: r, i, v, k => match Nat.beq j i with
    | true => k ((i, v) :: r)
    | false => match Nat.blt j i with
      | true => k ((i, v) :: (j, u) :: r)
      | false => sputK r i v fun r' => k ((j, u) :: r')

def tagged (d : Nat) : List (Nat × Bool) → Bool
  | [] => false
  | (e, _) :: r => match Nat.beq e d with
    | true => true
    | false => tagged d r

def noTag (d : Nat) : SV → Bool
  | .cond ts _ _ => match tagged d ts with
    | true => false
    | false => true
  | _ => true

def noTags (d : Nat) : List (Nat × SV) → Bool
  | [] => true
  | (_, v) :: r => match noTag d v with
    | true => noTags d r
    | false => false

/-- No condition speaks of the slot. -/
def putOK (s : St) (dst : Option Tmp) (v : SV) : Bool :=
  match dst with
  | none => true
  | some d => match noTag d v with
    | true => noTags d s.sl
    | false => false

def putK (s : St) (dst : Option Tmp) (v : SV) (K : St → Prop) : Prop :=
  match putOK s dst v with
  | false => False
  | true => match dst with
    | none => K s
    | some d => match s with
      | ⟨n0, N, sl, H⟩ => match Nat.blt d N with
        | true => frcV v fun v' => sputK sl d v' fun sl' => K ⟨n0, N, sl', H⟩
        | false => sputK sl d .any fun sl' => K ⟨n0, N, sl', H⟩

theorem frcB_eq (b : BV) (k : BV → Prop) : frcB b k = k b := by
  unfold frcB
  split <;> first | rfl | (split <;> rfl)

theorem frcBs_eq : ∀ (cs : List BV) (k : List BV → Prop), frcBs cs k = k cs
  | [], k => rfl
  | c :: cs, k => by simp only [frcBs, frcB_eq, frcBs_eq cs]

theorem frcT_eq (v : TV) (k : TV → Prop) : frcT v k = k v := by
  cases v <;> simp only [frcT, frcB_eq, frcBs_eq]

theorem frcTs_eq : ∀ (cs : List TV) (k : List TV → Prop), frcTs cs k = k cs
  | [], k => rfl
  | c :: cs, k => by simp only [frcTs, frcT_eq, frcTs_eq cs]

theorem frcV_eq (v : SV) (k : SV → Prop) : frcV v k = k v := by
  cases v <;> simp only [frcV, frcT_eq, frcTs_eq]

theorem frcO_eq (v : AObj) (k : AObj → Prop) : frcO v k = k v := by
  cases v <;> simp only [frcO, frcBs_eq]

theorem frcH_eq : ∀ (cs : List AObj) (k : List AObj → Prop), frcH cs k = k cs
  | [], k => rfl
  | c :: cs, k => by simp only [frcH, frcO_eq, frcH_eq cs]

theorem frcSl_eq : ∀ (cs : List (Nat × SV)) (k : List (Nat × SV) → Prop), frcSl cs k = k cs
  | [], k => rfl
  | (i, v) :: cs, k => by simp only [frcSl, frcV_eq, frcSl_eq cs]

theorem frcSt_eq (s : St) (k : St → Prop) : frcSt s k = k s := by
  cases s; simp only [frcSt, frcSl_eq, frcH_eq]

theorem sputK_eq : ∀ (l : List (Nat × SV)) (i : Nat) (v : SV) (k : List (Nat × SV) → Prop), sputK l i v k = k (sput l i v)
  | [], i, v, k => rfl
  | (j, u) :: r, i, v, k => by
    cases h1 : Nat.beq j i <;> cases h2 : Nat.blt j i <;> simp [sputK, sput, h1, h2, sputK_eq r]

theorem putK_eq (s : St) (dst : Option Tmp) (v : SV) (K : St → Prop) : putK s dst v K ↔ putOK s dst v = true ∧ K (s.put dst v) := by
  unfold putK
  split
  · rename_i h; rw [h]; simp
  · rename_i h
    rw [h]
    simp only [true_and]
    cases s
    unfold St.put
    split
    · rfl
    · dsimp only
      split
      · rw [frcV_eq, sputK_eq]
      · rw [sputK_eq]

def St.setH (s : St) (H : List AObj) : St := { s with H := H }

def argsOf (s : St) (o : Oper) : List SV := o.op.operands.toList.map (opSV s.sl)

def entersB (P : Program) (f : FuncId) : Bool :=
  match P.funcs[f]? with
  | some fn => !(fn.name == "runtime.NumGoroutine") && fn.body.isSome
  | none => false

def capSV (caps : List Nat) : List SV := caps.map fun n => .b (.ptr n 0)

def callOp (P : Program) (T : Tab) (op : Op) (vs : List SV) (H : List AObj) (K : SV → List AObj → Prop) : Prop :=
  match op with
  | .call c => match c.callee with
    | .value _ => match vs with
      | .t (.one (.fn f caps)) :: args => match entersB P f with
        | true => callVC P T f (args ++ capSV caps) H K
        | false => bufOp P (.call c) vs H K
      | _ => False
    | _ => bufOp P (.call c) vs H K
  | op => bufOp P op vs H K

/-! ### Guards -/
/-- A truth value in a slot, whether it was taken under a condition or not. -/
def innerB : SV → Option Bool
  | .t (.one (.bool b)) => some b
  | .t (.one (.lit b)) => some b
  | .cond _ _ (.one (.bool b)) => some b
  | .cond _ _ (.one (.lit b)) => some b
  | _ => none

def sgnB (w b : Bool) : Bool := match w with
  | true => b
  | false => !b

/-- That each of these slots has this value. -/
def condB (sl : List (Nat × SV)) : List (Nat × Bool) → Option Bool
  | [] => some true
  | (d, w) :: r => match innerB (sget sl d), condB sl r with
    | some b, some g => some (sgnB w b && g)
    | _, _ => none

def tagIn (d : Nat) (w : Bool) : List (Nat × Bool) → Bool
  | [] => false
  | (e, v) :: r => match Nat.beq e d, w, v with
    | true, true, true => true
    | true, false, false => true
    | _, _, _ => tagIn d w r

def subTags : List (Nat × Bool) → List (Nat × Bool) → Bool
  | [], _ => true
  | (d, w) :: r, ts => match tagIn d w ts with
    | true => subTags r ts
    | false => false

/-- What a value is where these conditions hold. -/
def reveal (ts : List (Nat × Bool)) : SV → SV
  | .cond ts' _ v => match subTags ts' ts with
    | true => .t v
    | false => .any
  | v => v

def tagsOf (sl : List (Nat × SV)) (d : Nat) (w : Bool) : List (Nat × Bool) :=
  match sget sl d with
  | .t (.one (.bool _)) => [(d, w)]
  | .t (.one (.lit _)) => [(d, w)]
  | .cond ts _ (.one (.bool _)) => (d, w) :: ts
  | .cond ts _ (.one (.lit _)) => (d, w) :: ts
  | _ => []

def opTags (sl : List (Nat × SV)) (w : Bool) : Operand → List (Nat × Bool)
  | .tmp d => tagsOf sl d w
  | _ => []

def appT : List (Nat × Bool) → List (Nat × Bool) → List (Nat × Bool)
  | [], l => l
  | x :: r, l => x :: appT r l

def argsR (s : St) (ts : List (Nat × Bool)) (o : Oper) : List SV := o.op.operands.toList.map fun x => reveal ts (opSV s.sl x)

def SV.plain : SV → SV
  | .cond _ _ _ => .any
  | v => v

/-- The quiet operations, under conditions that hold. -/
def quietX (P : Program) (s : St) (ts : List (Nat × Bool)) (o : Oper) : YR :=
  match o.op with
  | .pick c x y => pickStep (reveal ts (opSV s.sl c)) (reveal (appT (opTags s.sl true c) ts) (opSV s.sl x)) (reveal (appT (opTags s.sl false c) ts) (opSV s.sl y))
  | op => quiet P s.H op (argsR s ts o)

/-- One operation that is carried out. -/
def runOp (P : Program) (T : Tab) (s : St) (ts : List (Nat × Bool)) (o : Oper) (K : St → Prop) : Prop :=
  match quietX P s ts o with
  | some (obs, v) => conj obs (putK s o.dst v.plain K)
  | none => match openAll (argsR s ts o) with
    | some (ps, xs) => match effOp P s.H o.op xs with
      | some (obs, v, H') => conj (ps ++ obs) (frcH H' fun H' => putK (s.setH H') o.dst v.plain K)
      | none => callOp P T o.op (argsR s ts o) s.H fun r H' => frcH H' fun H' => putK (s.setH H') o.dst r.plain K
    | none => callOp P T o.op (argsR s ts o) s.H fun r H' => frcH H' fun H' => putK (s.setH H') o.dst r.plain K

def condV (ts : List (Nat × Bool)) (g : Bool) : SV → SV
  | .t x => .cond ts g x
  | _ => .any

/-- The guard's value. -/
inductive GV where
  | run (ts : List (Nat × Bool)) | skip | sym (g : Bool) (ts : List (Nat × Bool)) | bad

def guardOf (s : St) (ops : Array Oper) (o : Oper) : GV :=
  match o.guard with
  | none => .run []
  | some (j, want) => match ((ops.toList[j]?).bind (·.dst)) with
    | none => .bad
    | some d => match sget s.sl d with
      | .t (.one (.lit b)) => match b, want with
        | true, true => .run [(d, true)]
        | false, false => .run [(d, false)]
        | _, _ => .skip
      | .t (.one (.bool b)) => .sym (sgnB want b) [(d, want)]
      | .cond ts g (.one (.bool b)) => .sym (sgnB want b && g) ((d, want) :: ts)
      | .cond ts g (.one (.lit b)) => match b, want with
        | true, true => .sym g ((d, true) :: ts)
        | false, false => .sym g ((d, false) :: ts)
        | _, _ => .skip
      | _ => .bad

/-- What is known of the value of an operation that was passed over. -/
def dummyV (P : Program) (ts : List (Nat × Bool)) (g : Bool) (t : TypeId) : SV :=
  match P.underlying t with
  | some .bool => .cond ts g (.one (.bool false))
  | some (.int k) => .cond ts g (.one (.int k 0))
  | _ => .any

/-- A table that names this number asks that truth values are computed: for functions without arguments. -/
def isDec (T : Tab) : Bool := match T 4000000007 with
  | some _ => true
  | none => false

def brP (d b : Bool) (p q : Prop) : Prop := match d with
  | false => (b = true → p) ∧ (b = false → q)
  | true => match b with
    | true => p
    | false => q

theorem brP_iff {d b : Bool} {p q : Prop} : brP d b p q ↔ (b = true → p) ∧ (b = false → q) := by
  cases d <;> cases b <;> simp [brP]

def opVC (P : Program) (T : Tab) (ops : Array Oper) (s : St) (o : Oper) (K : St → Prop) : Prop :=
  match guardOf s ops o with
  | .run ts => runOp P T s ts o K
  | .skip => putK s o.dst .any K
  | .sym g ts => match quietX P s ts o with
    | some (obs, v) => conj (under (g = true) obs) (putK s o.dst (condV ts g v) K)
    | none => brP (isDec T) g (runOp P T s ts o K) (putK s o.dst (dummyV P ts g o.type) K)
  | .bad => False

/-- A guard that is a truth value: the slot, what is wanted, the value. Only where the operation is not quiet. -/
def splitOn (P : Program) (ops : Array Oper) (s : St) (o : Oper) : Option (Nat × Bool × Bool) :=
  match o.guard with
  | none => none
  | some (j, want) => match ((ops.toList[j]?).bind (·.dst)) with
    | none => none
    | some d => match sget s.sl d with
      | .t (.one (.bool b)) => match quietX P s [(d, want)] o with
        | some _ => none
        | none => some (d, want, b)
      | _ => none

def St.refine (s : St) (d : Nat) (v : Bool) : St := { s with sl := sput s.sl d (.t (.one (.lit v))) }

def refineK (s : St) (d : Nat) (v : Bool) (k : St → Prop) : Prop := match s with
  | ⟨n0, N, sl, H⟩ => sputK sl d (.t (.one (.lit v))) fun sl' => k ⟨n0, N, sl', H⟩

theorem refineK_eq (s : St) (d : Nat) (v : Bool) (k : St → Prop) : refineK s d v k = k (s.refine d v) := by
  cases s; simp only [refineK, sputK_eq, St.refine]

/-- The ways part at a guard. -/
def splitVC (P : Program) (T : Tab) (ops : Array Oper) (s : St) (o : Oper) (K : St → Prop) : Prop :=
  match splitOn P ops s o with
  | none => opVC P T ops s o K
  | some (d, _, b) => brP (isDec T) b (refineK s d true fun s' => opVC P T ops s' o K) (refineK s d false fun s' => opVC P T ops s' o K)

def seqVC (P : Program) (T : Tab) (ops : Array Oper) : List Oper → St → (St → Prop) → Prop
  | [], s, K => K s
  | o :: r, s, K => splitVC P T ops s o fun s' => seqVC P T ops r s' K

/-! ### States are put in order -/
def rangeN : Nat → Nat → List Nat
  | _, 0 => []
  | i, n + 1 => i :: rangeN (i + 1) n

def namesAt (sl : List (Nat × SV)) : List Nat → List Nat
  | [] => []
  | i :: r => (sget sl i).names ++ namesAt sl r

def keepSl (sl : List (Nat × SV)) (ρ : Nat → Nat) : List Nat → List (Nat × SV)
  | [] => []
  | i :: r => (i, (sget sl i).ren ρ) :: keepSl sl ρ r

def eqList : List Nat → List Nat → Bool
  | [], [] => true
  | a :: as, b :: bs => Nat.beq a b && eqList as bs
  | _, _ => false

/-- Nil slices in these slots get names. -/
def matSlots (s : St) : List (Nat × TypeId × Ty) → St
  | [] => s
  | (i, e, τ) :: r => match sget s.sl i with
    | .t (.one .nils) => matSlots { s with sl := sput s.sl i (.b (.hd s.H.length)), H := s.H ++ [.row e τ []] } r
    | _ => matSlots s r

def shrink (s : St) (keep : List Nat) : Option St :=
  match reach s.H (rangeN 0 s.n0 ++ namesAt s.sl keep) with
  | ns => match partOf s.H ns, allIn ns (namesAt s.sl keep), eqList (ns.take s.n0) (rangeN 0 s.n0) with
    | some Hl, true, true => some { s with sl := keepSl s.sl (fun n => idxN n ns) keep, H := Hl }
    | _, _, _ => none

def unlitL : List BV → List BV
  | [] => []
  | c :: r => unlitB c :: unlitL r

def unlitV : SV → SV
  | .t (.one (.lit b)) => .t (.one (.bool b))
  | v => v

def unlitO : AObj → AObj
  | .cells t cs => .cells t (unlitL cs)
  | o => o

def unlitH : List AObj → List AObj
  | [] => []
  | o :: r => unlitO o :: unlitH r

def unlitSl : List (Nat × SV) → List (Nat × SV)
  | [] => []
  | (i, v) :: r => (i, unlitV v) :: unlitSl r

def unlitSt (s : St) : St := { s with sl := unlitSl s.sl, H := unlitH s.H }

def canon (keep : List Nat) (mats : List (Nat × TypeId × Ty)) (s : St) : Option St :=
  match shrink (matSlots s mats) keep with
  | some s' => some (unlitSt s')
  | none => none

/-! ### Results -/
def resGo (P : Program) (s : St) : List ResultVar → Option (List Prop × List TV)
  | [] => some ([], [])
  | .tmp t :: r => match open_ (sget s.sl t), resGo P s r with
    | some (p, v), some (q, vs) => some (p ++ q, v :: vs)
    | _, _ => none
  | .cell a t :: r => match open_ (sget s.sl a), resGo P s r with
    | some (p, v), some (q, vs) => match loadStep P s.H t v with
      | some (o, .t x) => some (p ++ (o ++ q), x :: vs)
      | _ => none
    | _, _ => none

def resSV : List TV → SV
  | [v] => .t v
  | vs => .tup vs

def resVC (P : Program) (fn : Func) (s : St) (K : SV → List AObj → Prop) : Prop :=
  match resGo P s fn.results.toList with
  | some (obs, vs0) => conj obs (match rootTs vs0 s.H with
    | (vs, H) => match reach H (rangeN 0 s.n0 ++ namesT vs) with
    | ns => match partOf H ns, allIn ns (namesT vs), eqList (ns.take s.n0) (rangeN 0 s.n0) with
      | some Hl, true, true => K (resSV (renT (fun n => idxN n ns) vs)) Hl
      | _, _, _ => False)
  | none => False

/-! ### Code -/
inductive AExit where
  | normal | exit (id : Nat) | ret

def AExit.then (K : St → Prop) (Q : AExit → St → Prop) : AExit → St → Prop
  | .normal, s => K s
  | .exit i, s => Q (.exit i) s
  | .ret, s => Q .ret s

def AExit.inBlock (id : Nat) (Q : AExit → St → Prop) : AExit → St → Prop
  | .normal, s => Q .normal s
  | .exit i, s => match Nat.beq i id with
    | true => Q .normal s
    | false => Q (.exit i) s
  | .ret, s => Q .ret s

/-! ### Regions that draw their order: quiet operations first, all orders of the others -/
def boundB (A : List Nat) : List Edge → Bool
  | [] => true
  | e :: r => match Region.binds .any e with
    | true => memN e.on A && boundB A r
    | false => boundB A r

def onB (i : Nat) : List Edge → Bool
  | [] => false
  | e :: r => match Region.binds .any e with
    | true => Nat.beq e.on i || onB i r
    | false => onB i r

/-- The unlisted operations with their numbers. -/
def numbered : Nat → List Oper → List (Nat × Oper)
  | _, [] => []
  | i, o :: r => (i, o) :: numbered (i + 1) r

def readyA (A : List Nat) : List (Nat × Oper) → List (Nat × Oper)
  | [] => []
  | (j, o) :: r => match memN j A with
    | true => readyA A r
    | false => match boundB A o.after.toList with
      | true => (j, o) :: readyA A r
      | false => readyA A r

/-- What the operation's value is if it may be taken ahead of the others. -/
def opQ (P : Program) (ops : Array Oper) (s : St) (o : Oper) : YR :=
  match guardOf s ops o with
  | .run ts => match quietX P s ts o with
    | some (obs, v) => some (obs, v.plain)
    | none => none
  | .skip => some ([], .any)
  | .sym g ts => match quietX P s ts o with
    | some (obs, v) => some (under (g = true) obs, condV ts g v)
    | none => none
  | .bad => none

def notIn (d : Nat) : List Nat → Bool
  | [] => true
  | e :: r => match Nat.beq d e with
    | true => false
    | false => notIn d r

def apartB (ops : Array Oper) (A : List Nat) (i d : Nat) (x : Oper) : List (Nat × Oper) → Bool
  | [] => true
  | (j, y) :: r => match Nat.beq j i || memN j A with
    | true => apartB ops A i d x r
    | false => (onB i y.after.toList || notIn d (y.looksAt ops)) &&
      ((match y.dst with
        | some e => !(Nat.beq e d) && notIn e (x.looksAt ops)
        | none => true) && apartB ops A i d x r)

def takeOne (P : Program) (ops : Array Oper) (os : List (Nat × Oper)) (s : St) (A : List Nat) : List (Nat × Oper) → Option (Nat × Oper × Nat × List Prop × SV)
  | [] => none
  | (i, x) :: r => match x.dst with
    | none => takeOne P ops os s A r
    | some d => match Nat.blt d s.N && (notIn d (x.looksAt ops) && apartB ops A i d x os) with
      | false => takeOne P ops os s A r
      | true => match opQ P ops s x with
        | some (obs, v) => some (i, x, d, obs, v)
        | none => takeOne P ops os s A r

/-- What the operation surely came behind is no longer pending. -/
def dropDone : List (Nat × Oper) → List Edge → List (Nat × Oper)
  | [], _ => []
  | (i, x) :: r, es => match onB i es with
    | true => dropDone r (x.after.toList ++ es)
    | false => (i, x) :: dropDone r es

def sameB : BV → BV → Option (List Prop)
  | .any, .any => some []
  | .int k a, .int k' b => match decEq k k' with
    | isTrue _ => some [a = b]
    | isFalse _ => none
  | .bool a, .bool b => some [a = b]
  | .lit a, .lit b => some [a = b]
  | .str a, .str b => some [a = b]
  | .nilp, .nilp => some []
  | .nils, .nils => some []
  | .nilm, .nilm => some []
  | .nilf, .nilf => some []
  | .ptr n o, .ptr n' o' => match Nat.beq n n', Nat.beq o o' with
    | true, true => some []
    | _, _ => none
  | .hd n, .hd n' => match Nat.beq n n' with
    | true => some []
    | _ => none
  | .map n, .map n' => match Nat.beq n n' with
    | true => some []
    | _ => none
  | .sub n wd lo len, .sub n' wd' lo' len' => match Nat.beq n n', Nat.beq wd wd' with
    | true, true => some [lo = lo', len = len']
    | _, _ => none
  | .fn f c, .fn f' c' => match Nat.beq f f', eqList c c' with
    | true, true => some []
    | _, _ => none
  | .pre n l, .pre n' l' => match Nat.beq n n' with
    | true => some [l = l']
    | _ => none
  | .prec n l, .prec n' l' => match Nat.beq n n' with
    | true => some [l = l']
    | _ => none
  | .eptr n wd i o, .eptr n' wd' i' o' => match Nat.beq n n', Nat.beq wd wd', Nat.beq o o' with
    | true, true, true => some [i = i']
    | _, _, _ => none
  | .fsl e τ xs, .fsl e' τ' xs' => match Nat.beq e e', decEq τ τ' with
    | true, isTrue h => some [castL h xs = xs']
    | _, _ => none
  | .arr m τ xs, .arr m' τ' xs' => match Nat.beq m m', decEq τ τ' with
    | true, isTrue h => some [castL h xs = xs']
    | _, _ => none
  | _, _ => none

def sameL : List BV → List BV → Option (List Prop)
  | [], [] => some []
  | a :: as, b :: bs => match sameB a b, sameL as bs with
    | some p, some q => some (p ++ q)
    | _, _ => none
  | _, _ => none

def sameT : TV → TV → Option (List Prop)
  | .one a, .one b => sameB a b
  | .agg as, .agg bs => sameL as bs
  | _, _ => none

def sameTs : List TV → List TV → Option (List Prop)
  | [], [] => some []
  | a :: as, b :: bs => match sameT a b, sameTs as bs with
    | some p, some q => some (p ++ q)
    | _, _ => none
  | _, _ => none

def sameTags : List (Nat × Bool) → List (Nat × Bool) → Bool
  | [], [] => true
  | (d, w) :: r, (e, v) :: r' => match Nat.beq d e, w, v with
    | true, true, true => sameTags r r'
    | true, false, false => sameTags r r'
    | _, _, _ => false
  | _, _ => false

def sameS : SV → SV → Option (List Prop)
  | .any, .any => some []
  | .t a, .t b => sameT a b
  | .tup as, .tup bs => sameTs as bs
  | .cond ts b v, .cond ts' b' v' => match sameT v v', sameTags ts ts' with
    | some p, true => some ((b = b') :: p)
    | _, _ => none
  | _, _ => none

def castM {κ κ' τ τ' : Ty} (h : κ = κ') (g : τ = τ') (es : List (κ.D × τ.D)) : List (κ'.D × τ'.D) :=
  match h, g with
  | rfl, rfl => es

def sameO : AObj → AObj → Option (List Prop)
  | .cells t cs, .cells t' cs' => match Nat.beq t t', sameL cs cs' with
    | true, some p => some p
    | _, _ => none
  | .row e τ xs, .row e' τ' xs' => match Nat.beq e e', decEq τ τ' with
    | true, isTrue h => some [castL h xs = xs']
    | _, _ => none
  | .frow e τ xs, .frow e' τ' xs' => match Nat.beq e e', decEq τ τ' with
    | true, isTrue h => some [castL h xs = xs']
    | _, _ => none
  | .buf e τ xs k, .buf e' τ' xs' k' => match Nat.beq e e', decEq τ τ' with
    | true, isTrue h => some [castL h xs = xs', k = k']
    | _, _ => none
  | .map a κ τ es, .map a' κ' τ' es' => match decEq κ κ', decEq τ τ', a, a' with
    | isTrue h, isTrue g, true, true => some [castM h g es = es']
    | isTrue h, isTrue g, false, false => some [castM h g es = es']
    | _, _, _, _ => none
  | .dead, .dead => some []
  | _, _ => none

def sameH : List AObj → List AObj → Option (List Prop)
  | [], [] => some []
  | a :: as, b :: bs => match sameO a b, sameH as bs with
    | some p, some q => some (p ++ q)
    | _, _ => none
  | _, _ => none

def sameSl : List (Nat × SV) → List (Nat × SV) → Option (List Prop)
  | [], [] => some []
  | (i, a) :: as, (j, b) :: bs => match Nat.beq i j, sameS a b, sameSl as bs with
    | true, some p, some q => some (p ++ q)
    | _, _, _ => none
  | _, _ => none

/-- A state that was put in order is the given one: part by part. -/
def atS (c : Option St) (t : St) : Prop :=
  match c with
  | none => False
  | some s => match Nat.beq s.n0 t.n0, Nat.beq s.N t.N, sameSl s.sl t.sl, sameH s.H t.H with
    | true, true, some p, some q => conj (p ++ q) True
    | _, _, _, _ => False

/-- A loop: an invariant over states of one form, with a measure. -/
def LoopVC (body : St → (AExit → St → Prop) → Prop) (s : St) (Q : AExit → St → Prop) : Prop :=
  ∃ (α : Type) (S : α → St) (I : α → Prop) (μ : α → Nat) (keep : List Nat) (mats : List (Nat × TypeId × Ty)),
    (∃ x, atS (canon keep mats s) (S x) ∧ I x) ∧
    ∀ x, I x → body (S x) (AExit.then (fun s' => ∃ y, atS (canon keep mats s') (S y) ∧ I y ∧ μ y < μ x) Q)

/-- Operations that do not look at the heap. -/
def pureOp : Op → Bool
  | .move _ => true
  | .assign _ => true
  | .pick _ _ _ => true
  | .extract _ _ => true
  | .nilCheck _ => true
  | .binOp _ _ _ y _ => match isNilC y with
    | true => false
    | false => true
  | .unOp _ _ _ => true
  | .fieldAddr _ _ _ => true
  | .field _ _ _ => true
  | .index _ _ _ => true
  | .makeFunc _ _ _ => true
  | _ => false

/-- What is pending yields the same as before. -/
def recheck (P : Program) (ops : Array Oper) (s : St) : List (Nat × Oper) → Option (List Prop)
  | [] => some []
  | (_, x) :: r => match pureOp x.op with
    | true => recheck P ops s r
    | false => match x.dst, opQ P ops s x with
      | some d, some (obs, v) => match sameS v (sget s.sl d), recheck P ops s r with
        | some es, some q => some (obs ++ (es ++ q))
        | _, _ => none
      | _, _ => none

def allOf (f : Nat × Oper → Prop) : List (Nat × Oper) → Prop
  | [] => True
  | [x] => f x
  | x :: r => f x ∧ allOf f r

/-- States of one form: for loops, and where ways meet. -/
structure Ann where
  α : Type
  S : α → St
  I : α → Prop
  μ : α → Nat := fun _ => 0
  keep : List Nat
  mats : List (Nat × TypeId × Ty) := []

structure Anns where
  loop : Nat → St → Option Ann := fun _ _ => none
  seq : Nat → St → Option Ann := fun _ _ => none
  draw : Nat → St → Option Ann := fun _ _ => none

/-- Ways that come to states of one form, if a form is given. -/
def joinVC (A : Option Ann) (walk : (St → Prop) → Prop) (K : St → Prop) : Prop :=
  match A with
  | none => walk K
  | some A => walk (fun s' => ∃ y, atS (canon A.keep A.mats s') (A.S y) ∧ A.I y) ∧ ∀ y, A.I y → frcSt (A.S y) K

def branchVC (P : Program) (T : Tab) (ops : Array Oper) (next : List Nat → List (Nat × Oper) → St → Prop) (A : List Nat) (L : List (Nat × Oper)) (s : St) : List (Nat × Oper) → Prop :=
  allOf fun c => opVC P T ops s c.2 fun s' => match dropDone L c.2.after.toList with
    | L' => match recheck P ops s' L' with
      | some obs => conj obs (next (c.1 :: A) L' s')
      | none => False

/-- 'L': the operations taken ahead, the last of them first. -/
def drawGo (P : Program) (T : Tab) (J : St → Option Ann) (ops : Array Oper) (os : List (Nat × Oper)) : Nat → Bool → List Nat → List (Nat × Oper) → St → (St → Prop) → Prop
  | 0, _, A, _, s, K => match readyA A os with
    | [] => K s
    | _ => False
  | n + 1, joined, A, L, s, K => match readyA A os with
    | [] => K s
    | c :: cs => match takeOne P ops os s A (c :: cs) with
      | some (i, x, d, obs, v) => conj obs (putK s (some d) v fun s' => drawGo P T J ops os n joined (i :: A) ((i, x) :: L) s' K)
      | none => match joined, cs with
        | false, _ :: _ => joinVC (J s) (fun K' => branchVC P T ops (fun A' L' s' => drawGo P T J ops os n true A' L' s' K') A L s (c :: cs)) K
        | j, _ => branchVC P T ops (fun A' L' s' => drawGo P T J ops os n j A' L' s' K) A L s (c :: cs)

def noSel : List Oper → Bool
  | [] => true
  | o :: r => match o.op with
    | .select _ _ => false
    | _ => noSel r

def drawVC (P : Program) (T : Tab) (J : St → Option Ann) (ops : Array Oper) (s : St) (Q : St → Prop) : Prop :=
  match noSel ops.toList with
  | true => drawGo P T J ops (numbered 0 ops.toList) ops.toList.length false [] [] s Q
  | false => False

def firstRegion : Code → Nat
  | .region id _ _ => id
  | .seq x _ => firstRegion x
  | .cond _ x _ => firstRegion x
  | .block _ x => firstRegion x
  | .loop x => firstRegion x
  | _ => 0

def LoopWith (A : Ann) (body : St → (AExit → St → Prop) → Prop) (s : St) (Q : AExit → St → Prop) : Prop :=
  (∃ x, atS (canon A.keep A.mats s) (A.S x) ∧ A.I x) ∧
    ∀ x, A.I x → frcSt (A.S x) fun s' => body s' (AExit.then (fun s' => ∃ y, atS (canon A.keep A.mats s') (A.S y) ∧ A.I y ∧ A.μ y < A.μ x) Q)

def awp (P : Program) (T : Tab) (N : Anns) : Code → St → (AExit → St → Prop) → Prop
  | .skip, s, Q => Q .normal s
  | .region id ops draw, s, Q => match draw with
    | false => seqVC P T ops ops.toList s (Q .normal)
    | true => drawVC P T (N.draw id) ops s (Q .normal)
  | .seq x y, s, Q => joinVC (N.seq (firstRegion y) s) (fun K => awp P T N x s (AExit.then K Q)) (fun s' => awp P T N y s' Q)
  | .cond c x y, s, Q => match open_ (opSV s.sl c) with
    | some (ps, .one (.lit true)) => conj ps (awp P T N x s Q)
    | some (ps, .one (.lit false)) => conj ps (awp P T N y s Q)
    | some (ps, .one (.bool b)) => conj ps (brP (isDec T) b (awp P T N x s Q) (awp P T N y s Q))
    | some (ps, .one (.nz true p)) => conj ps ((p → awp P T N x s Q) ∧ awp P T N y s Q)
    | some (ps, .one (.nz false p)) => conj ps (awp P T N x s Q ∧ (p → awp P T N y s Q))
    | _ => False
  | .block id body, s, Q => awp P T N body s (AExit.inBlock id Q)
  | .loop body, s, Q => match N.loop (firstRegion body) s with
    | some A => LoopWith A (awp P T N body) s Q
    | none => LoopVC (awp P T N body) s Q
  | .exit id, s, Q => Q (.exit id) s
  | .ret, s, Q => Q .ret s
  | .scope c, s, Q => awp P T N c s Q
  | .label _, s, Q => Q .normal s
  | _, _, _ => False

def argSl : Nat → List SV → List (Nat × SV) → List (Nat × SV)
  | _, [], acc => acc
  | i, v :: r, acc => argSl (i + 1) r ((i, v.plain) :: acc)

def initSt (fn : Func) (args : List SV) (H : List AObj) : St :=
  { n0 := H.length, N := args.length + (fn.ntmps - args.length), sl := argSl 0 args [], H := H }

def fnPost (P : Program) (fn : Func) (K : SV → List AObj → Prop) : AExit → St → Prop
  | .normal, s => resVC P fn s K
  | .ret, s => resVC P fn s K
  | .exit _, _ => False

def fnVC (P : Program) (T : Tab) (N : Anns) (fn : Func) (args : List SV) (H : List AObj) (K : SV → List AObj → Prop) : Prop :=
  match fn.body with
  | some body => awp P T N body (initSt fn args H) (fnPost P fn K)
  | none => False

end Go.Proofs.Ythjogeodclpafaa.AM
