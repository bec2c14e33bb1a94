/- Parts of the proof. The queue chapter: what is told of its functions. The queue chapter: what a queue does. The queue chapter: leases. The queue chapter: taking an item. The queue chapter: QueueRoom. The queue chapter: what the laws call. The queue chapter: the laws on folds and waiting items. The queue chapter: the laws on leases. Conditions of functions in normal form, as printed by a program of this seat. Conditions of functions in normal form, as printed by a program of this seat. Conditions of functions in normal form, as printed by a program of this seat. Conditions of functions in normal form, as printed by a program of this seat. Conditions of functions in normal form, as printed by a program of this seat. Conditions of functions in normal form, as printed by a program of this seat. Conditions of functions in normal form, as printed by a program of this seat. Conditions of functions in normal form, as printed by a program of this seat. Conditions of functions in normal form, as printed by a program of this seat. Conditions of functions in normal form, as printed by a program of this seat. The queue chapter: what its small functions do. The queue chapter: what a queue does. The queue chapter: applying a change. The queue chapter: leases. The queue chapter: giving a lease. The queue chapter: taking an item. QueueRoom: how many items may wait. -/
import Derived.Test.YthjogeodclpafaaM4
import Derived.KernelRfl
set_option linter.unusedVariables false
set_option linter.unusedSimpArgs false

section
namespace Go.Proofs.Ythjogeodclpafaa.AM
open Go Go.Proofs.Ythjogeodclpafaa

/-- A queue of the program. -/
abbrev qC (n m : Nat) (p : Int) : AObj := .cells 76 [.hd n, .hd m, .int .i64 p]

/-! ### What is told of each function -/
def S69 : Spec := ⟨[], fun vs H K => match vs, H with
  | [(.t (.one (.str s)))], [] => K (bv (keyB s)) []
  | _, _ => False⟩
def S70 : Spec := ⟨[], fun vs H K => match vs, H with
  | [(.t (.one (.str s)))], [] => K (bv (valueB s)) []
  | _, _ => False⟩
def S60 : Spec := ⟨[], fun vs H K => match vs, H with
  | [.t (.agg [.int .i64 a, .str _]), (.t (.one (.ptr 0 0)))], [.cells 3 [.int .i64 n]] => K (bv (a == n)) [.cells 3 [.int .i64 n]]
  | _, _ => False⟩
def S62 : Spec := ⟨[], fun vs H K => match vs, H with
  | [.t (.agg [.int .i64 a, .int .i64 _, .int .i64 _, .int .i64 _]), (.t (.one (.ptr 0 0)))], [.cells 3 [.int .i64 n]] => K (bv (a == n)) [.cells 3 [.int .i64 n]]
  | _, _ => False⟩
def L1 : List (Nat × Spec) := [(69, S69), (70, S70), (60, S60), (62, S62)]

def S58 : Spec := ⟨[], fun vs H K => match vs, H with
  | [.t (.agg [.int .i64 a, .int .i64 b, .int .i64 c, .int .i64 d, .int .i64 e, .int .i64 f, .str g, .str h])], [] => K (bv (validC (a, b, c, d, e, f, g, h))) []
  | _, _ => False⟩
def S59 : Spec := ⟨[], fun vs H K => match vs, H with
  | [(.t (.one (.hd 0))), .t (.one (.fn 60 [1]))], [(.row 52 (.pair (.int .i64) .str) xs), .cells 3 [.int .i64 n]] => xs.length ≤ lenMax ∧ K (iv (idxE (fun w => w.1 == n) xs)) [tR xs, .cells 3 [.int .i64 n]]
  | _, _ => False⟩
def S61 : Spec := ⟨[], fun vs H K => match vs, H with
  | [(.t (.one (.hd 0))), .t (.one (.fn 62 [1]))], [(.row 54 (.pair (.int .i64) (.pair (.int .i64) (.pair (.int .i64) (.int .i64)))) xs), .cells 3 [.int .i64 n]] => xs.length ≤ lenMax ∧ K (iv (idxE (fun w => w.1 == n) xs)) [lR xs, .cells 3 [.int .i64 n]]
  | _, _ => False⟩
def S44 : Spec := ⟨[], fun vs H K => match vs, H with
  | [(.t (.one (.hd 0))), (.t (.one (.int .i64 i))), (.t (.one (.int .i64 j)))], [(.row 52 (.pair (.int .i64) .str) xs)] => j = i + 1 ∧ 0 ≤ i ∧ i < xs.length ∧ xs.length ≤ lenMax ∧ K (hv 1) [.dead, tR (xs.take i.toNat ++ xs.drop (i.toNat + 1))]
  | _, _ => False⟩
def S46 : Spec := ⟨[], fun vs H K => match vs, H with
  | [(.t (.one (.hd 0))), (.t (.one (.int .i64 i))), (.t (.one (.int .i64 j)))], [(.row 54 (.pair (.int .i64) (.pair (.int .i64) (.pair (.int .i64) (.int .i64)))) xs)] => j = i + 1 ∧ 0 ≤ i ∧ i < xs.length ∧ xs.length ≤ lenMax ∧ K (hv 1) [.dead, lR (xs.take i.toNat ++ xs.drop (i.toNat + 1))]
  | _, _ => False⟩
def S47 : Spec := ⟨[true], fun vs H K => match vs, H with
  | [(.t (.one (.fsl 52 (.pair (.int .i64) .str) xs)))], [] => xs.length ≤ lenMax ∧ K (hv 0) [tR xs]
  | _, _ => False⟩
def S55 : Spec := ⟨[true], fun vs H K => match vs, H with
  | [(.t (.one (.fsl 54 (.pair (.int .i64) (.pair (.int .i64) (.pair (.int .i64) (.int .i64)))) xs)))], [] => xs.length ≤ lenMax ∧ K (hv 0) [lR xs]
  | _, _ => False⟩
def L2 : List (Nat × Spec) := (58, S58) :: (59, S59) :: (61, S61) :: (44, S44) :: (46, S46) :: (47, S47) :: (55, S55) :: L1

def N59 {α : Type} (p : α → Bool) (ws : List α) : Anns := { loop := fun r s => match r with
  | 2 => annOf (α := Nat) [0, 1, 7, 8] [] s (fun k => [(8, iv k)]) (fun _ => []) (fun _ k => k ≤ ws.findIdx p) (fun k => ws.length - k)
  | _ => none }
end Go.Proofs.Ythjogeodclpafaa.AM
end

section
namespace Go.Proofs.Ythjogeodclpafaa.AM
open Go Go.Proofs.Ythjogeodclpafaa

def leaseQ (ls : List Le) (n : Int) : Int := idxE (fun w => w.1 == n) ls
def checkQ (q : Q) (x : Ch) : Int :=
  if validC x = false then 1 else if x.2.2.1 = 3 ∧ x.2.1 ≤ q.2.2 then 36 else if x.2.2.1 = 3 ∧ q.1.length ≥ 16 then 33 else if x.2.2.1 = 4 ∧ atQ q.1 x.2.2.2.2.2.1 < 0 then 34 else 0
def dropAt {α : Type} (xs : List α) (i : Int) : List α := if i < 0 then xs else xs.take i.toNat ++ xs.drop (i.toNat + 1)
def applyQ (q : Q) (x : Ch) : Int × Q :=
  if checkQ q x ≠ 0 then (checkQ q x, q)
  else if x.2.2.1 = 3 then (0, (q.1 ++ [(x.2.1, x.2.2.2.2.2.2.2)], q.2.1, x.2.1))
  else if x.2.2.1 = 4 then (0, (dropAt q.1 (atQ q.1 x.2.2.2.2.2.1), dropAt q.2.1 (leaseQ q.2.1 x.2.2.2.2.2.1), q.2.2))
  else (0, q)

def S43 : Spec := ⟨[], fun vs H K => match vs, H with
  | [(.t (.one (.ptr 0 0))), (.t (.one (.int .i64 n)))], [(.cells 76 [.hd 1, .hd 2, .int .i64 p]), (.row 52 (.pair (.int .i64) .str) xs), (.row 54 (.pair (.int .i64) (.pair (.int .i64) (.pair (.int .i64) (.int .i64)))) ls)] => xs.length ≤ lenMax ∧ K (iv (atQ xs n)) [qC 1 2 p, tR xs, lR ls]
  | _, _ => False⟩
def S45 : Spec := ⟨[], fun vs H K => match vs, H with
  | [(.t (.one (.ptr 0 0))), (.t (.one (.int .i64 n)))], [(.cells 76 [.hd 1, .hd 2, .int .i64 p]), (.row 52 (.pair (.int .i64) .str) xs), (.row 54 (.pair (.int .i64) (.pair (.int .i64) (.pair (.int .i64) (.int .i64)))) ls)] => ls.length ≤ lenMax ∧ K (iv (leaseQ ls n)) [qC 1 2 p, tR xs, lR ls]
  | _, _ => False⟩
def L3 : List (Nat × Spec) := (43, S43) :: (45, S45) :: L2
def S42 : Spec := ⟨[], fun vs H K => match vs, H with
  | [(.t (.one (.ptr 0 0))), .t (.agg [.int .i64 a, .int .i64 b, .int .i64 c, .int .i64 d, .int .i64 e, .int .i64 f, .str g, .str h])], [(.cells 76 [.hd 1, .hd 2, .int .i64 p]), (.row 52 (.pair (.int .i64) .str) xs), (.row 54 (.pair (.int .i64) (.pair (.int .i64) (.pair (.int .i64) (.int .i64)))) ls)] =>
    xs.length ≤ lenMax ∧ K (iv (checkQ (xs, ls, p) (a, b, c, d, e, f, g, h))) [qC 1 2 p, tR xs, lR ls]
  | _, _ => False⟩
def L4 : List (Nat × Spec) := (42, S42) :: L3
def S12 : Spec := ⟨[], fun vs H K => match vs, H with
  | [], [] => K (pv 0) [qC 1 2 0, tR [], lR []]
  | _, _ => False⟩
def S14 : Spec := ⟨[], fun vs H K => match vs, H with
  | [(.t (.one (.int .i64 n))), (.t (.one (.str s)))], [] => K (cv (1, n, 3, 1, n, 0, ⟨#[]⟩, s)) []
  | _, _ => False⟩
def S15 : Spec := ⟨[], fun vs H K => match vs, H with
  | [(.t (.one (.int .i64 n))), (.t (.one (.int .i64 m)))], [] => K (cv (1, n, 4, 1, n, m, ⟨#[]⟩, ⟨#[]⟩)) []
  | _, _ => False⟩
def S16 : Spec := ⟨[], fun vs H K => match vs, H with
  | [(.t (.one (.ptr 0 0)))], [(.cells 76 [.hd 1, .hd 2, .int .i64 p]), (.row 52 (.pair (.int .i64) .str) xs), (.row 54 (.pair (.int .i64) (.pair (.int .i64) (.pair (.int .i64) (.int .i64)))) ls)] => xs.length ≤ lenMax ∧ K (hv 3) [qC 1 2 p, tR xs, lR ls, tR xs]
  | _, _ => False⟩
def S13 : Spec := ⟨[], fun vs H K => match vs, H with
  | [(.t (.one (.ptr 0 0))), .t (.agg [.int .i64 a, .int .i64 b, .int .i64 c, .int .i64 d, .int .i64 e, .int .i64 f, .str g, .str h])], [(.cells 76 [.hd 1, .hd 2, .int .i64 p]), (.row 52 (.pair (.int .i64) .str) xs), (.row 54 (.pair (.int .i64) (.pair (.int .i64) (.pair (.int .i64) (.int .i64)))) ls)] =>
    xs.length ≤ lenMax ∧ ls.length ≤ lenMax ∧ K (iv (applyQ (xs, ls, p) (a, b, c, d, e, f, g, h)).1) [qC 3 4 (applyQ (xs, ls, p) (a, b, c, d, e, f, g, h)).2.2.2, .dead, .dead, tR (applyQ (xs, ls, p) (a, b, c, d, e, f, g, h)).2.1, lR (applyQ (xs, ls, p) (a, b, c, d, e, f, g, h)).2.2.1]
  | _, _ => False⟩
def L5 : List (Nat × Spec) := (13, S13) :: (12, S12) :: (14, S14) :: (15, S15) :: (16, S16) :: L4
end Go.Proofs.Ythjogeodclpafaa.AM
end

section
namespace Go.Proofs.Ythjogeodclpafaa.AM
open Go Go.Proofs.Ythjogeodclpafaa

def liveL (e t : Int) (l : Le) : Bool := (l.2.2.1 == e) && decide (t < l.2.2.2)
def posL (ls : List Le) (n : Int) : Nat := (ls.takeWhile fun y => decide (y.1 < n)).length
def giveQ (ls : List Le) (l : Le) : List Le := if leaseQ ls l.1 ≥ 0 then ls.set (leaseQ ls l.1).toNat l else ls.take (posL ls l.1) ++ [l] ++ ls.drop (posL ls l.1)

def S50 : Spec := ⟨[], fun vs H K => match vs, H with
  | [.t (.agg [.int .i64 a, .int .i64 b, .int .i64 c, .int .i64 d]), (.t (.one (.int .i64 e))), (.t (.one (.int .i64 t)))], [] => K (bv (liveL e t (a, b, c, d))) []
  | _, _ => False⟩
def S65 : Spec := ⟨[], fun vs H K => match vs, H with
  | [(.t (.one (.hd 0))), (.t (.one (.int .i64 i))), (.t (.one (.hd 1)))], [(.row 54 (.pair (.int .i64) (.pair (.int .i64) (.pair (.int .i64) (.int .i64)))) ws), (.row 54 (.pair (.int .i64) (.pair (.int .i64) (.pair (.int .i64) (.int .i64)))) [v])] => 0 ≤ i ∧ i.toNat ≤ ws.length ∧ ws.length ≤ lenMax ∧ K (hv 2) [.dead, lR [v], lR (ws.take i.toNat ++ [v] ++ ws.drop i.toNat)]
  | _, _ => False⟩
def S51 : Spec := ⟨[], fun vs H K => match vs, H with
  | [(.t (.one (.ptr 0 0))), .t (.agg [.int .i64 a, .int .i64 b, .int .i64 c, .int .i64 d])], [(.cells 76 [.hd 1, .hd 2, .int .i64 p]), (.row 52 (.pair (.int .i64) .str) xs), (.row 54 (.pair (.int .i64) (.pair (.int .i64) (.pair (.int .i64) (.int .i64)))) ls)] =>
    ls.length ≤ lenMax ∧ K (.tup []) [qC 1 3 p, tR xs, .dead, lR (giveQ ls (a, b, c, d))]
  | _, _ => False⟩
def L6 : List (Nat × Spec) := (50, S50) :: (65, S65) :: L5
def L7 : List (Nat × Spec) := (51, S51) :: L6
def N51 (ls : List Le) (n : Int) : Anns := { loop := fun r s => match r with
  | 5 => annOf (α := Nat) [0, 3, 5] [] s (fun k => [(5, iv k)]) (fun _ => []) (fun _ k => k ≤ posL ls n) (fun k => ls.length - k)
  | _ => none }
end Go.Proofs.Ythjogeodclpafaa.AM
end

section
namespace Go.Proofs.Ythjogeodclpafaa.AM
open Go Go.Proofs.Ythjogeodclpafaa

def hitL (e t n : Int) (l : Le) : Bool := (l.1 == n) && liveL e t l
def freeQ (ls : List Le) (e t : Int) (x : Tm) : Bool := !(ls.any (hitL e t x.1))
def takeQ (q : Q) (c e t h : Int) : (Tm × Le × Int) × Q :=
  if badT c e t h then (((0, ⟨#[]⟩), (0, 0, 0, 0), 1), q)
  else match q.1.find? (freeQ q.2.1 e t) with
    | some x => ((x, (x.1, c, e, t + h), 0), (q.1, giveQ q.2.1 (x.1, c, e, t + h), q.2.2))
    | none => (((0, ⟨#[]⟩), (0, 0, 0, 0), 34), q)
def N23 (xs : List Tm) (ls : List Le) (e t : Int) : Anns := { loop := fun r s => match r with
  | 4 => annOf (α := Nat) [0, 1, 2, 3, 4, 10, 11, 53, 54, 55] [] s (fun i => [(55, iv i)]) (fun _ => []) (fun _ i => i ≤ xs.findIdx (freeQ ls e t)) (fun i => xs.length - i)
  | 7 => annOf (α := Nat) [0, 1, 2, 3, 4, 10, 11, 14, 53, 54, 55, 62, 63, 64] [] s (fun k => [(64, iv k)]) (fun _ => []) (fun c k => k ≤ ls.findIdx (hitL e t (cellAt c 5 0))) (fun k => ls.length - k)
  | _ => none }
abbrev tkV (r : Tm × Le × Int) : SV := .tup [.agg [.int .i64 r.1.1, .str r.1.2], .agg [.int .i64 r.2.1.1, .int .i64 r.2.1.2.1, .int .i64 r.2.1.2.2.1, .int .i64 r.2.1.2.2.2], .one (.int .i64 r.2.2)]
def S23 : Spec := ⟨[], fun vs H K => match vs, H with
  | [(.t (.one (.ptr 0 0))), (.t (.one (.int .i64 c))), (.t (.one (.int .i64 e))), (.t (.one (.int .i64 t))), (.t (.one (.int .i64 h)))], [(.cells 76 [.hd 1, .hd 2, .int .i64 p]), (.row 52 (.pair (.int .i64) .str) xs), (.row 54 (.pair (.int .i64) (.pair (.int .i64) (.pair (.int .i64) (.int .i64)))) ls)] =>
    xs.length ≤ lenMax ∧ ls.length ≤ lenMax ∧ K (tkV (takeQ (xs, ls, p) c e t h).1) [qC 1 3 p, tR xs, .dead, lR (takeQ (xs, ls, p) c e t h).2.2.1]
  | _, _ => False⟩
def L8 : List (Nat × Spec) := (23, S23) :: L7
/-- That truth values are computed. -/
def Ld : List (Nat × Spec) := (4000000007, ⟨[], fun _ _ _ => False⟩) :: L8
end Go.Proofs.Ythjogeodclpafaa.AM
end

section
namespace Go.Proofs.Ythjogeodclpafaa.AM
open Go Go.Proofs.Ythjogeodclpafaa

def roomX (m : Int) (v : ByteArray) (k : Nat) : List Tm := (List.range k).map fun (j : Nat) => ((m + ((j : Int) + 1) : Int), v)
def roomP (m : Int) (k : Nat) : Int := if k = 0 then 0 else m + k
def S11 : Spec := ⟨[], fun vs H K => match vs, H with
  | [(.t (.one (.int .i64 a))), (.t (.one (.int .i64 b)))], [] => 0 < b ∧ b ≤ 1099511627776 ∧ K (iv (a % b)) []
  | _, _ => False⟩
def S10 : Spec := ⟨[], fun vs H K => match vs, H with
  | [], [] => K (bv true) []
  | _, _ => False⟩
/-- With names for what comes out. -/
def S13n : Spec := ⟨[], fun vs H K => match vs, H with
  | [(.t (.one (.ptr 0 0))), .t (.agg [.int .i64 a, .int .i64 b, .int .i64 c, .int .i64 d, .int .i64 e, .int .i64 f, .str g, .str h])], [(.cells 76 [.hd 1, .hd 2, .int .i64 p]), (.row 52 (.pair (.int .i64) .str) xs), (.row 54 (.pair (.int .i64) (.pair (.int .i64) (.pair (.int .i64) (.int .i64)))) ls)] =>
    xs.length ≤ lenMax ∧ ls.length ≤ lenMax ∧ ∀ r : Int × Q, r = applyQ (xs, ls, p) (a, b, c, d, e, f, g, h) → K (iv r.1) [qC 3 4 r.2.2.2, .dead, .dead, tR r.2.1, lR r.2.2.1]
  | _, _ => False⟩
def S23n : Spec := ⟨[], fun vs H K => match vs, H with
  | [(.t (.one (.ptr 0 0))), (.t (.one (.int .i64 c))), (.t (.one (.int .i64 e))), (.t (.one (.int .i64 t))), (.t (.one (.int .i64 h)))], [(.cells 76 [.hd 1, .hd 2, .int .i64 p]), (.row 52 (.pair (.int .i64) .str) xs), (.row 54 (.pair (.int .i64) (.pair (.int .i64) (.pair (.int .i64) (.int .i64)))) ls)] =>
    xs.length ≤ lenMax ∧ ls.length ≤ lenMax ∧ ∀ r : (Tm × Le × Int) × Q, r = takeQ (xs, ls, p) c e t h → K (tkV r.1) [qC 1 3 p, tR xs, .dead, lR r.2.2.1]
  | _, _ => False⟩
def L9 : List (Nat × Spec) := (10, S10) :: (11, S11) :: (13, S13n) :: (23, S23n) :: L8
def N3 (m : Int) (v : ByteArray) : Anns := { loop := fun r s => match r with
  | 8 => annOf (α := Nat) [0, 1, 5, 6] [] s (fun k => [(6, iv ((k : Int) + 1))]) (fun k => [(0, qC 1 2 (roomP m k)), (1, tR (roomX m v k))]) (fun _ k => k ≤ 16) (fun k => 16 - k)
  | _ => none }
end Go.Proofs.Ythjogeodclpafaa.AM
end

section
namespace Go.Proofs.Ythjogeodclpafaa.AM
open Go Go.Proofs.Ythjogeodclpafaa

def L10 : List (Nat × Spec) := L9 ++ LB6
def q0 : Q := ([], [], 0)
def S_FoldQ : Spec := ⟨[true], fun vs H K => match vs, H with
  | [(.t (.one (.fsl 29 (.pair (.int .i64) (.pair (.int .i64) (.pair (.int .i64) (.pair (.int .i64) (.pair (.int .i64) (.pair (.int .i64) (.pair .str .str))))))) h)))], [] => h.length ≤ 1000000 ∧ ∀ r : Int × Int × Q, r = foldF applyQ h 0 q0 →
    (r.2.1 = 0 → K (.tup [.one (.ptr 0 0), .one (.int .i64 r.1), .one (.int .i64 0)]) [qC 1 2 r.2.2.2.2, tR r.2.2.1, lR r.2.2.2.1]) ∧
    (r.2.1 ≠ 0 → K (.tup [.one .nilp, .one (.int .i64 r.1), .one (.int .i64 r.2.1)]) [])
  | _, _ => False⟩
def S_FoldR : Spec := ⟨[true], fun vs H K => match vs, H with
  | [(.t (.one (.fsl 29 (.pair (.int .i64) (.pair (.int .i64) (.pair (.int .i64) (.pair (.int .i64) (.pair (.int .i64) (.pair (.int .i64) (.pair .str .str))))))) h)))], [] => h.length ≤ 1000000 ∧ ∀ r : Int × Int × Q, r = foldF applyR h 0 q0 →
    (r.2.1 = 0 → K (.tup [.one (.ptr 0 0), .one (.int .i64 r.1), .one (.int .i64 0)]) [rC r.2.2.1 r.2.2.2.1 r.2.2.2.2]) ∧
    (r.2.1 ≠ 0 → K (.tup [.one .nilp, .one (.int .i64 r.1), .one (.int .i64 r.2.1)]) [])
  | _, _ => False⟩
def S_Leases : Spec := ⟨[], fun vs H K => match vs, H with
  | [(.t (.one (.ptr 0 0))), (.t (.one (.int .i64 e))), (.t (.one (.int .i64 t)))], [(.cells 76 [.hd 1, .hd 2, .int .i64 p]), (.row 52 (.pair (.int .i64) .str) xs), (.row 54 (.pair (.int .i64) (.pair (.int .i64) (.pair (.int .i64) (.int .i64)))) ls)] => ls.length ≤ lenMax ∧ K (hv 3) [qC 1 2 p, tR xs, lR ls, lR (ls.filter (liveL e t))]
  | _, _ => False⟩
def holdsQ (ls : List Le) (c e i t : Int) : Bool := match ls.find? (fun l => l.1 == i) with
  | some l => (l.2.1 == c) && liveL e t l
  | none => false
def S_Holds : Spec := ⟨[], fun vs H K => match vs, H with
  | [(.t (.one (.ptr 0 0))), (.t (.one (.int .i64 c))), (.t (.one (.int .i64 e))), (.t (.one (.int .i64 i))), (.t (.one (.int .i64 t)))], [(.cells 76 [.hd 1, .hd 2, .int .i64 p]), (.row 52 (.pair (.int .i64) .str) xs), (.row 54 (.pair (.int .i64) (.pair (.int .i64) (.pair (.int .i64) (.int .i64)))) ls)] => ls.length ≤ lenMax ∧ K (bv (holdsQ ls c e i t)) [qC 1 2 p, tR xs, lR ls]
  | _, _ => False⟩
def S_CopyQ : Spec := ⟨[], fun vs H K => match vs, H with
  | [(.t (.one (.ptr 0 0)))], [(.cells 76 [.hd 1, .hd 2, .int .i64 p]), (.row 52 (.pair (.int .i64) .str) xs), (.row 54 (.pair (.int .i64) (.pair (.int .i64) (.pair (.int .i64) (.int .i64)))) ls)] => xs.length ≤ lenMax ∧ ls.length ≤ lenMax ∧ K (pv 3) [qC 1 2 p, tR xs, lR ls, qC 4 5 p, tR xs, lR ls]
  | _, _ => False⟩
def S_EqualT : Spec := ⟨[true, true], fun vs H K => match vs, H with
  | [(.t (.one (.fsl 52 (.pair (.int .i64) .str) a))), (.t (.one (.fsl 52 (.pair (.int .i64) .str) b)))], [] => a.length ≤ lenMax ∧ K (bv (decide (a = b))) []
  | _, _ => False⟩
def S_SameL : Spec := ⟨[true, true], fun vs H K => match vs, H with
  | [(.t (.one (.fsl 54 (.pair (.int .i64) (.pair (.int .i64) (.pair (.int .i64) (.int .i64)))) a))), (.t (.one (.fsl 54 (.pair (.int .i64) (.pair (.int .i64) (.pair (.int .i64) (.int .i64)))) b)))], [] => a.length ≤ lenMax ∧ K (bv (decide (a = b))) []
  | _, _ => False⟩
def S_Few : Spec := ⟨[true], fun vs H K => match vs, H with
  | [(.t (.one (.fsl 29 (.pair (.int .i64) (.pair (.int .i64) (.pair (.int .i64) (.pair (.int .i64) (.pair (.int .i64) (.pair (.int .i64) (.pair .str .str))))))) l))), (.t (.one (.int .i64 n)))], [] => n ≤ (1099511627776 : Int) ∧ K (bv (fewB l n)) []
  | _, _ => False⟩
def S_live25 : Spec := ⟨[], fun vs H K => match vs, H with
  | [(.t (.one (.ptr 0 0))), (.t (.one (.int .i64 e))), (.t (.one (.int .i64 i))), (.t (.one (.int .i64 t)))], [(.cells 49 [.fsl 52 (.pair (.int .i64) .str) xs, .fsl 54 (.pair (.int .i64) (.pair (.int .i64) (.pair (.int .i64) (.int .i64)))) ls, .int .i64 p])] => ls.length ≤ lenMax ∧ ∀ r : Le × Bool, r = findR ls e i t → K (.tup [leT r.1, .one (.bool r.2)]) [rC xs ls p]
  | _, _ => False⟩
def L11 : List (Nat × Spec) := (20, S_FoldQ) :: (21, S_FoldR) :: (24, S_Leases) :: (29, S_Holds) :: (33, S_CopyQ) :: (57, S_EqualT) :: (22, S_EqualT) :: (36, S_SameL) :: (17, S_Few) :: (56, S_live25) :: (32, inl Try.f32 []) :: L10
def S_take25 : Spec := ⟨[], fun vs H K => match vs, H with
  | [(.t (.one (.ptr 0 0))), (.t (.one (.int .i64 c))), (.t (.one (.int .i64 e))), (.t (.one (.int .i64 t))), (.t (.one (.int .i64 h)))], [(.cells 49 [.fsl 52 (.pair (.int .i64) .str) xs, .fsl 54 (.pair (.int .i64) (.pair (.int .i64) (.pair (.int .i64) (.int .i64)))) ls, .int .i64 p])] => xs.length ≤ lenMax ∧ ls.length ≤ lenMax ∧ ∀ r : (Tm × Le × Int) × Q, r = takeR (xs, ls, p) c e t h → K (tkV r.1) [rC xs r.2.2.1 p]
  | _, _ => False⟩
def S_leases25 : Spec := ⟨[], fun vs H K => match vs, H with
  | [(.t (.one (.ptr 0 0))), (.t (.one (.int .i64 e))), (.t (.one (.int .i64 t)))], [(.cells 49 [.fsl 52 (.pair (.int .i64) .str) xs, .fsl 54 (.pair (.int .i64) (.pair (.int .i64) (.pair (.int .i64) (.int .i64)))) ls, .int .i64 p])] => xs.length ≤ lenMax ∧ ls.length ≤ lenMax ∧ K (hv 1) [rC xs ls p, lR (leasesR (xs, ls, p) e t)]
  | _, _ => False⟩
def S_SameQ : Spec := ⟨[], fun vs H K => match vs, H with
  | [(.t (.one (.ptr 0 0))), (.t (.one (.ptr 1 0)))], [(.cells 76 [.hd 2, .hd 3, .int .i64 p]), (.cells 76 [.hd 4, .hd 5, .int .i64 p']), (.row 52 (.pair (.int .i64) .str) xs), (.row 54 (.pair (.int .i64) (.pair (.int .i64) (.pair (.int .i64) (.int .i64)))) ls), (.row 52 (.pair (.int .i64) .str) xs'), (.row 54 (.pair (.int .i64) (.pair (.int .i64) (.pair (.int .i64) (.int .i64)))) ls')] => xs.length ≤ lenMax ∧ K (bv ((p == p') && decide (xs = xs'))) [qC 2 3 p, qC 4 5 p', tR xs, lR ls, tR xs', lR ls']
  | _, _ => False⟩
def S_SameR : Spec := ⟨[], fun vs H K => match vs, H with
  | [(.t (.one (.ptr 0 0))), (.t (.one (.ptr 1 0)))], [(.cells 49 [.fsl 52 (.pair (.int .i64) .str) xs, .fsl 54 (.pair (.int .i64) (.pair (.int .i64) (.pair (.int .i64) (.int .i64)))) ls, .int .i64 p]), (.cells 49 [.fsl 52 (.pair (.int .i64) .str) xs', .fsl 54 (.pair (.int .i64) (.pair (.int .i64) (.pair (.int .i64) (.int .i64)))) ls', .int .i64 p'])] => xs.length ≤ lenMax ∧ K (bv (decide (xs = xs') && (p == p'))) [rC xs ls p, rC xs' ls' p']
  | _, _ => False⟩
def L12 : List (Nat × Spec) := (35, S_take25) :: (37, S_leases25) :: (40, S_SameQ) :: (41, S_SameR) :: (38, inl Try.f38 L11) :: L11

def N_FoldQ (h : List Ch) : Anns := { loop := fun r s => match r with
  | 3 => annOf (α := Nat) [0, 5, 10, 11, 12] [] s (fun i => [(12, iv i)]) (fun i => [(0, qC 1 2 (runF applyQ (h.take i) q0).2.2), (1, tR (runF applyQ (h.take i) q0).1), (2, lR (runF applyQ (h.take i) q0).2.1)])
      (fun _ i => i ≤ h.length ∧ foldF applyQ h 0 q0 = foldF applyQ (h.drop i) i (runF applyQ (h.take i) q0)) (fun i => h.length - i)
  | _ => none }
def N_FoldR (h : List Ch) : Anns := { loop := fun r s => match r with
  | 3 => annOf (α := Nat) [0, 5, 11, 12, 13] [(2000005, 0, .bool)] s (fun i => [(13, iv i)]) (fun i => [(0, rC (runF applyR (h.take i) q0).1 (runF applyR (h.take i) q0).2.1 (runF applyR (h.take i) q0).2.2)])
      (fun _ i => i ≤ h.length ∧ foldF applyR h 0 q0 = foldF applyR (h.drop i) i (runF applyR (h.take i) q0)) (fun i => h.length - i)
  | _ => none }
def N_Leases (ls : List Le) (e t : Int) : Anns := { loop := fun r s => match r with
  | 3 => annOf (α := Nat) [1, 2, 7, 13, 14, 15] [(7, 54, Lease)] s (fun k => [(15, iv k), (7, hv 3)]) (fun k => [(3, lR ((ls.take k).filter (liveL e t)))]) (fun _ k => k ≤ ls.length) (fun k => ls.length - k)
  | _ => none }
def N_Equal {α : Type} (a b : List α) : Anns := { loop := fun r s => match r with
  | 4 => annOf (α := Nat) [0, 1, 12, 13] [] s (fun k => [(13, iv k)]) (fun _ => []) (fun _ k => k ≤ a.length ∧ a.take k = b.take k) (fun k => a.length - k)
  | _ => none }
def N_Few (l : List Ch) : Anns := { loop := fun r s => match r with
  | 2 => annOf (α := Nat) [0, 1, 5] [] s (fun k => [(5, iv k)]) (fun _ => []) (fun _ k => k ≤ l.length ∧ (l.take k).all shortC = true) (fun k => l.length - k)
  | _ => none }
def N_live25 (ls : List Le) (e i t : Int) : Anns := { loop := fun r s => match r with
  | 2 => annOf (α := Nat) [1, 2, 3, 8, 15, 16, 17] [] s (fun k => [(17, iv k)]) (fun _ => []) (fun _ k => k ≤ ls.findIdx (liveR e i t)) (fun k => ls.length - k)
  | _ => none }
def freeR (ls : List Le) (e t : Int) (x : Tm) : Bool := !(findR ls e x.1 t).2
def N_take25 (xs : List Tm) (ls : List Le) (e t : Int) : Anns := { loop := fun r s => match r with
  | 4 => annOf (α := Nat) [0, 1, 2, 3, 4, 10, 11, 53, 54, 55] [] s (fun k => [(55, iv k)]) (fun _ => []) (fun _ k => k ≤ xs.findIdx (freeR ls e t)) (fun k => xs.length - k)
  | _ => none }
def N_leases25 (xs : List Tm) (ls : List Le) (p e t : Int) : Anns := { loop := fun r s => match r with
  | 3 => annOf (α := Nat) [0, 1, 2, 7, 15, 16, 17] [(7, 54, Lease)] s (fun k => [(17, iv k), (7, hv 1)]) (fun k => [(1, lR (leasesR (xs.take k, ls, p) e t))]) (fun _ k => k ≤ xs.length) (fun k => xs.length - k)
  | _ => none }
end Go.Proofs.Ythjogeodclpafaa.AM
end

section
namespace Go.Proofs.Ythjogeodclpafaa.AM
open Go Go.Proofs.Ythjogeodclpafaa

def N4 : Anns := { loop := fun r s => match r with
  | 7 => annOf (α := Nat) [37, 38, 39] [] s (fun k => [(39, iv k)]) (fun _ => []) (fun _ k => k ≤ 3) (fun k => 3 - k)
  | _ => none }
/-- Is this push not finished within the changes? -/
def closesB (x y : Ch) : Bool := (y.2.2.1 != 4) || (y.2.2.2.2.2.1 != x.2.1)
def waitB (h : List Ch) (x : Ch) : Bool := (x.2.2.1 == 3) && h.all (closesB x)
def waitsF (h g : List Ch) : List Tm := (g.filter (waitB h)).map fun x => (x.2.1, x.2.2.2.2.2.2.2)
def N5 (h : List Ch) : Anns := { loop := fun r s => match r with
  | 11 => annOf (α := Nat) [3, 4, 7, 32, 33, 34] [(7, 52, Item)] s (fun k => [(34, iv k), (7, hv 1)]) (fun k => [(1, tR (waitsF h (h.take k)))]) (fun _ k => k ≤ h.length) (fun k => h.length - k)
  | 16 => annOf (α := Nat) [3, 4, 7, 9, 10, 32, 33, 34, 41, 42, 43] [] s (fun k => [(43, iv k), (10, bv ((h.take k).all (closesB (h.getD (intAt s 34).toNat Change.zero))))]) (fun _ => []) (fun _ k => k ≤ h.length) (fun k => h.length - k)
  | _ => none }
end Go.Proofs.Ythjogeodclpafaa.AM
end

section
namespace Go.Proofs.Ythjogeodclpafaa.AM
open Go Go.Proofs.Ythjogeodclpafaa

abbrev ActT : Ty := .pair I (.pair I (.pair I (.pair I (.pair I Change))))
abbrev Ac := ActT.D
def lightB (l : List Ac) : Bool := decide ((l.length : Int) ≤ 80) && l.all fun a => shortC a.2.2.2.2.2
def S_light : Spec := ⟨[true], fun vs H K => match vs, H with
  | [.t (.one (.fsl 67 (.pair (.int .i64) (.pair (.int .i64) (.pair (.int .i64) (.pair (.int .i64) (.pair (.int .i64) (.pair (.int .i64) (.pair (.int .i64) (.pair (.int .i64) (.pair (.int .i64) (.pair (.int .i64) (.pair (.int .i64) (.pair .str .str)))))))))))) l))], [] => K (bv (lightB l)) []
  | _, _ => False⟩
def N_light (l : List Ac) : Anns := { loop := fun r s => match r with
  | 2 => annOf (α := Nat) [0, 3] [] s (fun k => [(3, iv k)]) (fun _ => []) (fun _ k => k ≤ l.length ∧ ((l.take k).all fun a => shortC a.2.2.2.2.2) = true) (fun k => l.length - k)
  | _ => none }
def L13 : List (Nat × Spec) := (30, S_light) :: L12

/-- All items are leased: i of them under the next epoch. -/
def turnsL (xs : List Tm) (c t h : Int) (E i : Nat) : List Le :=
  (xs.take i).map (fun x => (x.1, c, ((E : Int) + 1), t + h)) ++ (if E = 0 then [] else (xs.drop i).map (fun x => (x.1, c, (E : Int), t + h)))
def N6 (xs : List Tm) (c t h : Int) : Anns := { loop := fun r s => match r with
  | 10 => annOf (α := Nat) [1, 2, 3, 9, 12] [] s (fun k => [(12, iv ((k : Int) + 1))]) (fun k => [(2, lR (turnsL xs c t h k 0))]) (fun _ k => k ≤ 3) (fun k => 3 - k)
  | 13 => annOf (α := Nat) [1, 2, 3, 9, 12, 52, 53, 54] [] s (fun k => [(54, iv k)]) (fun k => [(3, lR (turnsL xs c t h ((intAt s 12).toNat - 1) k))]) (fun _ k => k ≤ xs.length) (fun k => xs.length - k)
  | _ => none }

/-- Leases as they can be: in ascending order, of waiting items, of clients that there are. -/
structure LI (xs : List Tm) (ls : List Le) : Prop where
  asc : ls.Pairwise fun a b => (show Int from a.1) < b.1
  inn : ∀ l ∈ ls, ∃ x ∈ xs, (show Int from x.1) = l.1
  cl : ∀ l ∈ ls, (1 : Int) ≤ l.2.1 ∧ (8 : Int) ≥ l.2.1
def N7 (xs : List Tm) (turns : List Int) : Anns := { loop := fun r s => match r with
  | 9 => annOf (α := Nat × List Le) [2, 7, 10] [] s (fun _ => []) (fun x => [(1, tC turns (.ofNat x.1)), (3, lR x.2)]) (fun _ x => x.1 ≤ turns.length ∧ x.2.length ≤ x.1 ∧ LI xs x.2) (fun x => turns.length - x.1)
  | 12 => annOf (α := Nat) [2, 7, 11] [] s (fun k => [(11, iv ((k : Int) + 1))]) (fun _ => []) (fun _ k => k ≤ 2) (fun k => 2 - k)
  | 16 => annOf (α := Nat) [2, 7, 11, 12, 65, 66, 67] [] s (fun k => [(67, iv k)]) (fun _ => []) (fun c k => k ≤ (rowAt Lease c 1).length) (fun k => 1000000 - k)
  | 20 => annOf (α := Nat × Nat) [2, 7, 11, 12, 13, 14, 15, 16, 65, 66, 67] [] s (fun x => [(16, iv ((x.1 : Int) + 1)), (15, iv (x.2 : Nat))]) (fun _ => [])
      (fun c x => x.1 ≤ 8 ∧ x.2 = ((List.range x.1).filter fun (j : Nat) => holdsQ (rowAt Lease c 4) ((j : Int) + 1) (intAt c 11) (cellAt c 2 0) (intAt c 2)).length) (fun x => 8 - x.1)
  | 26 => annOf (α := Nat × Bool) [2, 7, 11, 12, 13, 14, 15, 17, 65, 66, 67, 86, 87, 88] [] s (fun x => [(17, bv x.2), (88, iv x.1)]) (fun _ => [])
      (fun c x => x.1 ≤ (rowAt Item c 3).length ∧ x.2 = ((rowAt Item c 3).take x.1).any (fun y => y.1 == cellAt c 2 0)) (fun x => 1000000 - x.1)
  | _ => none }
/-- What is the same of both queues, in the course of acts. -/
structure SimN (n : Nat) (q w : Q) : Prop where
  items : q.1 = w.1
  most : q.2.2 = w.2.2
  asc : q.1.Pairwise fun a b => (show Int from a.1) < b.1
  le : ∀ a ∈ q.1, (show Int from a.1) ≤ q.2.2
  lasc : q.2.1.Pairwise fun a b => (show Int from a.1) < b.1
  inn : ∀ l ∈ q.2.1, ∃ x ∈ q.1, (show Int from x.1) = l.1
  dist : w.2.1.Pairwise fun a b => (show Int from a.1) ≠ b.1
  mem : ∀ l, l ∈ q.2.1 ↔ l ∈ w.2.1
  len1 : q.1.length ≤ 60 + n
  len2 : q.2.1.length ≤ n
  len3 : w.2.1.length ≤ n
def N8 (acts : List Ac) : Anns := {
  loop := fun r s => match r with
  | 11 => annOf (α := Nat × Q × Q) [2, 3, 4, 5, 14, 17, 59, 60, 61] [] s (fun x => [(61, iv x.1)])
      (fun x => [(0, qC 2 3 x.2.1.2.2), (1, rC x.2.2.1 x.2.2.2.1 x.2.2.2.2), (2, tR x.2.1.1), (3, lR x.2.1.2.1)]) (fun _ x => x.1 ≤ acts.length ∧ SimN x.1 x.2.1 x.2.2) (fun x => acts.length - x.1)
  | _ => none
  seq := fun r s => match r with
  | 26 => annOf (α := Q × Q) [2, 3, 4, 5, 14, 17, 21, 59, 60, 61] [(2000017, 0, .bool)] s (fun _ => [])
      (fun x => [(0, qC 3 4 x.1.2.2), (1, rC x.2.1 x.2.2.1 x.2.2.2), (3, tR x.1.1), (4, lR x.1.2.1)]) (fun c x => SimN ((intAt c 61).toNat + 1) x.1 x.2)
  | _ => none }
def N9 (turns : List Int) : Anns := { loop := fun r s => match r with
  | 13 => annOf (α := Nat × List Le) [6, 9, 15, 21, 22] [] s (fun _ => []) (fun x => [(4, tC turns (.ofNat x.1)), (6, lR x.2)]) (fun _ x => x.1 ≤ turns.length ∧ x.2.length ≤ x.1) (fun x => turns.length - x.1)
  | _ => none }
end Go.Proofs.Ythjogeodclpafaa.AM
end

section
set_option linter.unusedVariables false
namespace Go.Proofs.Ythjogeodclpafaa.AM
open Go Go.Proofs.Ythjogeodclpafaa

theorem nf12 (K : SV → List AObj → Prop) :
 (K (SV.b ((BV.ptr 0 0))) [AObj.cells 76 [BV.hd 1, BV.hd 2, BV.int IntKind.i64 (0 : Int)], AObj.row 52 Item [], AObj.row 54 Lease []])
 = fnVC Try.prog (look []) {} Try.f12 [] [] K := by kernel_rfl

theorem nf14 (n : Int) (s : ByteArray) (K : SV → List AObj → Prop) :
 (K (SV.t (TV.agg [BV.int IntKind.i64 (1 : Int), BV.int IntKind.i64 n, BV.int IntKind.i64 (3 : Int), BV.int IntKind.i64 (1 : Int), BV.int IntKind.i64 n, BV.int IntKind.i64 (0 : Int), BV.str (⟨#[]⟩ : ByteArray), BV.str s])) [])
 = fnVC Try.prog (look []) {} Try.f14 [iv n, sv s] [] K := by kernel_rfl

theorem nf15 (n m : Int) (K : SV → List AObj → Prop) :
 (K (SV.t (TV.agg [BV.int IntKind.i64 (1 : Int), BV.int IntKind.i64 n, BV.int IntKind.i64 (4 : Int), BV.int IntKind.i64 (1 : Int), BV.int IntKind.i64 n, BV.int IntKind.i64 m, BV.str (⟨#[]⟩ : ByteArray), BV.str (⟨#[]⟩ : ByteArray)])) [])
 = fnVC Try.prog (look []) {} Try.f15 [iv n, iv m] [] K := by kernel_rfl

theorem nf39 (x : Ch) (K : SV → List AObj → Prop) :
 (K (SV.b ((BV.bool (decide ((↑(ByteArray.size x.snd.snd.snd.snd.snd.snd.fst) : Int) ≤ (100 : Int)) && decide ((↑(ByteArray.size x.snd.snd.snd.snd.snd.snd.snd) : Int) ≤ (100 : Int)))))) [])
 = fnVC Try.prog (look []) {} Try.f39 [cv x] [] K := by kernel_rfl

theorem nf50 (x : Le) (e t : Int) (K : SV → List AObj → Prop) :
 (K (SV.b ((BV.bool (x.snd.snd.fst == e && decide (t < x.snd.snd.snd))))) [])
 = fnVC Try.prog (look []) {} Try.f50 [lv x, iv e, iv t] [] K := by kernel_rfl

theorem nf69 (s : ByteArray) (K : SV → List AObj → Prop) :
 (K (SV.b ((BV.bool (decide ((↑(ByteArray.size s) : Int) ≥ (1 : Int)) && decide ((↑(ByteArray.size s) : Int) ≤ (16 : Int)))))) [])
 = fnVC Try.prog (look []) {} Try.f69 [sv s] [] K := by kernel_rfl

theorem nf70 (s : ByteArray) (K : SV → List AObj → Prop) :
 (K (SV.b ((BV.bool (decide ((↑(ByteArray.size s) : Int) ≤ (64 : Int)))))) [])
 = fnVC Try.prog (look []) {} Try.f70 [sv s] [] K := by kernel_rfl

theorem nf47 (xs : List Tm) (K : SV → List AObj → Prop) :
 ((xs = [] → K (.b (.nils)) []) ∧ (↑(0 + List.length xs) : Int) * (24 : Int) ≤ (140737488355328 : Int) ∧ (↑(0 + List.length xs) : Int) ≤ (140737488355328 : Int) ∧ K (SV.b ((BV.hd 0))) [AObj.row 52 Item ([] ++ xs)])
 = fnVC Try.prog (look []) {} Try.f47 [ft xs] [] K := by kernel_rfl

theorem nf60 (x : Tm) (n : Int) (K : SV → List AObj → Prop) :
 (K (SV.b ((BV.bool (x.fst == n)))) [AObj.cells 3 [BV.int IntKind.i64 n]])
 = fnVC Try.prog (look []) {} Try.f60 [tv x, pv 0] [.cells 3 [.int .i64 n]] K := by kernel_rfl

theorem nf62 (x : Le) (n : Int) (K : SV → List AObj → Prop) :
 (K (SV.b ((BV.bool (x.fst == n)))) [AObj.cells 3 [BV.int IntKind.i64 n]])
 = fnVC Try.prog (look []) {} Try.f62 [lv x, pv 0] [.cells 3 [.int .i64 n]] K := by kernel_rfl

end Go.Proofs.Ythjogeodclpafaa.AM
end

section
set_option linter.unusedVariables false
namespace Go.Proofs.Ythjogeodclpafaa.AM
open Go Go.Proofs.Ythjogeodclpafaa

theorem nf58 (x : Ch) (K : SV → List AObj → Prop) :
 (((decide (x.fst < (1 : Int)) || decide (x.fst > (1048576 : Int)) || decide (x.snd.fst < (1 : Int)) || decide (x.snd.fst > (4096 : Int)) || decide (x.snd.snd.snd.fst < (1 : Int)) || decide (x.snd.snd.snd.fst > (8 : Int)) || decide (x.snd.snd.snd.snd.fst < (1 : Int)) || decide (x.snd.snd.snd.snd.fst > (1048576 : Int))) = true → K (SV.b ((BV.bool false))) []) ∧ ((decide (x.fst < (1 : Int)) || decide (x.fst > (1048576 : Int)) || decide (x.snd.fst < (1 : Int)) || decide (x.snd.fst > (4096 : Int)) || decide (x.snd.snd.snd.fst < (1 : Int)) || decide (x.snd.snd.snd.fst > (8 : Int)) || decide (x.snd.snd.snd.snd.fst < (1 : Int)) || decide (x.snd.snd.snd.snd.fst > (1048576 : Int))) = false → ((x.snd.snd.fst == (1 : Int)) = true → (keyB x.snd.snd.snd.snd.snd.snd.fst = true → K (SV.b ((BV.bool (valueB x.snd.snd.snd.snd.snd.snd.snd && x.snd.snd.snd.snd.snd.fst == (0 : Int))))) []) ∧ (keyB x.snd.snd.snd.snd.snd.snd.fst = false → K (SV.b ((BV.bool false))) [])) ∧ ((x.snd.snd.fst == (1 : Int)) = false → ((x.snd.snd.fst == (2 : Int)) = true → K (SV.b ((BV.bool (keyB x.snd.snd.snd.snd.snd.snd.fst && ByteArray.toList x.snd.snd.snd.snd.snd.snd.snd == ByteArray.toList (⟨#[]⟩ : ByteArray) && x.snd.snd.snd.snd.snd.fst == (0 : Int))))) []) ∧ ((x.snd.snd.fst == (2 : Int)) = false → ((x.snd.snd.fst == (3 : Int)) = true → ((ByteArray.toList x.snd.snd.snd.snd.snd.snd.fst == ByteArray.toList (⟨#[]⟩ : ByteArray)) = true → K (SV.b ((BV.bool (valueB x.snd.snd.snd.snd.snd.snd.snd && x.snd.snd.snd.snd.snd.fst == (0 : Int))))) []) ∧ ((ByteArray.toList x.snd.snd.snd.snd.snd.snd.fst == ByteArray.toList (⟨#[]⟩ : ByteArray)) = false → K (SV.b ((BV.bool false))) [])) ∧ ((x.snd.snd.fst == (3 : Int)) = false → ((x.snd.snd.fst == (4 : Int)) = true → K (SV.b ((BV.bool (ByteArray.toList x.snd.snd.snd.snd.snd.snd.fst == ByteArray.toList (⟨#[]⟩ : ByteArray) && ByteArray.toList x.snd.snd.snd.snd.snd.snd.snd == ByteArray.toList (⟨#[]⟩ : ByteArray) && decide (x.snd.snd.snd.snd.snd.fst ≥ (1 : Int)) && decide (x.snd.snd.snd.snd.snd.fst < x.snd.fst))))) []) ∧ ((x.snd.snd.fst == (4 : Int)) = false → K (SV.b ((BV.bool false))) []))))))
 = fnVC Try.prog (look L1) {} Try.f58 [cv x] [] K := by kernel_rfl

theorem nf59 (xs : List Tm) (n : Int) (K : SV → List AObj → Prop) :
 ((∃ (y : Nat), ((List.length xs : Int) = (List.length xs : Int) ∧ (0 : Int) = (↑y : Int) ∧ xs = xs ∧ n = n ∧ True) ∧ y ≤ List.findIdx (fun (w : Tm) => w.fst == n) xs) ∧ ∀ (x : Nat), x ≤ List.findIdx (fun (w : Tm) => w.fst == n) xs → (decide ((↑x : Int) < (List.length xs : Int)) = true → ((0 : Int) ≤ (↑x : Int) ∧ (↑x : Int) < (List.length xs : Int)) ∧ x < List.length xs ∧ (((List.getD xs x (Ty.zero Item)).fst == n) = true → K (SV.b ((BV.int IntKind.i64 (↑x : Int)))) [AObj.row 52 Item xs, AObj.cells 3 [BV.int IntKind.i64 n]]) ∧ (((List.getD xs x (Ty.zero Item)).fst == n) = false → ∃ (y : Nat), ((List.length xs : Int) = (List.length xs : Int) ∧ wr ((↑x : Int) + (1 : Int)) = (↑y : Int) ∧ xs = xs ∧ n = n ∧ True) ∧ y ≤ List.findIdx (fun (w : Tm) => w.fst == n) xs ∧ List.length xs - y < List.length xs - x)) ∧ (decide ((↑x : Int) < (List.length xs : Int)) = false → K (SV.b ((BV.int IntKind.i64 (-1 : Int)))) [AObj.row 52 Item xs, AObj.cells 3 [BV.int IntKind.i64 n]]))
 = fnVC Try.prog (look L1) (N59 (fun w => w.1 == n) xs) Try.f59 [hv 0, .t (.one (.fn 60 [1]))] [tR xs, .cells 3 [.int .i64 n]] K := by kernel_rfl

theorem nf61 (xs : List Le) (n : Int) (K : SV → List AObj → Prop) :
 ((∃ (y : Nat), ((List.length xs : Int) = (List.length xs : Int) ∧ (0 : Int) = (↑y : Int) ∧ xs = xs ∧ n = n ∧ True) ∧ y ≤ List.findIdx (fun (w : Le) => w.fst == n) xs) ∧ ∀ (x : Nat), x ≤ List.findIdx (fun (w : Le) => w.fst == n) xs → (decide ((↑x : Int) < (List.length xs : Int)) = true → ((0 : Int) ≤ (↑x : Int) ∧ (↑x : Int) < (List.length xs : Int)) ∧ x < List.length xs ∧ (((List.getD xs x (Ty.zero Lease)).fst == n) = true → K (SV.b ((BV.int IntKind.i64 (↑x : Int)))) [AObj.row 54 Lease xs, AObj.cells 3 [BV.int IntKind.i64 n]]) ∧ (((List.getD xs x (Ty.zero Lease)).fst == n) = false → ∃ (y : Nat), ((List.length xs : Int) = (List.length xs : Int) ∧ wr ((↑x : Int) + (1 : Int)) = (↑y : Int) ∧ xs = xs ∧ n = n ∧ True) ∧ y ≤ List.findIdx (fun (w : Le) => w.fst == n) xs ∧ List.length xs - y < List.length xs - x)) ∧ (decide ((↑x : Int) < (List.length xs : Int)) = false → K (SV.b ((BV.int IntKind.i64 (-1 : Int)))) [AObj.row 54 Lease xs, AObj.cells 3 [BV.int IntKind.i64 n]]))
 = fnVC Try.prog (look L1) (N59 (fun w => w.1 == n) xs) Try.f61 [hv 0, .t (.one (.fn 62 [1]))] [lR xs, .cells 3 [.int .i64 n]] K := by kernel_rfl

theorem nf44 (xs : List Tm) (i : Int) (K : SV → List AObj → Prop) :
 (((0 : Int) ≤ (List.length xs : Int) ∧ (List.length xs : Int) ≤ (List.length xs : Int)) ∧
 ((0 : Int) ≤ i + (1 : Int) ∧ i + (1 : Int) ≤ (List.length xs : Int)) ∧
 ((0 : Int) ≤ i ∧ i ≤ i + (1 : Int)) ∧
 ((i == i + (1 : Int)) = true → K (SV.b ((BV.hd 0))) [AObj.row 52 Item xs]) ∧
 ((i == i + (1 : Int)) = false →
 (((0 : Int) ≤ i ∧ i ≤ (List.length xs : Int)) ∧
 ((0 : Int) ≤ (0 : Int) ∧ (0 : Int) ≤ i) ∧
 ((0 : Int) ≤ i ∧ i ≤ (List.length xs : Int)) ∧
 ((0 : Int) ≤ (0 : Int) ∧ (0 : Int) ≤ i) ∧
 Int.toNat i = Int.toNat i ∧
 ((0 : Int) ≤ (List.length xs : Int) ∧ (List.length xs : Int) ≤ (List.length xs : Int)) ∧
 ((0 : Int) ≤ i + (1 : Int) ∧ i + (1 : Int) ≤ (List.length xs : Int)) ∧
 ∀ (js : List (Ty.D Item)),
 List.length xs + List.length js ≤ 9223372036854775807 →
 Int.toNat i ≤ List.length (xs ++ js) ∧
 (Int.toNat i + List.length (List.take (List.length xs - Int.toNat (i + (1 : Int))) (List.drop (Int.toNat (i + (1 : Int))) xs)) ≤ List.length (xs ++ js) → ((0 : Int) ≤ (List.length xs : Int) ∧ (List.length xs : Int) ≤ (↑(List.length (spl (xs ++ js) (Int.toNat i) (List.take (List.length xs - Int.toNat (i + (1 : Int))) (List.drop (Int.toNat (i + (1 : Int))) xs)))) : Int)) ∧ ((0 : Int) ≤ (↑(Int.toNat i + List.length (List.take (List.length xs - Int.toNat (i + (1 : Int))) (List.drop (Int.toNat (i + (1 : Int))) xs))) : Int) ∧ (↑(Int.toNat i + List.length (List.take (List.length xs - Int.toNat (i + (1 : Int))) (List.drop (Int.toNat (i + (1 : Int))) xs))) : Int) ≤ (List.length xs : Int)) ∧ Int.toNat i + List.length (List.take (List.length xs - Int.toNat (i + (1 : Int))) (List.drop (Int.toNat (i + (1 : Int))) xs)) + List.length (List.replicate (List.length xs - (Int.toNat i + List.length (List.take (List.length xs - Int.toNat (i + (1 : Int))) (List.drop (Int.toNat (i + (1 : Int))) xs)))) (Ty.zero Item)) ≤ List.length (spl (xs ++ js) (Int.toNat i) (List.take (List.length xs - Int.toNat (i + (1 : Int))) (List.drop (Int.toNat (i + (1 : Int))) xs))) ∧ K (SV.b ((BV.hd 1))) [AObj.dead, AObj.row 52 Item (List.take (Int.toNat i + List.length (List.take (List.length xs - Int.toNat (i + (1 : Int))) (List.drop (Int.toNat (i + (1 : Int))) xs))) (spl (spl (xs ++ js) (Int.toNat i) (List.take (List.length xs - Int.toNat (i + (1 : Int))) (List.drop (Int.toNat (i + (1 : Int))) xs))) (Int.toNat i + List.length (List.take (List.length xs - Int.toNat (i + (1 : Int))) (List.drop (Int.toNat (i + (1 : Int))) xs))) (List.replicate (List.length xs - (Int.toNat i + List.length (List.take (List.length xs - Int.toNat (i + (1 : Int))) (List.drop (Int.toNat (i + (1 : Int))) xs)))) (Ty.zero Item))))]) ∧
 (List.length (xs ++ js) < Int.toNat i + List.length (List.take (List.length xs - Int.toNat (i + (1 : Int))) (List.drop (Int.toNat (i + (1 : Int))) xs)) → (↑(Int.toNat i + List.length (List.take (List.length xs - Int.toNat (i + (1 : Int))) (List.drop (Int.toNat (i + (1 : Int))) xs))) : Int) * (24 : Int) ≤ (140737488355328 : Int) ∧ (↑(Int.toNat i + List.length (List.take (List.length xs - Int.toNat (i + (1 : Int))) (List.drop (Int.toNat (i + (1 : Int))) xs))) : Int) ≤ (140737488355328 : Int) ∧ ((0 : Int) ≤ (List.length xs : Int) ∧ (List.length xs : Int) ≤ (↑(List.length (List.take (Int.toNat i) (xs ++ js) ++ List.take (List.length xs - Int.toNat (i + (1 : Int))) (List.drop (Int.toNat (i + (1 : Int))) xs))) : Int)) ∧ ((0 : Int) ≤ (↑(List.length (List.take (Int.toNat i) (xs ++ js) ++ List.take (List.length xs - Int.toNat (i + (1 : Int))) (List.drop (Int.toNat (i + (1 : Int))) xs))) : Int) ∧ (↑(List.length (List.take (Int.toNat i) (xs ++ js) ++ List.take (List.length xs - Int.toNat (i + (1 : Int))) (List.drop (Int.toNat (i + (1 : Int))) xs))) : Int) ≤ (List.length xs : Int)) ∧ List.length (List.take (Int.toNat i) (xs ++ js) ++ List.take (List.length xs - Int.toNat (i + (1 : Int))) (List.drop (Int.toNat (i + (1 : Int))) xs)) + List.length (List.replicate (List.length xs - List.length (List.take (Int.toNat i) (xs ++ js) ++ List.take (List.length xs - Int.toNat (i + (1 : Int))) (List.drop (Int.toNat (i + (1 : Int))) xs))) (Ty.zero Item)) ≤ List.length (List.take (Int.toNat i) (xs ++ js) ++ List.take (List.length xs - Int.toNat (i + (1 : Int))) (List.drop (Int.toNat (i + (1 : Int))) xs)) ∧ K (SV.b ((BV.hd 1))) [AObj.buf 52 Item (xs ++ js) (List.length xs), AObj.row 52 Item (spl (List.take (Int.toNat i) (xs ++ js) ++ List.take (List.length xs - Int.toNat (i + (1 : Int))) (List.drop (Int.toNat (i + (1 : Int))) xs)) (List.length (List.take (Int.toNat i) (xs ++ js) ++ List.take (List.length xs - Int.toNat (i + (1 : Int))) (List.drop (Int.toNat (i + (1 : Int))) xs))) (List.replicate (List.length xs - List.length (List.take (Int.toNat i) (xs ++ js) ++ List.take (List.length xs - Int.toNat (i + (1 : Int))) (List.drop (Int.toNat (i + (1 : Int))) xs))) (Ty.zero Item)))])) ∧
 ((0 : Int) ≤ (List.length xs : Int) ∧ (List.length xs : Int) ≤ (List.length xs : Int)) ∧
 ((0 : Int) ≤ i + (1 : Int) ∧ i + (1 : Int) ≤ (List.length xs : Int)) ∧
 ((0 : Int) ≤ (List.length xs : Int) ∧ (List.length xs : Int) ≤ (List.length xs : Int)) ∧
 ((0 : Int) ≤ i + (1 : Int) ∧ i + (1 : Int) ≤ (List.length xs : Int)) ∧
 Int.toNat (i + (1 : Int)) = Int.toNat (i + (1 : Int)) ∧
 List.length xs - Int.toNat (i + (1 : Int)) = List.length xs - Int.toNat (i + (1 : Int)) ∧
 ((0 : Int) ≤ i ∧ i ≤ (List.length xs : Int)) ∧
 ((0 : Int) ≤ (0 : Int) ∧ (0 : Int) ≤ i) ∧
 ∀ (js : List (Ty.D Item)),
 List.length xs + List.length js ≤ 9223372036854775807 →
 Int.toNat i ≤ List.length (xs ++ js) ∧
 (Int.toNat i + List.length (List.take (List.length xs - Int.toNat (i + (1 : Int))) (List.drop (Int.toNat (i + (1 : Int))) xs)) ≤ List.length (xs ++ js) → ((0 : Int) ≤ (List.length xs : Int) ∧ (List.length xs : Int) ≤ (↑(List.length (spl (xs ++ js) (Int.toNat i) (List.take (List.length xs - Int.toNat (i + (1 : Int))) (List.drop (Int.toNat (i + (1 : Int))) xs)))) : Int)) ∧ ((0 : Int) ≤ (↑(Int.toNat i + List.length (List.take (List.length xs - Int.toNat (i + (1 : Int))) (List.drop (Int.toNat (i + (1 : Int))) xs))) : Int) ∧ (↑(Int.toNat i + List.length (List.take (List.length xs - Int.toNat (i + (1 : Int))) (List.drop (Int.toNat (i + (1 : Int))) xs))) : Int) ≤ (List.length xs : Int)) ∧ Int.toNat i + List.length (List.take (List.length xs - Int.toNat (i + (1 : Int))) (List.drop (Int.toNat (i + (1 : Int))) xs)) + List.length (List.replicate (List.length xs - (Int.toNat i + List.length (List.take (List.length xs - Int.toNat (i + (1 : Int))) (List.drop (Int.toNat (i + (1 : Int))) xs)))) (Ty.zero Item)) ≤ List.length (spl (xs ++ js) (Int.toNat i) (List.take (List.length xs - Int.toNat (i + (1 : Int))) (List.drop (Int.toNat (i + (1 : Int))) xs))) ∧ K (SV.b ((BV.hd 1))) [AObj.dead, AObj.row 52 Item (List.take (Int.toNat i + List.length (List.take (List.length xs - Int.toNat (i + (1 : Int))) (List.drop (Int.toNat (i + (1 : Int))) xs))) (spl (spl (xs ++ js) (Int.toNat i) (List.take (List.length xs - Int.toNat (i + (1 : Int))) (List.drop (Int.toNat (i + (1 : Int))) xs))) (Int.toNat i + List.length (List.take (List.length xs - Int.toNat (i + (1 : Int))) (List.drop (Int.toNat (i + (1 : Int))) xs))) (List.replicate (List.length xs - (Int.toNat i + List.length (List.take (List.length xs - Int.toNat (i + (1 : Int))) (List.drop (Int.toNat (i + (1 : Int))) xs)))) (Ty.zero Item))))]) ∧
 (List.length (xs ++ js) < Int.toNat i + List.length (List.take (List.length xs - Int.toNat (i + (1 : Int))) (List.drop (Int.toNat (i + (1 : Int))) xs)) → (↑(Int.toNat i + List.length (List.take (List.length xs - Int.toNat (i + (1 : Int))) (List.drop (Int.toNat (i + (1 : Int))) xs))) : Int) * (24 : Int) ≤ (140737488355328 : Int) ∧ (↑(Int.toNat i + List.length (List.take (List.length xs - Int.toNat (i + (1 : Int))) (List.drop (Int.toNat (i + (1 : Int))) xs))) : Int) ≤ (140737488355328 : Int) ∧ ((0 : Int) ≤ (List.length xs : Int) ∧ (List.length xs : Int) ≤ (↑(List.length (List.take (Int.toNat i) (xs ++ js) ++ List.take (List.length xs - Int.toNat (i + (1 : Int))) (List.drop (Int.toNat (i + (1 : Int))) xs))) : Int)) ∧ ((0 : Int) ≤ (↑(List.length (List.take (Int.toNat i) (xs ++ js) ++ List.take (List.length xs - Int.toNat (i + (1 : Int))) (List.drop (Int.toNat (i + (1 : Int))) xs))) : Int) ∧ (↑(List.length (List.take (Int.toNat i) (xs ++ js) ++ List.take (List.length xs - Int.toNat (i + (1 : Int))) (List.drop (Int.toNat (i + (1 : Int))) xs))) : Int) ≤ (List.length xs : Int)) ∧ List.length (List.take (Int.toNat i) (xs ++ js) ++ List.take (List.length xs - Int.toNat (i + (1 : Int))) (List.drop (Int.toNat (i + (1 : Int))) xs)) + List.length (List.replicate (List.length xs - List.length (List.take (Int.toNat i) (xs ++ js) ++ List.take (List.length xs - Int.toNat (i + (1 : Int))) (List.drop (Int.toNat (i + (1 : Int))) xs))) (Ty.zero Item)) ≤ List.length (List.take (Int.toNat i) (xs ++ js) ++ List.take (List.length xs - Int.toNat (i + (1 : Int))) (List.drop (Int.toNat (i + (1 : Int))) xs)) ∧ K (SV.b ((BV.hd 1))) [AObj.buf 52 Item (xs ++ js) (List.length xs), AObj.row 52 Item (spl (List.take (Int.toNat i) (xs ++ js) ++ List.take (List.length xs - Int.toNat (i + (1 : Int))) (List.drop (Int.toNat (i + (1 : Int))) xs)) (List.length (List.take (Int.toNat i) (xs ++ js) ++ List.take (List.length xs - Int.toNat (i + (1 : Int))) (List.drop (Int.toNat (i + (1 : Int))) xs))) (List.replicate (List.length xs - List.length (List.take (Int.toNat i) (xs ++ js) ++ List.take (List.length xs - Int.toNat (i + (1 : Int))) (List.drop (Int.toNat (i + (1 : Int))) xs))) (Ty.zero Item)))])))
 = fnVC Try.prog (look L1) {} Try.f44 [hv 0, iv i, iv (i + 1)] [tR xs] K := by kernel_rfl

theorem nf46 (xs : List Le) (i : Int) (K : SV → List AObj → Prop) :
 (((0 : Int) ≤ (List.length xs : Int) ∧ (List.length xs : Int) ≤ (List.length xs : Int)) ∧
 ((0 : Int) ≤ i + (1 : Int) ∧ i + (1 : Int) ≤ (List.length xs : Int)) ∧
 ((0 : Int) ≤ i ∧ i ≤ i + (1 : Int)) ∧
 ((i == i + (1 : Int)) = true → K (SV.b ((BV.hd 0))) [AObj.row 54 Lease xs]) ∧
 ((i == i + (1 : Int)) = false →
 (((0 : Int) ≤ i ∧ i ≤ (List.length xs : Int)) ∧
 ((0 : Int) ≤ (0 : Int) ∧ (0 : Int) ≤ i) ∧
 ((0 : Int) ≤ i ∧ i ≤ (List.length xs : Int)) ∧
 ((0 : Int) ≤ (0 : Int) ∧ (0 : Int) ≤ i) ∧
 Int.toNat i = Int.toNat i ∧
 ((0 : Int) ≤ (List.length xs : Int) ∧ (List.length xs : Int) ≤ (List.length xs : Int)) ∧
 ((0 : Int) ≤ i + (1 : Int) ∧ i + (1 : Int) ≤ (List.length xs : Int)) ∧
 ∀ (js : List (Ty.D Lease)),
 List.length xs + List.length js ≤ 9223372036854775807 →
 Int.toNat i ≤ List.length (xs ++ js) ∧
 (Int.toNat i + List.length (List.take (List.length xs - Int.toNat (i + (1 : Int))) (List.drop (Int.toNat (i + (1 : Int))) xs)) ≤ List.length (xs ++ js) → ((0 : Int) ≤ (List.length xs : Int) ∧ (List.length xs : Int) ≤ (↑(List.length (spl (xs ++ js) (Int.toNat i) (List.take (List.length xs - Int.toNat (i + (1 : Int))) (List.drop (Int.toNat (i + (1 : Int))) xs)))) : Int)) ∧ ((0 : Int) ≤ (↑(Int.toNat i + List.length (List.take (List.length xs - Int.toNat (i + (1 : Int))) (List.drop (Int.toNat (i + (1 : Int))) xs))) : Int) ∧ (↑(Int.toNat i + List.length (List.take (List.length xs - Int.toNat (i + (1 : Int))) (List.drop (Int.toNat (i + (1 : Int))) xs))) : Int) ≤ (List.length xs : Int)) ∧ Int.toNat i + List.length (List.take (List.length xs - Int.toNat (i + (1 : Int))) (List.drop (Int.toNat (i + (1 : Int))) xs)) + List.length (List.replicate (List.length xs - (Int.toNat i + List.length (List.take (List.length xs - Int.toNat (i + (1 : Int))) (List.drop (Int.toNat (i + (1 : Int))) xs)))) (Ty.zero Lease)) ≤ List.length (spl (xs ++ js) (Int.toNat i) (List.take (List.length xs - Int.toNat (i + (1 : Int))) (List.drop (Int.toNat (i + (1 : Int))) xs))) ∧ K (SV.b ((BV.hd 1))) [AObj.dead, AObj.row 54 Lease (List.take (Int.toNat i + List.length (List.take (List.length xs - Int.toNat (i + (1 : Int))) (List.drop (Int.toNat (i + (1 : Int))) xs))) (spl (spl (xs ++ js) (Int.toNat i) (List.take (List.length xs - Int.toNat (i + (1 : Int))) (List.drop (Int.toNat (i + (1 : Int))) xs))) (Int.toNat i + List.length (List.take (List.length xs - Int.toNat (i + (1 : Int))) (List.drop (Int.toNat (i + (1 : Int))) xs))) (List.replicate (List.length xs - (Int.toNat i + List.length (List.take (List.length xs - Int.toNat (i + (1 : Int))) (List.drop (Int.toNat (i + (1 : Int))) xs)))) (Ty.zero Lease))))]) ∧
 (List.length (xs ++ js) < Int.toNat i + List.length (List.take (List.length xs - Int.toNat (i + (1 : Int))) (List.drop (Int.toNat (i + (1 : Int))) xs)) → (↑(Int.toNat i + List.length (List.take (List.length xs - Int.toNat (i + (1 : Int))) (List.drop (Int.toNat (i + (1 : Int))) xs))) : Int) * (32 : Int) ≤ (140737488355328 : Int) ∧ (↑(Int.toNat i + List.length (List.take (List.length xs - Int.toNat (i + (1 : Int))) (List.drop (Int.toNat (i + (1 : Int))) xs))) : Int) ≤ (140737488355328 : Int) ∧ ((0 : Int) ≤ (List.length xs : Int) ∧ (List.length xs : Int) ≤ (↑(List.length (List.take (Int.toNat i) (xs ++ js) ++ List.take (List.length xs - Int.toNat (i + (1 : Int))) (List.drop (Int.toNat (i + (1 : Int))) xs))) : Int)) ∧ ((0 : Int) ≤ (↑(List.length (List.take (Int.toNat i) (xs ++ js) ++ List.take (List.length xs - Int.toNat (i + (1 : Int))) (List.drop (Int.toNat (i + (1 : Int))) xs))) : Int) ∧ (↑(List.length (List.take (Int.toNat i) (xs ++ js) ++ List.take (List.length xs - Int.toNat (i + (1 : Int))) (List.drop (Int.toNat (i + (1 : Int))) xs))) : Int) ≤ (List.length xs : Int)) ∧ List.length (List.take (Int.toNat i) (xs ++ js) ++ List.take (List.length xs - Int.toNat (i + (1 : Int))) (List.drop (Int.toNat (i + (1 : Int))) xs)) + List.length (List.replicate (List.length xs - List.length (List.take (Int.toNat i) (xs ++ js) ++ List.take (List.length xs - Int.toNat (i + (1 : Int))) (List.drop (Int.toNat (i + (1 : Int))) xs))) (Ty.zero Lease)) ≤ List.length (List.take (Int.toNat i) (xs ++ js) ++ List.take (List.length xs - Int.toNat (i + (1 : Int))) (List.drop (Int.toNat (i + (1 : Int))) xs)) ∧ K (SV.b ((BV.hd 1))) [AObj.buf 54 Lease (xs ++ js) (List.length xs), AObj.row 54 Lease (spl (List.take (Int.toNat i) (xs ++ js) ++ List.take (List.length xs - Int.toNat (i + (1 : Int))) (List.drop (Int.toNat (i + (1 : Int))) xs)) (List.length (List.take (Int.toNat i) (xs ++ js) ++ List.take (List.length xs - Int.toNat (i + (1 : Int))) (List.drop (Int.toNat (i + (1 : Int))) xs))) (List.replicate (List.length xs - List.length (List.take (Int.toNat i) (xs ++ js) ++ List.take (List.length xs - Int.toNat (i + (1 : Int))) (List.drop (Int.toNat (i + (1 : Int))) xs))) (Ty.zero Lease)))])) ∧
 ((0 : Int) ≤ (List.length xs : Int) ∧ (List.length xs : Int) ≤ (List.length xs : Int)) ∧
 ((0 : Int) ≤ i + (1 : Int) ∧ i + (1 : Int) ≤ (List.length xs : Int)) ∧
 ((0 : Int) ≤ (List.length xs : Int) ∧ (List.length xs : Int) ≤ (List.length xs : Int)) ∧
 ((0 : Int) ≤ i + (1 : Int) ∧ i + (1 : Int) ≤ (List.length xs : Int)) ∧
 Int.toNat (i + (1 : Int)) = Int.toNat (i + (1 : Int)) ∧
 List.length xs - Int.toNat (i + (1 : Int)) = List.length xs - Int.toNat (i + (1 : Int)) ∧
 ((0 : Int) ≤ i ∧ i ≤ (List.length xs : Int)) ∧
 ((0 : Int) ≤ (0 : Int) ∧ (0 : Int) ≤ i) ∧
 ∀ (js : List (Ty.D Lease)),
 List.length xs + List.length js ≤ 9223372036854775807 →
 Int.toNat i ≤ List.length (xs ++ js) ∧
 (Int.toNat i + List.length (List.take (List.length xs - Int.toNat (i + (1 : Int))) (List.drop (Int.toNat (i + (1 : Int))) xs)) ≤ List.length (xs ++ js) → ((0 : Int) ≤ (List.length xs : Int) ∧ (List.length xs : Int) ≤ (↑(List.length (spl (xs ++ js) (Int.toNat i) (List.take (List.length xs - Int.toNat (i + (1 : Int))) (List.drop (Int.toNat (i + (1 : Int))) xs)))) : Int)) ∧ ((0 : Int) ≤ (↑(Int.toNat i + List.length (List.take (List.length xs - Int.toNat (i + (1 : Int))) (List.drop (Int.toNat (i + (1 : Int))) xs))) : Int) ∧ (↑(Int.toNat i + List.length (List.take (List.length xs - Int.toNat (i + (1 : Int))) (List.drop (Int.toNat (i + (1 : Int))) xs))) : Int) ≤ (List.length xs : Int)) ∧ Int.toNat i + List.length (List.take (List.length xs - Int.toNat (i + (1 : Int))) (List.drop (Int.toNat (i + (1 : Int))) xs)) + List.length (List.replicate (List.length xs - (Int.toNat i + List.length (List.take (List.length xs - Int.toNat (i + (1 : Int))) (List.drop (Int.toNat (i + (1 : Int))) xs)))) (Ty.zero Lease)) ≤ List.length (spl (xs ++ js) (Int.toNat i) (List.take (List.length xs - Int.toNat (i + (1 : Int))) (List.drop (Int.toNat (i + (1 : Int))) xs))) ∧ K (SV.b ((BV.hd 1))) [AObj.dead, AObj.row 54 Lease (List.take (Int.toNat i + List.length (List.take (List.length xs - Int.toNat (i + (1 : Int))) (List.drop (Int.toNat (i + (1 : Int))) xs))) (spl (spl (xs ++ js) (Int.toNat i) (List.take (List.length xs - Int.toNat (i + (1 : Int))) (List.drop (Int.toNat (i + (1 : Int))) xs))) (Int.toNat i + List.length (List.take (List.length xs - Int.toNat (i + (1 : Int))) (List.drop (Int.toNat (i + (1 : Int))) xs))) (List.replicate (List.length xs - (Int.toNat i + List.length (List.take (List.length xs - Int.toNat (i + (1 : Int))) (List.drop (Int.toNat (i + (1 : Int))) xs)))) (Ty.zero Lease))))]) ∧
 (List.length (xs ++ js) < Int.toNat i + List.length (List.take (List.length xs - Int.toNat (i + (1 : Int))) (List.drop (Int.toNat (i + (1 : Int))) xs)) → (↑(Int.toNat i + List.length (List.take (List.length xs - Int.toNat (i + (1 : Int))) (List.drop (Int.toNat (i + (1 : Int))) xs))) : Int) * (32 : Int) ≤ (140737488355328 : Int) ∧ (↑(Int.toNat i + List.length (List.take (List.length xs - Int.toNat (i + (1 : Int))) (List.drop (Int.toNat (i + (1 : Int))) xs))) : Int) ≤ (140737488355328 : Int) ∧ ((0 : Int) ≤ (List.length xs : Int) ∧ (List.length xs : Int) ≤ (↑(List.length (List.take (Int.toNat i) (xs ++ js) ++ List.take (List.length xs - Int.toNat (i + (1 : Int))) (List.drop (Int.toNat (i + (1 : Int))) xs))) : Int)) ∧ ((0 : Int) ≤ (↑(List.length (List.take (Int.toNat i) (xs ++ js) ++ List.take (List.length xs - Int.toNat (i + (1 : Int))) (List.drop (Int.toNat (i + (1 : Int))) xs))) : Int) ∧ (↑(List.length (List.take (Int.toNat i) (xs ++ js) ++ List.take (List.length xs - Int.toNat (i + (1 : Int))) (List.drop (Int.toNat (i + (1 : Int))) xs))) : Int) ≤ (List.length xs : Int)) ∧ List.length (List.take (Int.toNat i) (xs ++ js) ++ List.take (List.length xs - Int.toNat (i + (1 : Int))) (List.drop (Int.toNat (i + (1 : Int))) xs)) + List.length (List.replicate (List.length xs - List.length (List.take (Int.toNat i) (xs ++ js) ++ List.take (List.length xs - Int.toNat (i + (1 : Int))) (List.drop (Int.toNat (i + (1 : Int))) xs))) (Ty.zero Lease)) ≤ List.length (List.take (Int.toNat i) (xs ++ js) ++ List.take (List.length xs - Int.toNat (i + (1 : Int))) (List.drop (Int.toNat (i + (1 : Int))) xs)) ∧ K (SV.b ((BV.hd 1))) [AObj.buf 54 Lease (xs ++ js) (List.length xs), AObj.row 54 Lease (spl (List.take (Int.toNat i) (xs ++ js) ++ List.take (List.length xs - Int.toNat (i + (1 : Int))) (List.drop (Int.toNat (i + (1 : Int))) xs)) (List.length (List.take (Int.toNat i) (xs ++ js) ++ List.take (List.length xs - Int.toNat (i + (1 : Int))) (List.drop (Int.toNat (i + (1 : Int))) xs))) (List.replicate (List.length xs - List.length (List.take (Int.toNat i) (xs ++ js) ++ List.take (List.length xs - Int.toNat (i + (1 : Int))) (List.drop (Int.toNat (i + (1 : Int))) xs))) (Ty.zero Lease)))])))
 = fnVC Try.prog (look L1) {} Try.f46 [hv 0, iv i, iv (i + 1)] [lR xs] K := by kernel_rfl

theorem nf55 (xs : List Le) (K : SV → List AObj → Prop) :
 ((xs = [] → K (.b (.nils)) []) ∧ (↑(0 + List.length xs) : Int) * (32 : Int) ≤ (140737488355328 : Int) ∧ (↑(0 + List.length xs) : Int) ≤ (140737488355328 : Int) ∧ K (SV.b ((BV.hd 0))) [AObj.row 54 Lease ([] ++ xs)])
 = fnVC Try.prog (look []) {} Try.f55 [fl xs] [] K := by kernel_rfl

end Go.Proofs.Ythjogeodclpafaa.AM
end

section
set_option linter.unusedVariables false
namespace Go.Proofs.Ythjogeodclpafaa.AM
open Go Go.Proofs.Ythjogeodclpafaa

theorem nf43 (p n : Int) (xs : List Tm) (ls : List Le) (K : SV → List AObj → Prop) :
 (List.length xs ≤ lenMax ∧ K (SV.b ((BV.int IntKind.i64 (idxE (fun (w : Ty.D Item) => w.fst == n) xs)))) [AObj.cells 76 [BV.hd 1, BV.hd 2, BV.int IntKind.i64 p], AObj.row 52 Item xs, AObj.row 54 Lease ls])
 = fnVC Try.prog (look L2) {} Try.f43 [pv 0, iv n] [qC 1 2 p, tR xs, lR ls] K := by kernel_rfl

theorem nf45 (p n : Int) (xs : List Tm) (ls : List Le) (K : SV → List AObj → Prop) :
 (List.length ls ≤ lenMax ∧ K (SV.b ((BV.int IntKind.i64 (idxE (fun (w : Ty.D Lease) => w.fst == n) ls)))) [AObj.cells 76 [BV.hd 1, BV.hd 2, BV.int IntKind.i64 p], AObj.row 52 Item xs, AObj.row 54 Lease ls])
 = fnVC Try.prog (look L2) {} Try.f45 [pv 0, iv n] [qC 1 2 p, tR xs, lR ls] K := by kernel_rfl

theorem nf42 (p : Int) (xs : List Tm) (ls : List Le) (x : Ch) (K : SV → List AObj → Prop) :
 (((!validC (x.fst, x.snd.fst, x.snd.snd.fst, x.snd.snd.snd.fst, x.snd.snd.snd.snd.fst, x.snd.snd.snd.snd.snd.fst, x.snd.snd.snd.snd.snd.snd.fst, x.snd.snd.snd.snd.snd.snd.snd)) = true → K (SV.b ((BV.int IntKind.i64 (1 : Int)))) [AObj.cells 76 [BV.hd 1, BV.hd 2, BV.int IntKind.i64 p], AObj.row 52 Item xs, AObj.row 54 Lease ls]) ∧ ((!validC (x.fst, x.snd.fst, x.snd.snd.fst, x.snd.snd.snd.fst, x.snd.snd.snd.snd.fst, x.snd.snd.snd.snd.snd.fst, x.snd.snd.snd.snd.snd.snd.fst, x.snd.snd.snd.snd.snd.snd.snd)) = false → ((x.snd.snd.fst == (3 : Int) && decide (x.snd.fst ≤ p)) = true → K (SV.b ((BV.int IntKind.i64 (36 : Int)))) [AObj.cells 76 [BV.hd 1, BV.hd 2, BV.int IntKind.i64 p], AObj.row 52 Item xs, AObj.row 54 Lease ls]) ∧ ((x.snd.snd.fst == (3 : Int) && decide (x.snd.fst ≤ p)) = false → ((x.snd.snd.fst == (3 : Int) && decide ((List.length xs : Int) ≥ (16 : Int))) = true → K (SV.b ((BV.int IntKind.i64 (33 : Int)))) [AObj.cells 76 [BV.hd 1, BV.hd 2, BV.int IntKind.i64 p], AObj.row 52 Item xs, AObj.row 54 Lease ls]) ∧ ((x.snd.snd.fst == (3 : Int) && decide ((List.length xs : Int) ≥ (16 : Int))) = false → ((x.snd.snd.fst == (4 : Int)) = true → List.length xs ≤ lenMax ∧ (decide (atQ xs x.snd.snd.snd.snd.snd.fst < (0 : Int)) = true → K (SV.b ((BV.int IntKind.i64 (34 : Int)))) [AObj.cells 76 [BV.hd 1, BV.hd 2, BV.int IntKind.i64 p], AObj.row 52 Item xs, AObj.row 54 Lease ls]) ∧ (decide (atQ xs x.snd.snd.snd.snd.snd.fst < (0 : Int)) = false → K (SV.b ((BV.int IntKind.i64 (0 : Int)))) [AObj.cells 76 [BV.hd 1, BV.hd 2, BV.int IntKind.i64 p], AObj.row 52 Item xs, AObj.row 54 Lease ls])) ∧ ((x.snd.snd.fst == (4 : Int)) = false → K (SV.b ((BV.int IntKind.i64 (0 : Int)))) [AObj.cells 76 [BV.hd 1, BV.hd 2, BV.int IntKind.i64 p], AObj.row 52 Item xs, AObj.row 54 Lease ls])))))
 = fnVC Try.prog (look L3) {} Try.f42 [pv 0, cv x] [qC 1 2 p, tR xs, lR ls] K := by kernel_rfl

theorem nf16 (p : Int) (xs : List Tm) (ls : List Le) (K : SV → List AObj → Prop) :
 (List.length xs ≤ lenMax ∧ K (SV.b ((BV.hd 3))) [AObj.cells 76 [BV.hd 1, BV.hd 2, BV.int IntKind.i64 p], AObj.row 52 Item xs, AObj.row 54 Lease ls, AObj.row 52 Item xs])
 = fnVC Try.prog (look L2) {} Try.f16 [pv 0] [qC 1 2 p, tR xs, lR ls] K := by kernel_rfl

theorem nf13 (p : Int) (xs : List Tm) (ls : List Le) (x : Ch) (K : SV → List AObj → Prop) :
 (List.length xs ≤ lenMax ∧ ((checkQ (xs, ls, p) (x.fst, x.snd.fst, x.snd.snd.fst, x.snd.snd.snd.fst, x.snd.snd.snd.snd.fst, x.snd.snd.snd.snd.snd.fst, x.snd.snd.snd.snd.snd.snd.fst, x.snd.snd.snd.snd.snd.snd.snd) != (0 : Int)) = true → K (SV.b ((BV.int IntKind.i64 (checkQ (xs, ls, p) (x.fst, x.snd.fst, x.snd.snd.fst, x.snd.snd.snd.fst, x.snd.snd.snd.snd.fst, x.snd.snd.snd.snd.snd.fst, x.snd.snd.snd.snd.snd.snd.fst, x.snd.snd.snd.snd.snd.snd.snd))))) [AObj.cells 76 [BV.hd 1, BV.hd 2, BV.int IntKind.i64 p], AObj.row 52 Item xs, AObj.row 54 Lease ls]) ∧ ((checkQ (xs, ls, p) (x.fst, x.snd.fst, x.snd.snd.fst, x.snd.snd.snd.fst, x.snd.snd.snd.snd.fst, x.snd.snd.snd.snd.snd.fst, x.snd.snd.snd.snd.snd.snd.fst, x.snd.snd.snd.snd.snd.snd.snd) != (0 : Int)) = false → ((x.snd.snd.fst == (3 : Int)) = true → (↑(List.length xs + List.length [(x.snd.fst, x.snd.snd.snd.snd.snd.snd.snd)]) : Int) * (24 : Int) ≤ (140737488355328 : Int) ∧ (↑(List.length xs + List.length [(x.snd.fst, x.snd.snd.snd.snd.snd.snd.snd)]) : Int) ≤ (140737488355328 : Int) ∧ K (SV.b ((BV.int IntKind.i64 (0 : Int)))) [AObj.cells 76 [BV.hd 3, BV.hd 2, BV.int IntKind.i64 x.snd.fst], AObj.dead, AObj.row 54 Lease ls, AObj.row 52 Item (xs ++ [(x.snd.fst, x.snd.snd.snd.snd.snd.snd.snd)])]) ∧ ((x.snd.snd.fst == (3 : Int)) = false → ((x.snd.snd.fst == (4 : Int)) = true → List.length xs ≤ lenMax ∧ wr (atQ xs x.snd.snd.snd.snd.snd.fst + (1 : Int)) = atQ xs x.snd.snd.snd.snd.snd.fst + (1 : Int) ∧ (0 : Int) ≤ atQ xs x.snd.snd.snd.snd.snd.fst ∧ atQ xs x.snd.snd.snd.snd.snd.fst < (List.length xs : Int) ∧ List.length xs ≤ lenMax ∧ List.length ls ≤ lenMax ∧ (decide (leaseQ ls x.snd.snd.snd.snd.snd.fst ≥ (0 : Int)) = true → wr (leaseQ ls x.snd.snd.snd.snd.snd.fst + (1 : Int)) = leaseQ ls x.snd.snd.snd.snd.snd.fst + (1 : Int) ∧ (0 : Int) ≤ leaseQ ls x.snd.snd.snd.snd.snd.fst ∧ leaseQ ls x.snd.snd.snd.snd.snd.fst < (List.length ls : Int) ∧ List.length ls ≤ lenMax ∧ K (SV.b ((BV.int IntKind.i64 (0 : Int)))) [AObj.cells 76 [BV.hd 3, BV.hd 4, BV.int IntKind.i64 p], AObj.dead, AObj.dead, AObj.row 52 Item (List.take (Int.toNat (atQ xs x.snd.snd.snd.snd.snd.fst)) xs ++ List.drop (Int.toNat (atQ xs x.snd.snd.snd.snd.snd.fst) + 1) xs), AObj.row 54 Lease (List.take (Int.toNat (leaseQ ls x.snd.snd.snd.snd.snd.fst)) ls ++ List.drop (Int.toNat (leaseQ ls x.snd.snd.snd.snd.snd.fst) + 1) ls)]) ∧ (decide (leaseQ ls x.snd.snd.snd.snd.snd.fst ≥ (0 : Int)) = false → K (SV.b ((BV.int IntKind.i64 (0 : Int)))) [AObj.cells 76 [BV.hd 3, BV.hd 2, BV.int IntKind.i64 p], AObj.dead, AObj.row 54 Lease ls, AObj.row 52 Item (List.take (Int.toNat (atQ xs x.snd.snd.snd.snd.snd.fst)) xs ++ List.drop (Int.toNat (atQ xs x.snd.snd.snd.snd.snd.fst) + 1) xs)])) ∧ ((x.snd.snd.fst == (4 : Int)) = false → K (SV.b ((BV.int IntKind.i64 (0 : Int)))) [AObj.cells 76 [BV.hd 1, BV.hd 2, BV.int IntKind.i64 p], AObj.row 52 Item xs, AObj.row 54 Lease ls]))))
 = fnVC Try.prog (look L4) {} Try.f13 [pv 0, cv x] [qC 1 2 p, tR xs, lR ls] K := by kernel_rfl

end Go.Proofs.Ythjogeodclpafaa.AM
end

section
set_option linter.unusedVariables false
namespace Go.Proofs.Ythjogeodclpafaa.AM
open Go Go.Proofs.Ythjogeodclpafaa

theorem nf65 (ws : List Le) (v : Le) (i : Nat) (K : SV → List AObj → Prop) :
 (((0 : Int) ≤ (List.length ws : Int) ∧ (List.length ws : Int) ≤ (List.length ws : Int)) ∧
 ((0 : Int) ≤ (↑i : Int) ∧ (↑i : Int) ≤ (List.length ws : Int)) ∧
 (((1 : Int) == (0 : Int)) = true → K (SV.b ((BV.hd 0))) [AObj.row 54 Lease ws, AObj.row 54 Lease [v]]) ∧
 (((1 : Int) == (0 : Int)) = false →
 (((↑i : Int) == (List.length ws : Int)) = true → (↑(List.length ws + List.length [v]) : Int) * (32 : Int) ≤ (140737488355328 : Int) ∧ (↑(List.length ws + List.length [v]) : Int) ≤ (140737488355328 : Int) ∧ K (SV.b ((BV.hd 2))) [AObj.dead, AObj.row 54 Lease [v], AObj.row 54 Lease (ws ++ [v])]) ∧
 (((↑i : Int) == (List.length ws : Int)) = false →
 ∀ (js : List (Ty.D Lease)),
 List.length ws + List.length js ≤ 9223372036854775807 →
 (decide (wr ((List.length ws : Int) + (1 : Int)) > (↑(List.length (ws ++ js)) : Int)) = true →
 ((0 : Int) ≤ (↑i : Int) ∧ (↑i : Int) ≤ (↑(List.length (ws ++ js)) : Int)) ∧
 ((0 : Int) ≤ (0 : Int) ∧ (0 : Int) ≤ (↑i : Int)) ∧
 (0 : Int) ≤ wr (wr ((List.length ws : Int) + (1 : Int)) - (↑i : Int)) ∧
 wr (wr ((List.length ws : Int) + (1 : Int)) - (↑i : Int)) * (32 : Int) ≤ (140737488355328 : Int) ∧
 wr (wr ((List.length ws : Int) + (1 : Int)) - (↑i : Int)) ≤ (140737488355328 : Int) ∧
 i ≤ List.length (ws ++ js) ∧
 (i + List.length (List.replicate (Int.toNat (wr (wr ((List.length ws : Int) + (1 : Int)) - (↑i : Int)))) (Ty.zero Lease)) ≤ List.length (ws ++ js) →
 ((0 : Int) ≤ (↑(i + List.length (List.replicate (Int.toNat (wr (wr ((List.length ws : Int) + (1 : Int)) - (↑i : Int)))) (Ty.zero Lease))) : Int) ∧ (↑(i + List.length (List.replicate (Int.toNat (wr (wr ((List.length ws : Int) + (1 : Int)) - (↑i : Int)))) (Ty.zero Lease))) : Int) ≤ (↑(List.length (spl (ws ++ js) i (List.replicate (Int.toNat (wr (wr ((List.length ws : Int) + (1 : Int)) - (↑i : Int)))) (Ty.zero Lease)))) : Int)) ∧
 ((0 : Int) ≤ (↑i : Int) ∧ (↑i : Int) ≤ (↑(i + List.length (List.replicate (Int.toNat (wr (wr ((List.length ws : Int) + (1 : Int)) - (↑i : Int)))) (Ty.zero Lease))) : Int)) ∧
 i + List.length (List.take (i + List.length (List.replicate (Int.toNat (wr (wr ((List.length ws : Int) + (1 : Int)) - (↑i : Int)))) (Ty.zero Lease)) - i) [v]) ≤ List.length (spl (ws ++ js) i (List.replicate (Int.toNat (wr (wr ((List.length ws : Int) + (1 : Int)) - (↑i : Int)))) (Ty.zero Lease))) ∧
 (((0 : Int) ≤ (↑(i + List.length (List.replicate (Int.toNat (wr (wr ((List.length ws : Int) + (1 : Int)) - (↑i : Int)))) (Ty.zero Lease))) : Int) ∧ (↑(i + List.length (List.replicate (Int.toNat (wr (wr ((List.length ws : Int) + (1 : Int)) - (↑i : Int)))) (Ty.zero Lease))) : Int) ≤ (↑(List.length (spl (spl (ws ++ js) i (List.replicate (Int.toNat (wr (wr ((List.length ws : Int) + (1 : Int)) - (↑i : Int)))) (Ty.zero Lease))) i (List.take (i + List.length (List.replicate (Int.toNat (wr (wr ((List.length ws : Int) + (1 : Int)) - (↑i : Int)))) (Ty.zero Lease)) - i) [v]))) : Int)) ∧
 ((0 : Int) ≤ wr ((↑i : Int) + (1 : Int)) ∧ wr ((↑i : Int) + (1 : Int)) ≤ (↑(i + List.length (List.replicate (Int.toNat (wr (wr ((List.length ws : Int) + (1 : Int)) - (↑i : Int)))) (Ty.zero Lease))) : Int)) ∧ ((0 : Int) ≤ (List.length ws : Int) ∧ (List.length ws : Int) ≤ (↑(List.length (spl (spl (ws ++ js) i (List.replicate (Int.toNat (wr (wr ((List.length ws : Int) + (1 : Int)) - (↑i : Int)))) (Ty.zero Lease))) i (List.take (i + List.length (List.replicate (Int.toNat (wr (wr ((List.length ws : Int) + (1 : Int)) - (↑i : Int)))) (Ty.zero Lease)) - i) [v]))) : Int)) ∧ ((0 : Int) ≤ (↑i : Int) ∧ (↑i : Int) ≤ (List.length ws : Int)) ∧ Int.toNat (wr ((↑i : Int) + (1 : Int))) + List.length (List.take (i + List.length (List.replicate (Int.toNat (wr (wr ((List.length ws : Int) + (1 : Int)) - (↑i : Int)))) (Ty.zero Lease)) - Int.toNat (wr ((↑i : Int) + (1 : Int)))) (List.take (List.length ws - i) (List.drop i (spl (spl (ws ++ js) i (List.replicate (Int.toNat (wr (wr ((List.length ws : Int) + (1 : Int)) - (↑i : Int)))) (Ty.zero Lease))) i (List.take (i + List.length (List.replicate (Int.toNat (wr (wr ((List.length ws : Int) + (1 : Int)) - (↑i : Int)))) (Ty.zero Lease)) - i) [v]))))) ≤ List.length (spl (spl (ws ++ js) i (List.replicate (Int.toNat (wr (wr ((List.length ws : Int) + (1 : Int)) - (↑i : Int)))) (Ty.zero Lease))) i (List.take (i + List.length (List.replicate (Int.toNat (wr (wr ((List.length ws : Int) + (1 : Int)) - (↑i : Int)))) (Ty.zero Lease)) - i) [v])) ∧ K (SV.b ((BV.hd 2))) [AObj.dead, AObj.row 54 Lease [v], AObj.row 54 Lease (List.take (i + List.length (List.replicate (Int.toNat (wr (wr ((List.length ws : Int) + (1 : Int)) - (↑i : Int)))) (Ty.zero Lease))) (spl (spl (spl (ws ++ js) i (List.replicate (Int.toNat (wr (wr ((List.length ws : Int) + (1 : Int)) - (↑i : Int)))) (Ty.zero Lease))) i (List.take (i + List.length (List.replicate (Int.toNat (wr (wr ((List.length ws : Int) + (1 : Int)) - (↑i : Int)))) (Ty.zero Lease)) - i) [v])) (Int.toNat (wr ((↑i : Int) + (1 : Int)))) (List.take (i + List.length (List.replicate (Int.toNat (wr (wr ((List.length ws : Int) + (1 : Int)) - (↑i : Int)))) (Ty.zero Lease)) - Int.toNat (wr ((↑i : Int) + (1 : Int)))) (List.take (List.length ws - i) (List.drop i (spl (spl (ws ++ js) i (List.replicate (Int.toNat (wr (wr ((List.length ws : Int) + (1 : Int)) - (↑i : Int)))) (Ty.zero Lease))) i (List.take (i + List.length (List.replicate (Int.toNat (wr (wr ((List.length ws : Int) + (1 : Int)) - (↑i : Int)))) (Ty.zero Lease)) - i) [v])))))))]) ∧
 ((0 : Int) ≤ (List.length ws : Int) ∧ (List.length ws : Int) ≤ (↑(List.length (spl (spl (ws ++ js) i (List.replicate (Int.toNat (wr (wr ((List.length ws : Int) + (1 : Int)) - (↑i : Int)))) (Ty.zero Lease))) i (List.take (i + List.length (List.replicate (Int.toNat (wr (wr ((List.length ws : Int) + (1 : Int)) - (↑i : Int)))) (Ty.zero Lease)) - i) [v]))) : Int)) ∧
 ((0 : Int) ≤ (↑i : Int) ∧ (↑i : Int) ≤ (List.length ws : Int)) ∧ ((0 : Int) ≤ (↑(i + List.length (List.replicate (Int.toNat (wr (wr ((List.length ws : Int) + (1 : Int)) - (↑i : Int)))) (Ty.zero Lease))) : Int) ∧ (↑(i + List.length (List.replicate (Int.toNat (wr (wr ((List.length ws : Int) + (1 : Int)) - (↑i : Int)))) (Ty.zero Lease))) : Int) ≤ (↑(List.length (spl (spl (ws ++ js) i (List.replicate (Int.toNat (wr (wr ((List.length ws : Int) + (1 : Int)) - (↑i : Int)))) (Ty.zero Lease))) i (List.take (i + List.length (List.replicate (Int.toNat (wr (wr ((List.length ws : Int) + (1 : Int)) - (↑i : Int)))) (Ty.zero Lease)) - i) [v]))) : Int)) ∧ ((0 : Int) ≤ wr ((↑i : Int) + (1 : Int)) ∧ wr ((↑i : Int) + (1 : Int)) ≤ (↑(i + List.length (List.replicate (Int.toNat (wr (wr ((List.length ws : Int) + (1 : Int)) - (↑i : Int)))) (Ty.zero Lease))) : Int)) ∧ Int.toNat (wr ((↑i : Int) + (1 : Int))) + List.length (List.take (i + List.length (List.replicate (Int.toNat (wr (wr ((List.length ws : Int) + (1 : Int)) - (↑i : Int)))) (Ty.zero Lease)) - Int.toNat (wr ((↑i : Int) + (1 : Int)))) (List.take (List.length ws - i) (List.drop i (spl (spl (ws ++ js) i (List.replicate (Int.toNat (wr (wr ((List.length ws : Int) + (1 : Int)) - (↑i : Int)))) (Ty.zero Lease))) i (List.take (i + List.length (List.replicate (Int.toNat (wr (wr ((List.length ws : Int) + (1 : Int)) - (↑i : Int)))) (Ty.zero Lease)) - i) [v]))))) ≤ List.length (spl (spl (ws ++ js) i (List.replicate (Int.toNat (wr (wr ((List.length ws : Int) + (1 : Int)) - (↑i : Int)))) (Ty.zero Lease))) i (List.take (i + List.length (List.replicate (Int.toNat (wr (wr ((List.length ws : Int) + (1 : Int)) - (↑i : Int)))) (Ty.zero Lease)) - i) [v])) ∧ K (SV.b ((BV.hd 2))) [AObj.dead, AObj.row 54 Lease [v], AObj.row 54 Lease (List.take (i + List.length (List.replicate (Int.toNat (wr (wr ((List.length ws : Int) + (1 : Int)) - (↑i : Int)))) (Ty.zero Lease))) (spl (spl (spl (ws ++ js) i (List.replicate (Int.toNat (wr (wr ((List.length ws : Int) + (1 : Int)) - (↑i : Int)))) (Ty.zero Lease))) i (List.take (i + List.length (List.replicate (Int.toNat (wr (wr ((List.length ws : Int) + (1 : Int)) - (↑i : Int)))) (Ty.zero Lease)) - i) [v])) (Int.toNat (wr ((↑i : Int) + (1 : Int)))) (List.take (i + List.length (List.replicate (Int.toNat (wr (wr ((List.length ws : Int) + (1 : Int)) - (↑i : Int)))) (Ty.zero Lease)) - Int.toNat (wr ((↑i : Int) + (1 : Int)))) (List.take (List.length ws - i) (List.drop i (spl (spl (ws ++ js) i (List.replicate (Int.toNat (wr (wr ((List.length ws : Int) + (1 : Int)) - (↑i : Int)))) (Ty.zero Lease))) i (List.take (i + List.length (List.replicate (Int.toNat (wr (wr ((List.length ws : Int) + (1 : Int)) - (↑i : Int)))) (Ty.zero Lease)) - i) [v])))))))]) ∧
 (List.length (ws ++ js) < i + List.length (List.replicate (Int.toNat (wr (wr ((List.length ws : Int) + (1 : Int)) - (↑i : Int)))) (Ty.zero Lease)) →
 (↑(i + List.length (List.replicate (Int.toNat (wr (wr ((List.length ws : Int) + (1 : Int)) - (↑i : Int)))) (Ty.zero Lease))) : Int) * (32 : Int) ≤ (140737488355328 : Int) ∧
 (↑(i + List.length (List.replicate (Int.toNat (wr (wr ((List.length ws : Int) + (1 : Int)) - (↑i : Int)))) (Ty.zero Lease))) : Int) ≤ (140737488355328 : Int) ∧
 ((0 : Int) ≤ (↑(List.length (List.take i (ws ++ js) ++ List.replicate (Int.toNat (wr (wr ((List.length ws : Int) + (1 : Int)) - (↑i : Int)))) (Ty.zero Lease))) : Int) ∧ (↑(List.length (List.take i (ws ++ js) ++ List.replicate (Int.toNat (wr (wr ((List.length ws : Int) + (1 : Int)) - (↑i : Int)))) (Ty.zero Lease))) : Int) ≤ (↑(List.length (List.take i (ws ++ js) ++ List.replicate (Int.toNat (wr (wr ((List.length ws : Int) + (1 : Int)) - (↑i : Int)))) (Ty.zero Lease))) : Int)) ∧
 ((0 : Int) ≤ (↑i : Int) ∧ (↑i : Int) ≤ (↑(List.length (List.take i (ws ++ js) ++ List.replicate (Int.toNat (wr (wr ((List.length ws : Int) + (1 : Int)) - (↑i : Int)))) (Ty.zero Lease))) : Int)) ∧
 i + List.length (List.take (List.length (List.take i (ws ++ js) ++ List.replicate (Int.toNat (wr (wr ((List.length ws : Int) + (1 : Int)) - (↑i : Int)))) (Ty.zero Lease)) - i) [v]) ≤ List.length (List.take i (ws ++ js) ++ List.replicate (Int.toNat (wr (wr ((List.length ws : Int) + (1 : Int)) - (↑i : Int)))) (Ty.zero Lease)) ∧
 ((0 : Int) ≤ (↑(List.length (spl (List.take i (ws ++ js) ++ List.replicate (Int.toNat (wr (wr ((List.length ws : Int) + (1 : Int)) - (↑i : Int)))) (Ty.zero Lease)) i (List.take (List.length (List.take i (ws ++ js) ++ List.replicate (Int.toNat (wr (wr ((List.length ws : Int) + (1 : Int)) - (↑i : Int)))) (Ty.zero Lease)) - i) [v]))) : Int) ∧ (↑(List.length (spl (List.take i (ws ++ js) ++ List.replicate (Int.toNat (wr (wr ((List.length ws : Int) + (1 : Int)) - (↑i : Int)))) (Ty.zero Lease)) i (List.take (List.length (List.take i (ws ++ js) ++ List.replicate (Int.toNat (wr (wr ((List.length ws : Int) + (1 : Int)) - (↑i : Int)))) (Ty.zero Lease)) - i) [v]))) : Int) ≤ (↑(List.length (spl (List.take i (ws ++ js) ++ List.replicate (Int.toNat (wr (wr ((List.length ws : Int) + (1 : Int)) - (↑i : Int)))) (Ty.zero Lease)) i (List.take (List.length (List.take i (ws ++ js) ++ List.replicate (Int.toNat (wr (wr ((List.length ws : Int) + (1 : Int)) - (↑i : Int)))) (Ty.zero Lease)) - i) [v]))) : Int)) ∧
 ((0 : Int) ≤ wr ((↑i : Int) + (1 : Int)) ∧ wr ((↑i : Int) + (1 : Int)) ≤ (↑(List.length (spl (List.take i (ws ++ js) ++ List.replicate (Int.toNat (wr (wr ((List.length ws : Int) + (1 : Int)) - (↑i : Int)))) (Ty.zero Lease)) i (List.take (List.length (List.take i (ws ++ js) ++ List.replicate (Int.toNat (wr (wr ((List.length ws : Int) + (1 : Int)) - (↑i : Int)))) (Ty.zero Lease)) - i) [v]))) : Int)) ∧
 ((0 : Int) ≤ (List.length ws : Int) ∧ (List.length ws : Int) ≤ (↑(List.length (ws ++ js)) : Int)) ∧
 ((0 : Int) ≤ (↑i : Int) ∧ (↑i : Int) ≤ (List.length ws : Int)) ∧
 ((0 : Int) ≤ (↑(List.length (spl (List.take i (ws ++ js) ++ List.replicate (Int.toNat (wr (wr ((List.length ws : Int) + (1 : Int)) - (↑i : Int)))) (Ty.zero Lease)) i (List.take (List.length (List.take i (ws ++ js) ++ List.replicate (Int.toNat (wr (wr ((List.length ws : Int) + (1 : Int)) - (↑i : Int)))) (Ty.zero Lease)) - i) [v]))) : Int) ∧ (↑(List.length (spl (List.take i (ws ++ js) ++ List.replicate (Int.toNat (wr (wr ((List.length ws : Int) + (1 : Int)) - (↑i : Int)))) (Ty.zero Lease)) i (List.take (List.length (List.take i (ws ++ js) ++ List.replicate (Int.toNat (wr (wr ((List.length ws : Int) + (1 : Int)) - (↑i : Int)))) (Ty.zero Lease)) - i) [v]))) : Int) ≤ (↑(List.length (spl (List.take i (ws ++ js) ++ List.replicate (Int.toNat (wr (wr ((List.length ws : Int) + (1 : Int)) - (↑i : Int)))) (Ty.zero Lease)) i (List.take (List.length (List.take i (ws ++ js) ++ List.replicate (Int.toNat (wr (wr ((List.length ws : Int) + (1 : Int)) - (↑i : Int)))) (Ty.zero Lease)) - i) [v]))) : Int)) ∧
 ((0 : Int) ≤ wr ((↑i : Int) + (1 : Int)) ∧ wr ((↑i : Int) + (1 : Int)) ≤ (↑(List.length (spl (List.take i (ws ++ js) ++ List.replicate (Int.toNat (wr (wr ((List.length ws : Int) + (1 : Int)) - (↑i : Int)))) (Ty.zero Lease)) i (List.take (List.length (List.take i (ws ++ js) ++ List.replicate (Int.toNat (wr (wr ((List.length ws : Int) + (1 : Int)) - (↑i : Int)))) (Ty.zero Lease)) - i) [v]))) : Int)) ∧ Int.toNat (wr ((↑i : Int) + (1 : Int))) = Int.toNat (wr ((↑i : Int) + (1 : Int))) ∧ List.length (spl (List.take i (ws ++ js) ++ List.replicate (Int.toNat (wr (wr ((List.length ws : Int) + (1 : Int)) - (↑i : Int)))) (Ty.zero Lease)) i (List.take (List.length (List.take i (ws ++ js) ++ List.replicate (Int.toNat (wr (wr ((List.length ws : Int) + (1 : Int)) - (↑i : Int)))) (Ty.zero Lease)) - i) [v])) - Int.toNat (wr ((↑i : Int) + (1 : Int))) = List.length (spl (List.take i (ws ++ js) ++ List.replicate (Int.toNat (wr (wr ((List.length ws : Int) + (1 : Int)) - (↑i : Int)))) (Ty.zero Lease)) i (List.take (List.length (List.take i (ws ++ js) ++ List.replicate (Int.toNat (wr (wr ((List.length ws : Int) + (1 : Int)) - (↑i : Int)))) (Ty.zero Lease)) - i) [v])) - Int.toNat (wr ((↑i : Int) + (1 : Int))) ∧ Int.toNat (wr ((↑i : Int) + (1 : Int))) + List.length (List.take (List.length (spl (List.take i (ws ++ js) ++ List.replicate (Int.toNat (wr (wr ((List.length ws : Int) + (1 : Int)) - (↑i : Int)))) (Ty.zero Lease)) i (List.take (List.length (List.take i (ws ++ js) ++ List.replicate (Int.toNat (wr (wr ((List.length ws : Int) + (1 : Int)) - (↑i : Int)))) (Ty.zero Lease)) - i) [v])) - Int.toNat (wr ((↑i : Int) + (1 : Int)))) (List.take (List.length ws - i) (List.drop i (ws ++ js)))) ≤ List.length (spl (List.take i (ws ++ js) ++ List.replicate (Int.toNat (wr (wr ((List.length ws : Int) + (1 : Int)) - (↑i : Int)))) (Ty.zero Lease)) i (List.take (List.length (List.take i (ws ++ js) ++ List.replicate (Int.toNat (wr (wr ((List.length ws : Int) + (1 : Int)) - (↑i : Int)))) (Ty.zero Lease)) - i) [v])) ∧ K (SV.b ((BV.hd 2))) [AObj.buf 54 Lease (ws ++ js) (List.length ws), AObj.row 54 Lease [v], AObj.row 54 Lease (spl (spl (List.take i (ws ++ js) ++ List.replicate (Int.toNat (wr (wr ((List.length ws : Int) + (1 : Int)) - (↑i : Int)))) (Ty.zero Lease)) i (List.take (List.length (List.take i (ws ++ js) ++ List.replicate (Int.toNat (wr (wr ((List.length ws : Int) + (1 : Int)) - (↑i : Int)))) (Ty.zero Lease)) - i) [v])) (Int.toNat (wr ((↑i : Int) + (1 : Int)))) (List.take (List.length (spl (List.take i (ws ++ js) ++ List.replicate (Int.toNat (wr (wr ((List.length ws : Int) + (1 : Int)) - (↑i : Int)))) (Ty.zero Lease)) i (List.take (List.length (List.take i (ws ++ js) ++ List.replicate (Int.toNat (wr (wr ((List.length ws : Int) + (1 : Int)) - (↑i : Int)))) (Ty.zero Lease)) - i) [v])) - Int.toNat (wr ((↑i : Int) + (1 : Int)))) (List.take (List.length ws - i) (List.drop i (ws ++ js)))))])) ∧
 (decide (wr ((List.length ws : Int) + (1 : Int)) > (↑(List.length (ws ++ js)) : Int)) = false →
 ((0 : Int) ≤ wr ((List.length ws : Int) + (1 : Int)) ∧ wr ((List.length ws : Int) + (1 : Int)) ≤ (↑(List.length (ws ++ js)) : Int)) ∧
 ((0 : Int) ≤ (0 : Int) ∧ (0 : Int) ≤ wr ((List.length ws : Int) + (1 : Int))) ∧
 ((0 : Int) ≤ (↑(Int.toNat (wr ((List.length ws : Int) + (1 : Int)))) : Int) ∧ (↑(Int.toNat (wr ((List.length ws : Int) + (1 : Int)))) : Int) ≤ (↑(List.length (ws ++ js)) : Int)) ∧
 ((0 : Int) ≤ wr ((↑i : Int) + (1 : Int)) ∧ wr ((↑i : Int) + (1 : Int)) ≤ (↑(Int.toNat (wr ((List.length ws : Int) + (1 : Int)))) : Int)) ∧
 OverP Try.prog 76 ∧
 (((0 : Int) ≤ (↑(Int.toNat (wr ((List.length ws : Int) + (1 : Int)))) : Int) ∧ (↑(Int.toNat (wr ((List.length ws : Int) + (1 : Int)))) : Int) ≤ (↑(List.length (ws ++ js)) : Int)) ∧ ((0 : Int) ≤ wr ((↑i : Int) + (1 : Int)) ∧ wr ((↑i : Int) + (1 : Int)) ≤ (↑(Int.toNat (wr ((List.length ws : Int) + (1 : Int)))) : Int)) ∧ ((0 : Int) ≤ (↑(Int.toNat (wr ((List.length ws : Int) + (1 : Int)))) : Int) ∧ (↑(Int.toNat (wr ((List.length ws : Int) + (1 : Int)))) : Int) ≤ (↑(List.length (ws ++ js)) : Int)) ∧ ((0 : Int) ≤ (↑i : Int) ∧ (↑i : Int) ≤ (↑(Int.toNat (wr ((List.length ws : Int) + (1 : Int)))) : Int)) ∧ Int.toNat (wr ((↑i : Int) + (1 : Int))) + List.length (List.take (Int.toNat (wr ((List.length ws : Int) + (1 : Int))) - Int.toNat (wr ((↑i : Int) + (1 : Int)))) (List.take (Int.toNat (wr ((List.length ws : Int) + (1 : Int))) - i) (List.drop i (ws ++ js)))) ≤ List.length (ws ++ js) ∧ ((0 : Int) ≤ (↑(Int.toNat (wr ((List.length ws : Int) + (1 : Int)))) : Int) ∧ (↑(Int.toNat (wr ((List.length ws : Int) + (1 : Int)))) : Int) ≤ (↑(List.length (spl (ws ++ js) (Int.toNat (wr ((↑i : Int) + (1 : Int)))) (List.take (Int.toNat (wr ((List.length ws : Int) + (1 : Int))) - Int.toNat (wr ((↑i : Int) + (1 : Int)))) (List.take (Int.toNat (wr ((List.length ws : Int) + (1 : Int))) - i) (List.drop i (ws ++ js)))))) : Int)) ∧ ((0 : Int) ≤ (↑i : Int) ∧ (↑i : Int) ≤ (↑(Int.toNat (wr ((List.length ws : Int) + (1 : Int)))) : Int)) ∧ i + List.length (List.take (Int.toNat (wr ((List.length ws : Int) + (1 : Int))) - i) [v]) ≤ List.length (spl (ws ++ js) (Int.toNat (wr ((↑i : Int) + (1 : Int)))) (List.take (Int.toNat (wr ((List.length ws : Int) + (1 : Int))) - Int.toNat (wr ((↑i : Int) + (1 : Int)))) (List.take (Int.toNat (wr ((List.length ws : Int) + (1 : Int))) - i) (List.drop i (ws ++ js))))) ∧ K (SV.b ((BV.hd 2))) [AObj.dead, AObj.row 54 Lease [v], AObj.row 54 Lease (List.take (Int.toNat (wr ((List.length ws : Int) + (1 : Int)))) (spl (spl (ws ++ js) (Int.toNat (wr ((↑i : Int) + (1 : Int)))) (List.take (Int.toNat (wr ((List.length ws : Int) + (1 : Int))) - Int.toNat (wr ((↑i : Int) + (1 : Int)))) (List.take (Int.toNat (wr ((List.length ws : Int) + (1 : Int))) - i) (List.drop i (ws ++ js))))) i (List.take (Int.toNat (wr ((List.length ws : Int) + (1 : Int))) - i) [v])))]) ∧
 ((0 : Int) ≤ (↑(Int.toNat (wr ((List.length ws : Int) + (1 : Int)))) : Int) ∧ (↑(Int.toNat (wr ((List.length ws : Int) + (1 : Int)))) : Int) ≤ (↑(List.length (ws ++ js)) : Int)) ∧ ((0 : Int) ≤ (↑i : Int) ∧ (↑i : Int) ≤ (↑(Int.toNat (wr ((List.length ws : Int) + (1 : Int)))) : Int)) ∧ ((0 : Int) ≤ (↑(Int.toNat (wr ((List.length ws : Int) + (1 : Int)))) : Int) ∧ (↑(Int.toNat (wr ((List.length ws : Int) + (1 : Int)))) : Int) ≤ (↑(List.length (ws ++ js)) : Int)) ∧ ((0 : Int) ≤ wr ((↑i : Int) + (1 : Int)) ∧ wr ((↑i : Int) + (1 : Int)) ≤ (↑(Int.toNat (wr ((List.length ws : Int) + (1 : Int)))) : Int)) ∧ Int.toNat (wr ((↑i : Int) + (1 : Int))) + List.length (List.take (Int.toNat (wr ((List.length ws : Int) + (1 : Int))) - Int.toNat (wr ((↑i : Int) + (1 : Int)))) (List.take (Int.toNat (wr ((List.length ws : Int) + (1 : Int))) - i) (List.drop i (ws ++ js)))) ≤ List.length (ws ++ js) ∧ ((0 : Int) ≤ (↑(Int.toNat (wr ((List.length ws : Int) + (1 : Int)))) : Int) ∧ (↑(Int.toNat (wr ((List.length ws : Int) + (1 : Int)))) : Int) ≤ (↑(List.length (spl (ws ++ js) (Int.toNat (wr ((↑i : Int) + (1 : Int)))) (List.take (Int.toNat (wr ((List.length ws : Int) + (1 : Int))) - Int.toNat (wr ((↑i : Int) + (1 : Int)))) (List.take (Int.toNat (wr ((List.length ws : Int) + (1 : Int))) - i) (List.drop i (ws ++ js)))))) : Int)) ∧ ((0 : Int) ≤ (↑i : Int) ∧ (↑i : Int) ≤ (↑(Int.toNat (wr ((List.length ws : Int) + (1 : Int)))) : Int)) ∧ i + List.length (List.take (Int.toNat (wr ((List.length ws : Int) + (1 : Int))) - i) [v]) ≤ List.length (spl (ws ++ js) (Int.toNat (wr ((↑i : Int) + (1 : Int)))) (List.take (Int.toNat (wr ((List.length ws : Int) + (1 : Int))) - Int.toNat (wr ((↑i : Int) + (1 : Int)))) (List.take (Int.toNat (wr ((List.length ws : Int) + (1 : Int))) - i) (List.drop i (ws ++ js))))) ∧ K (SV.b ((BV.hd 2))) [AObj.dead, AObj.row 54 Lease [v], AObj.row 54 Lease (List.take (Int.toNat (wr ((List.length ws : Int) + (1 : Int)))) (spl (spl (ws ++ js) (Int.toNat (wr ((↑i : Int) + (1 : Int)))) (List.take (Int.toNat (wr ((List.length ws : Int) + (1 : Int))) - Int.toNat (wr ((↑i : Int) + (1 : Int)))) (List.take (Int.toNat (wr ((List.length ws : Int) + (1 : Int))) - i) (List.drop i (ws ++ js))))) i (List.take (Int.toNat (wr ((List.length ws : Int) + (1 : Int))) - i) [v])))]))))
 = fnVC Try.prog (look []) {} Try.f65 [hv 0, iv i, hv 1] [lR ws, lR [v]] K := by kernel_rfl

theorem nf51 (p : Int) (xs : List Tm) (ls : List Le) (l : Le) (K : SV → List AObj → Prop) :
 (List.length ls ≤ lenMax ∧ (decide (leaseQ ls l.fst ≥ (0 : Int)) = true → ((0 : Int) ≤ leaseQ ls l.fst ∧ leaseQ ls l.fst < (List.length ls : Int)) ∧ Int.toNat (leaseQ ls l.fst) < List.length ls ∧ K (SV.tup []) [AObj.cells 76 [BV.hd 1, BV.hd 2, BV.int IntKind.i64 p], AObj.row 52 Item xs, AObj.row 54 Lease (List.set ls (Int.toNat (leaseQ ls l.fst)) (l.fst, l.snd.fst, l.snd.snd.fst, l.snd.snd.snd))]) ∧ (decide (leaseQ ls l.fst ≥ (0 : Int)) = false → (∃ (y : Nat), ((0 : Int) = (↑y : Int) ∧ p = p ∧ xs = xs ∧ ls = ls ∧ l.fst = l.fst ∧ l.snd.fst = l.snd.fst ∧ l.snd.snd.fst = l.snd.snd.fst ∧ l.snd.snd.snd = l.snd.snd.snd ∧ True) ∧ y ≤ posL ls l.fst) ∧ ∀ (x : Nat), x ≤ posL ls l.fst → (sgnB true (decide ((↑x : Int) < (List.length ls : Int))) = true → (0 : Int) ≤ (↑x : Int) ∧ (↑x : Int) < (List.length ls : Int)) ∧ (sgnB true (decide ((↑x : Int) < (List.length ls : Int))) = true → Nat.le (Nat.succ x) (List.length ls)) ∧ ((decide ((↑x : Int) < (List.length ls : Int)) && decide ((List.getD ls x (Ty.zero Lease)).fst < l.fst)) = true → ∃ (y : Nat), (wr ((↑x : Int) + (1 : Int)) = (↑y : Int) ∧ p = p ∧ xs = xs ∧ ls = ls ∧ l.fst = l.fst ∧ l.snd.fst = l.snd.fst ∧ l.snd.snd.fst = l.snd.snd.fst ∧ l.snd.snd.snd = l.snd.snd.snd ∧ True) ∧ y ≤ posL ls l.fst ∧ List.length ls - y < List.length ls - x) ∧ ((decide ((↑x : Int) < (List.length ls : Int)) && decide ((List.getD ls x (Ty.zero Lease)).fst < l.fst)) = false → (0 : Int) ≤ (↑x : Int) ∧ x ≤ List.length ls ∧ List.length ls ≤ lenMax ∧ K (SV.tup []) [AObj.cells 76 [BV.hd 1, BV.hd 3, BV.int IntKind.i64 p], AObj.row 52 Item xs, AObj.dead, AObj.row 54 Lease (List.take x ls ++ [(l.fst, l.snd.fst, l.snd.snd.fst, l.snd.snd.snd)] ++ List.drop x ls)])))
 = fnVC Try.prog (look L6) (N51 ls l.1) Try.f51 [pv 0, lv l] [qC 1 2 p, tR xs, lR ls] K := by kernel_rfl

end Go.Proofs.Ythjogeodclpafaa.AM
end

section
set_option linter.unusedVariables false
namespace Go.Proofs.Ythjogeodclpafaa.AM
open Go Go.Proofs.Ythjogeodclpafaa

theorem nf23 (p c e t h : Int) (xs : List Tm) (ls : List Le) (K : SV → List AObj → Prop) :
 (((decide (c < (1 : Int)) || decide (c > (8 : Int)) || decide (e < (1 : Int)) || decide (e > (1048576 : Int)) || decide (t < (0 : Int)) || decide (t > (1073741824 : Int)) || decide (h < (1 : Int)) || decide (h > (1000 : Int))) = true → K (SV.tup [TV.agg [BV.int IntKind.i64 (0 : Int), BV.str (⟨#[]⟩ : ByteArray)], TV.agg [BV.int IntKind.i64 (0 : Int), BV.int IntKind.i64 (0 : Int), BV.int IntKind.i64 (0 : Int), BV.int IntKind.i64 (0 : Int)], TV.one (BV.int IntKind.i64 (1 : Int))]) [AObj.cells 76 [BV.hd 1, BV.hd 2, BV.int IntKind.i64 p], AObj.row 52 Item xs, AObj.row 54 Lease ls]) ∧
 ((decide (c < (1 : Int)) || decide (c > (8 : Int)) || decide (e < (1 : Int)) || decide (e > (1048576 : Int)) || decide (t < (0 : Int)) || decide (t > (1073741824 : Int)) || decide (h < (1 : Int)) || decide (h > (1000 : Int))) = false →
 (∃ (y : Nat), (c = c ∧ e = e ∧ t = t ∧ h = h ∧ (List.length xs : Int) = (List.length xs : Int) ∧ (0 : Int) = (↑y : Int) ∧ p = p ∧ xs = xs ∧ ls = ls ∧ (0 : Int) = (0 : Int) ∧ (⟨#[]⟩ : ByteArray) = (⟨#[]⟩ : ByteArray) ∧ (0 : Int) = (0 : Int) ∧ (0 : Int) = (0 : Int) ∧ (0 : Int) = (0 : Int) ∧ (0 : Int) = (0 : Int) ∧ True) ∧ y ≤ List.findIdx (freeQ ls e t) xs) ∧
 ∀ (x : Nat),
 x ≤ List.findIdx (freeQ ls e t) xs →
 (decide ((↑x : Int) < (List.length xs : Int)) = true →
 ((0 : Int) ≤ (↑x : Int) ∧ (↑x : Int) < (List.length xs : Int)) ∧
 x < List.length xs ∧
 (∃ (y : Nat), (c = c ∧ e = e ∧ t = t ∧ h = h ∧ (List.length xs : Int) = (List.length xs : Int) ∧ (↑x : Int) = (↑x : Int) ∧ (List.length ls : Int) = (List.length ls : Int) ∧ (0 : Int) = (↑y : Int) ∧ p = p ∧ xs = xs ∧ ls = ls ∧ (0 : Int) = (0 : Int) ∧ (⟨#[]⟩ : ByteArray) = (⟨#[]⟩ : ByteArray) ∧ (0 : Int) = (0 : Int) ∧ (0 : Int) = (0 : Int) ∧ (0 : Int) = (0 : Int) ∧ (0 : Int) = (0 : Int) ∧ (List.getD xs x (Ty.zero Item)).fst = (List.getD xs x (Ty.zero Item)).fst ∧ (List.getD xs x (Ty.zero Item)).snd = (List.getD xs x (Ty.zero Item)).snd ∧ True) ∧ y ≤ List.findIdx (hitL e t (List.getD xs x (Ty.zero Item)).fst) ls) ∧
 ∀ (x_1 : Nat), x_1 ≤ List.findIdx (hitL e t (List.getD xs x (Ty.zero Item)).fst) ls → (decide ((↑x_1 : Int) < (List.length ls : Int)) = true → ((0 : Int) ≤ (↑x_1 : Int) ∧ (↑x_1 : Int) < (List.length ls : Int)) ∧ x_1 < List.length ls ∧ (((List.getD ls x_1 (Ty.zero Lease)).fst == (List.getD xs x (Ty.zero Item)).fst) = true → (liveL e t ((List.getD ls x_1 (Ty.zero Lease)).fst, (List.getD ls x_1 (Ty.zero Lease)).snd.fst, (List.getD ls x_1 (Ty.zero Lease)).snd.snd.fst, (List.getD ls x_1 (Ty.zero Lease)).snd.snd.snd) = true → ∃ (y : Nat), (c = c ∧ e = e ∧ t = t ∧ h = h ∧ (List.length xs : Int) = (List.length xs : Int) ∧ wr ((↑x : Int) + (1 : Int)) = (↑y : Int) ∧ p = p ∧ xs = xs ∧ ls = ls ∧ (0 : Int) = (0 : Int) ∧ (⟨#[]⟩ : ByteArray) = (⟨#[]⟩ : ByteArray) ∧ (0 : Int) = (0 : Int) ∧ (0 : Int) = (0 : Int) ∧ (0 : Int) = (0 : Int) ∧ (0 : Int) = (0 : Int) ∧ True) ∧ y ≤ List.findIdx (freeQ ls e t) xs ∧ List.length xs - y < List.length xs - x) ∧ (liveL e t ((List.getD ls x_1 (Ty.zero Lease)).fst, (List.getD ls x_1 (Ty.zero Lease)).snd.fst, (List.getD ls x_1 (Ty.zero Lease)).snd.snd.fst, (List.getD ls x_1 (Ty.zero Lease)).snd.snd.snd) = false → ∃ (y : Nat), (c = c ∧ e = e ∧ t = t ∧ h = h ∧ (List.length xs : Int) = (List.length xs : Int) ∧ (↑x : Int) = (↑x : Int) ∧ (List.length ls : Int) = (List.length ls : Int) ∧ wr ((↑x_1 : Int) + (1 : Int)) = (↑y : Int) ∧ p = p ∧ xs = xs ∧ ls = ls ∧ (0 : Int) = (0 : Int) ∧ (⟨#[]⟩ : ByteArray) = (⟨#[]⟩ : ByteArray) ∧ (0 : Int) = (0 : Int) ∧ (0 : Int) = (0 : Int) ∧ (0 : Int) = (0 : Int) ∧ (0 : Int) = (0 : Int) ∧ (List.getD xs x (Ty.zero Item)).fst = (List.getD xs x (Ty.zero Item)).fst ∧ (List.getD xs x (Ty.zero Item)).snd = (List.getD xs x (Ty.zero Item)).snd ∧ True) ∧ y ≤ List.findIdx (hitL e t (List.getD xs x (Ty.zero Item)).fst) ls ∧ List.length ls - y < List.length ls - x_1)) ∧ (((List.getD ls x_1 (Ty.zero Lease)).fst == (List.getD xs x (Ty.zero Item)).fst) = false → ∃ (y : Nat), (c = c ∧ e = e ∧ t = t ∧ h = h ∧ (List.length xs : Int) = (List.length xs : Int) ∧ (↑x : Int) = (↑x : Int) ∧ (List.length ls : Int) = (List.length ls : Int) ∧ wr ((↑x_1 : Int) + (1 : Int)) = (↑y : Int) ∧ p = p ∧ xs = xs ∧ ls = ls ∧ (0 : Int) = (0 : Int) ∧ (⟨#[]⟩ : ByteArray) = (⟨#[]⟩ : ByteArray) ∧ (0 : Int) = (0 : Int) ∧ (0 : Int) = (0 : Int) ∧ (0 : Int) = (0 : Int) ∧ (0 : Int) = (0 : Int) ∧ (List.getD xs x (Ty.zero Item)).fst = (List.getD xs x (Ty.zero Item)).fst ∧ (List.getD xs x (Ty.zero Item)).snd = (List.getD xs x (Ty.zero Item)).snd ∧ True) ∧ y ≤ List.findIdx (hitL e t (List.getD xs x (Ty.zero Item)).fst) ls ∧ List.length ls - y < List.length ls - x_1)) ∧ (decide ((↑x_1 : Int) < (List.length ls : Int)) = false → List.length ls ≤ lenMax ∧ (List.getD xs x (Ty.zero Item)).fst = (List.getD xs x (Ty.zero Item)).fst ∧ c = c ∧ e = e ∧ wr (t + h) = wr (t + h) ∧ K (SV.tup [TV.agg [BV.int IntKind.i64 (List.getD xs x (Ty.zero Item)).fst, BV.str (List.getD xs x (Ty.zero Item)).snd], TV.agg [BV.int IntKind.i64 (List.getD xs x (Ty.zero Item)).fst, BV.int IntKind.i64 c, BV.int IntKind.i64 e, BV.int IntKind.i64 (wr (t + h))], TV.one (BV.int IntKind.i64 (0 : Int))]) [AObj.cells 76 [BV.hd 1, BV.hd 3, BV.int IntKind.i64 p], AObj.row 52 Item xs, AObj.dead, AObj.row 54 Lease (giveQ ls ((List.getD xs x (Ty.zero Item)).fst, c, e, wr (t + h)))])) ∧
 (decide ((↑x : Int) < (List.length xs : Int)) = false → K (SV.tup [TV.agg [BV.int IntKind.i64 (0 : Int), BV.str (⟨#[]⟩ : ByteArray)], TV.agg [BV.int IntKind.i64 (0 : Int), BV.int IntKind.i64 (0 : Int), BV.int IntKind.i64 (0 : Int), BV.int IntKind.i64 (0 : Int)], TV.one (BV.int IntKind.i64 (34 : Int))]) [AObj.cells 76 [BV.hd 1, BV.hd 2, BV.int IntKind.i64 p], AObj.row 52 Item xs, AObj.row 54 Lease ls])))
 = fnVC Try.prog (look L7) (N23 xs ls e t) Try.f23 [pv 0, iv c, iv e, iv t, iv h] [qC 1 2 p, tR xs, lR ls] K := by kernel_rfl

end Go.Proofs.Ythjogeodclpafaa.AM
end

section
set_option linter.unusedVariables false
namespace Go.Proofs.Ythjogeodclpafaa.AM
open Go Go.Proofs.Ythjogeodclpafaa

theorem nf10 (K : SV → List AObj → Prop) :
 (0 ≤ lenMax ∧ 0 ≤ lenMax ∧ 1 ≤ lenMax ∧ 0 ≤ lenMax ∧ 2 ≤ lenMax ∧ 0 ≤ lenMax ∧ 2 ≤ lenMax ∧ 1 ≤ lenMax ∧ 2 ≤ lenMax ∧ 2 ≤ lenMax ∧ 2 ≤ lenMax ∧ 2 ≤ lenMax ∧ K (SV.b ((BV.bool true))) [])
 = fnVC Try.prog (look Ld) {} Try.f10 [] [] K := by kernel_rfl

end Go.Proofs.Ythjogeodclpafaa.AM
end

section
set_option linter.unusedVariables false
namespace Go.Proofs.Ythjogeodclpafaa.AM
open Go Go.Proofs.Ythjogeodclpafaa

theorem nf11 (a b : Int) (K : SV → List AObj → Prop) :
 (b ≠ (0 : Int) ∧ (decide (Int.tmod a b < (0 : Int)) = true → K (SV.b ((BV.int IntKind.i64 (wr (Int.tmod a b + b))))) []) ∧ (decide (Int.tmod a b < (0 : Int)) = false → K (SV.b ((BV.int IntKind.i64 (Int.tmod a b)))) []))
 = fnVC Try.prog (look []) {} Try.f11 [iv a, iv b] [] K := by kernel_rfl

theorem nf3 (s : Int) (v : ByteArray) (K : SV → List AObj → Prop) :
 ((false = true → K (SV.b ((BV.bool false))) []) ∧
 (false = false →
 (decide ((↑(ByteArray.size v) : Int) > (64 : Int)) = true → K (SV.b ((BV.bool true))) []) ∧
 (decide ((↑(ByteArray.size v) : Int) > (64 : Int)) = false →
 (0 : Int) < (1000 : Int) ∧
 (1000 : Int) ≤ (1099511627776 : Int) ∧
 (∃ (y : Nat), (s % (1000 : Int) = s % (1000 : Int) ∧ v = v ∧ (1 : Int) = (↑y : Int) + (1 : Int) ∧ (0 : Int) = roomP (s % (1000 : Int)) y ∧ [] = roomX (s % (1000 : Int)) v y ∧ @List.nil Le = [] ∧ True) ∧ y ≤ 16) ∧ ∀ (x : Nat), x ≤ 16 → (decide ((↑x : Int) + (1 : Int) ≤ (16 : Int)) = true → List.length (roomX (s % (1000 : Int)) v x) ≤ lenMax ∧ 0 ≤ lenMax ∧ ∀ (r : Int × Q), r = applyQ (roomX (s % (1000 : Int)) v x, [], roomP (s % (1000 : Int)) x) ((1 : Ty.D I), wr (s % (1000 : Int) + ((↑x : Int) + (1 : Int))), (3 : Ty.D I), (1 : Ty.D I), wr (s % (1000 : Int) + ((↑x : Int) + (1 : Int))), (0 : Ty.D I), (⟨#[]⟩ : ByteArray), v) → ((r.fst != (0 : Int)) = true → K (SV.b ((BV.bool false))) []) ∧ ((r.fst != (0 : Int)) = false → ∃ (y : Nat), (s % (1000 : Int) = s % (1000 : Int) ∧ v = v ∧ wr ((↑x : Int) + (1 : Int) + (1 : Int)) = (↑y : Int) + (1 : Int) ∧ r.snd.snd.snd = roomP (s % (1000 : Int)) y ∧ r.snd.fst = roomX (s % (1000 : Int)) v y ∧ r.snd.snd.fst = [] ∧ True) ∧ y ≤ 16 ∧ 16 - y < 16 - x)) ∧ (decide ((↑x : Int) + (1 : Int) ≤ (16 : Int)) = false → List.length (roomX (s % (1000 : Int)) v x) ≤ lenMax ∧ 0 ≤ lenMax ∧ ∀ (r : Int × Q), r = applyQ (roomX (s % (1000 : Int)) v x, [], roomP (s % (1000 : Int)) x) ((1 : Ty.D I), wr (wr (s % (1000 : Int) + (16 : Int)) + (1 : Int)), (3 : Ty.D I), (1 : Ty.D I), wr (wr (s % (1000 : Int) + (16 : Int)) + (1 : Int)), (0 : Ty.D I), (⟨#[]⟩ : ByteArray), v) → ((r.fst == (33 : Int)) = true → List.length r.snd.fst ≤ lenMax ∧ List.length r.snd.snd.fst ≤ lenMax ∧ ∀ (r_1 : Int × Q), r_1 = applyQ (r.snd.fst, r.snd.snd.fst, r.snd.snd.snd) ((1 : Ty.D I), wr (s % (1000 : Int) + (16 : Int)), (3 : Ty.D I), (1 : Ty.D I), wr (s % (1000 : Int) + (16 : Int)), (0 : Ty.D I), (⟨#[]⟩ : ByteArray), v) → ((r_1.fst == (36 : Int)) = true → List.length r_1.snd.fst ≤ lenMax ∧ List.length r_1.snd.snd.fst ≤ lenMax ∧ ∀ (r : Int × Q), r = applyQ (r_1.snd.fst, r_1.snd.snd.fst, r_1.snd.snd.snd) ((1 : Ty.D I), wr (wr (s % (1000 : Int) + (16 : Int)) + (1 : Int)), (4 : Ty.D I), (1 : Ty.D I), wr (wr (s % (1000 : Int) + (16 : Int)) + (1 : Int)), wr (s % (1000 : Int) + (2 : Int)), (⟨#[]⟩ : ByteArray), (⟨#[]⟩ : ByteArray)) → ((r.fst == (0 : Int)) = true → List.length r.snd.fst ≤ lenMax ∧ List.length r.snd.snd.fst ≤ lenMax ∧ ∀ (r_2 : Int × Q), r_2 = applyQ (r.snd.fst, r.snd.snd.fst, r.snd.snd.snd) ((1 : Ty.D I), wr (wr (s % (1000 : Int) + (16 : Int)) + (2 : Int)), (4 : Ty.D I), (1 : Ty.D I), wr (wr (s % (1000 : Int) + (16 : Int)) + (2 : Int)), wr (s % (1000 : Int) + (2 : Int)), (⟨#[]⟩ : ByteArray), (⟨#[]⟩ : ByteArray)) → ((r_2.fst == (34 : Int)) = true → List.length r_2.snd.fst ≤ lenMax ∧ List.length r_2.snd.snd.fst ≤ lenMax ∧ ∀ (r : Int × Q), r = applyQ (r_2.snd.fst, r_2.snd.snd.fst, r_2.snd.snd.snd) ((1 : Ty.D I), wr (wr (s % (1000 : Int) + (16 : Int)) + (3 : Int)), (3 : Ty.D I), (1 : Ty.D I), wr (wr (s % (1000 : Int) + (16 : Int)) + (3 : Int)), (0 : Ty.D I), (⟨#[]⟩ : ByteArray), v) → ((r.fst == (0 : Int)) = true → List.length r.snd.fst ≤ lenMax ∧ K (SV.b ((BV.bool ((↑(List.length r.snd.fst) : Int) == (16 : Int))))) []) ∧ ((r.fst == (0 : Int)) = false → K (SV.b ((BV.bool false))) [])) ∧ ((r_2.fst == (34 : Int)) = false → K (SV.b ((BV.bool false))) [])) ∧ ((r.fst == (0 : Int)) = false → K (SV.b ((BV.bool false))) [])) ∧ ((r_1.fst == (36 : Int)) = false → K (SV.b ((BV.bool false))) [])) ∧ ((r.fst == (33 : Int)) = false → K (SV.b ((BV.bool false))) [])))))
 = fnVC Try.prog (look L9) (N3 (s % 1000) v) Try.f3 [iv s, sv v] [] K := by kernel_rfl

end Go.Proofs.Ythjogeodclpafaa.AM
end

section
set_option linter.unusedVariables false
namespace Go.Proofs.Ythjogeodclpafaa.AM
open Go Go.Proofs.Ythjogeodclpafaa

theorem nfFoldQ (h : List Ch) (K : SV → List AObj → Prop) :
 ((∃ (y : Nat), (h = h ∧ h = h ∧ (List.length h : Int) = (List.length h : Int) ∧ (0 : Int) = (↑y : Int) ∧ (0 : Int) = (runF applyQ (List.take y h) q0).snd.snd ∧ [] = (runF applyQ (List.take y h) q0).fst ∧ [] = (runF applyQ (List.take y h) q0).snd.fst ∧ True) ∧ y ≤ List.length h ∧ foldF applyQ h 0 q0 = foldF applyQ (List.drop y h) y (runF applyQ (List.take y h) q0)) ∧ ∀ (x : Nat), x ≤ List.length h ∧ foldF applyQ h 0 q0 = foldF applyQ (List.drop x h) x (runF applyQ (List.take x h) q0) → (decide ((↑x : Int) < (List.length h : Int)) = true → ((0 : Int) ≤ (↑x : Int) ∧ (↑x : Int) < (List.length h : Int)) ∧ List.length (runF applyQ (List.take x h) q0).fst ≤ lenMax ∧ List.length (runF applyQ (List.take x h) q0).snd.fst ≤ lenMax ∧ ∀ (r : Int × Q), r = applyQ ((runF applyQ (List.take x h) q0).fst, (runF applyQ (List.take x h) q0).snd.fst, (runF applyQ (List.take x h) q0).snd.snd) ((List.getD h x (Ty.zero Change)).fst, (List.getD h x (Ty.zero Change)).snd.fst, (List.getD h x (Ty.zero Change)).snd.snd.fst, (List.getD h x (Ty.zero Change)).snd.snd.snd.fst, (List.getD h x (Ty.zero Change)).snd.snd.snd.snd.fst, (List.getD h x (Ty.zero Change)).snd.snd.snd.snd.snd.fst, (List.getD h x (Ty.zero Change)).snd.snd.snd.snd.snd.snd.fst, (List.getD h x (Ty.zero Change)).snd.snd.snd.snd.snd.snd.snd) → ((r.fst != (0 : Int)) = true → K (SV.tup [TV.one BV.nilp, TV.one (BV.int IntKind.i64 (↑x : Int)), TV.one (BV.int IntKind.i64 r.fst)]) []) ∧ ((r.fst != (0 : Int)) = false → ∃ (y : Nat), (h = h ∧ h = h ∧ (List.length h : Int) = (List.length h : Int) ∧ wr ((↑x : Int) + (1 : Int)) = (↑y : Int) ∧ r.snd.snd.snd = (runF applyQ (List.take y h) q0).snd.snd ∧ r.snd.fst = (runF applyQ (List.take y h) q0).fst ∧ r.snd.snd.fst = (runF applyQ (List.take y h) q0).snd.fst ∧ True) ∧ (y ≤ List.length h ∧ foldF applyQ h 0 q0 = foldF applyQ (List.drop y h) y (runF applyQ (List.take y h) q0)) ∧ List.length h - y < List.length h - x)) ∧ (decide ((↑x : Int) < (List.length h : Int)) = false → K (SV.tup [TV.one (BV.ptr 0 0), TV.one (BV.int IntKind.i64 (List.length h : Int)), TV.one (BV.int IntKind.i64 (0 : Int))]) [AObj.cells 76 [BV.hd 1, BV.hd 2, BV.int IntKind.i64 (runF applyQ (List.take x h) q0).snd.snd], AObj.row 52 Item (runF applyQ (List.take x h) q0).fst, AObj.row 54 Lease (runF applyQ (List.take x h) q0).snd.fst]))
 = fnVC Try.prog (look L10) (N_FoldQ h) Try.f20 [fc h] [] K := by kernel_rfl

theorem nfFoldR (h : List Ch) (K : SV → List AObj → Prop) :
 ((∃ (y : Nat), (h = h ∧ h = h ∧ (List.length h : Int) = (List.length h : Int) ∧ (0 : Int) = (↑y : Int) ∧ [] = (runF applyR (List.take y h) q0).fst ∧ [] = (runF applyR (List.take y h) q0).snd.fst ∧ (0 : Int) = (runF applyR (List.take y h) q0).snd.snd ∧ True) ∧ y ≤ List.length h ∧ foldF applyR h 0 q0 = foldF applyR (List.drop y h) y (runF applyR (List.take y h) q0)) ∧ ∀ (x : Nat), x ≤ List.length h ∧ foldF applyR h 0 q0 = foldF applyR (List.drop x h) x (runF applyR (List.take x h) q0) → (decide ((↑x : Int) < (List.length h : Int)) = true → ((0 : Int) ≤ (↑x : Int) ∧ (↑x : Int) < (List.length h : Int)) ∧ List.length (runF applyR (List.take x h) q0).fst ≤ lenMax ∧ List.length (runF applyR (List.take x h) q0).snd.fst ≤ lenMax ∧ ∀ (r : Int × Q), r = applyR ((runF applyR (List.take x h) q0).fst, (runF applyR (List.take x h) q0).snd.fst, (runF applyR (List.take x h) q0).snd.snd) ((List.getD h x (Ty.zero Change)).fst, (List.getD h x (Ty.zero Change)).snd.fst, (List.getD h x (Ty.zero Change)).snd.snd.fst, (List.getD h x (Ty.zero Change)).snd.snd.snd.fst, (List.getD h x (Ty.zero Change)).snd.snd.snd.snd.fst, (List.getD h x (Ty.zero Change)).snd.snd.snd.snd.snd.fst, (List.getD h x (Ty.zero Change)).snd.snd.snd.snd.snd.snd.fst, (List.getD h x (Ty.zero Change)).snd.snd.snd.snd.snd.snd.snd) → ((r.fst != (0 : Int)) = true → K (SV.tup [TV.one BV.nilp, TV.one (BV.int IntKind.i64 (↑x : Int)), TV.one (BV.int IntKind.i64 r.fst)]) []) ∧ ((r.fst != (0 : Int)) = false → ∃ (y : Nat), (h = h ∧ h = h ∧ (List.length h : Int) = (List.length h : Int) ∧ wr ((↑x : Int) + (1 : Int)) = (↑y : Int) ∧ r.snd.fst = (runF applyR (List.take y h) q0).fst ∧ r.snd.snd.fst = (runF applyR (List.take y h) q0).snd.fst ∧ r.snd.snd.snd = (runF applyR (List.take y h) q0).snd.snd ∧ True) ∧ (y ≤ List.length h ∧ foldF applyR h 0 q0 = foldF applyR (List.drop y h) y (runF applyR (List.take y h) q0)) ∧ List.length h - y < List.length h - x)) ∧ (decide ((↑x : Int) < (List.length h : Int)) = false → K (SV.tup [TV.one (BV.ptr 0 0), TV.one (BV.int IntKind.i64 (List.length h : Int)), TV.one (BV.int IntKind.i64 (0 : Int))]) [AObj.cells 49 [BV.fsl 52 Item (runF applyR (List.take x h) q0).fst, BV.fsl 54 Lease (runF applyR (List.take x h) q0).snd.fst, BV.int IntKind.i64 (runF applyR (List.take x h) q0).snd.snd]]))
 = fnVC Try.prog (look L10) (N_FoldR h) Try.f21 [fc h] [] K := by kernel_rfl

theorem nfLeases (p e t : Int) (xs : List Tm) (ls : List Le) (K : SV → List AObj → Prop) :
 ((∃ (y : Nat), (e = e ∧ t = t ∧ (List.length ls : Int) = (List.length ls : Int) ∧ (0 : Int) = (↑y : Int) ∧ p = p ∧ xs = xs ∧ ls = ls ∧ [] = List.filter (liveL e t) (List.take y ls) ∧ True) ∧ y ≤ List.length ls) ∧ ∀ (x : Nat), x ≤ List.length ls → (decide ((↑x : Int) < (List.length ls : Int)) = true → ((0 : Int) ≤ (↑x : Int) ∧ (↑x : Int) < (List.length ls : Int)) ∧ x < List.length ls ∧ (liveL e t ((List.getD ls x (Ty.zero Lease)).fst, (List.getD ls x (Ty.zero Lease)).snd.fst, (List.getD ls x (Ty.zero Lease)).snd.snd.fst, (List.getD ls x (Ty.zero Lease)).snd.snd.snd) = true → (↑(List.length (List.filter (liveL e t) (List.take x ls)) + List.length [((List.getD ls x (Ty.zero Lease)).fst, (List.getD ls x (Ty.zero Lease)).snd.fst, (List.getD ls x (Ty.zero Lease)).snd.snd.fst, (List.getD ls x (Ty.zero Lease)).snd.snd.snd)]) : Int) * (32 : Int) ≤ (140737488355328 : Int) ∧ (↑(List.length (List.filter (liveL e t) (List.take x ls)) + List.length [((List.getD ls x (Ty.zero Lease)).fst, (List.getD ls x (Ty.zero Lease)).snd.fst, (List.getD ls x (Ty.zero Lease)).snd.snd.fst, (List.getD ls x (Ty.zero Lease)).snd.snd.snd)]) : Int) ≤ (140737488355328 : Int) ∧ ∃ (y : Nat), (e = e ∧ t = t ∧ (List.length ls : Int) = (List.length ls : Int) ∧ wr ((↑x : Int) + (1 : Int)) = (↑y : Int) ∧ p = p ∧ xs = xs ∧ ls = ls ∧ List.filter (liveL e t) (List.take x ls) ++ [((List.getD ls x (Ty.zero Lease)).fst, (List.getD ls x (Ty.zero Lease)).snd.fst, (List.getD ls x (Ty.zero Lease)).snd.snd.fst, (List.getD ls x (Ty.zero Lease)).snd.snd.snd)] = List.filter (liveL e t) (List.take y ls) ∧ True) ∧ y ≤ List.length ls ∧ List.length ls - y < List.length ls - x) ∧ (liveL e t ((List.getD ls x (Ty.zero Lease)).fst, (List.getD ls x (Ty.zero Lease)).snd.fst, (List.getD ls x (Ty.zero Lease)).snd.snd.fst, (List.getD ls x (Ty.zero Lease)).snd.snd.snd) = false → ∃ (y : Nat), (e = e ∧ t = t ∧ (List.length ls : Int) = (List.length ls : Int) ∧ wr ((↑x : Int) + (1 : Int)) = (↑y : Int) ∧ p = p ∧ xs = xs ∧ ls = ls ∧ List.filter (liveL e t) (List.take x ls) = List.filter (liveL e t) (List.take y ls) ∧ True) ∧ y ≤ List.length ls ∧ List.length ls - y < List.length ls - x)) ∧ (decide ((↑x : Int) < (List.length ls : Int)) = false → K (SV.b ((BV.hd 3))) [AObj.cells 76 [BV.hd 1, BV.hd 2, BV.int IntKind.i64 p], AObj.row 52 Item xs, AObj.row 54 Lease ls, AObj.row 54 Lease (List.filter (liveL e t) (List.take x ls))]))
 = fnVC Try.prog (look L10) (N_Leases ls e t) Try.f24 [pv 0, iv e, iv t] [qC 1 2 p, tR xs, lR ls] K := by kernel_rfl

theorem nfHolds (p c e i t : Int) (xs : List Tm) (ls : List Le) (K : SV → List AObj → Prop) :
 (List.length ls ≤ lenMax ∧ (sgnB true (decide (leaseQ ls i ≥ (0 : Int))) = true → (0 : Int) ≤ leaseQ ls i ∧ leaseQ ls i < (List.length ls : Int)) ∧ (sgnB true (decide (leaseQ ls i ≥ (0 : Int))) = true → Nat.le (Nat.succ (Int.toNat (leaseQ ls i))) (List.length ls)) ∧ (sgnB true (decide (leaseQ ls i ≥ (0 : Int)) && (List.getD ls (Int.toNat (leaseQ ls i)) (Ty.zero Lease)).snd.fst == c) = true → (0 : Int) ≤ leaseQ ls i ∧ leaseQ ls i < (List.length ls : Int)) ∧ (sgnB true (decide (leaseQ ls i ≥ (0 : Int)) && (List.getD ls (Int.toNat (leaseQ ls i)) (Ty.zero Lease)).snd.fst == c) = true → Nat.le (Nat.succ (Int.toNat (leaseQ ls i))) (List.length ls)) ∧ ((decide (leaseQ ls i ≥ (0 : Int)) && (List.getD ls (Int.toNat (leaseQ ls i)) (Ty.zero Lease)).snd.fst == c) = true → K (SV.b ((BV.bool (liveL e t ((List.getD ls (Int.toNat (leaseQ ls i)) (Ty.zero Lease)).fst, (List.getD ls (Int.toNat (leaseQ ls i)) (Ty.zero Lease)).snd.fst, (List.getD ls (Int.toNat (leaseQ ls i)) (Ty.zero Lease)).snd.snd.fst, (List.getD ls (Int.toNat (leaseQ ls i)) (Ty.zero Lease)).snd.snd.snd))))) [AObj.cells 76 [BV.hd 1, BV.hd 2, BV.int IntKind.i64 p], AObj.row 52 Item xs, AObj.row 54 Lease ls]) ∧ ((decide (leaseQ ls i ≥ (0 : Int)) && (List.getD ls (Int.toNat (leaseQ ls i)) (Ty.zero Lease)).snd.fst == c) = false → K (SV.b ((BV.bool false))) [AObj.cells 76 [BV.hd 1, BV.hd 2, BV.int IntKind.i64 p], AObj.row 52 Item xs, AObj.row 54 Lease ls]))
 = fnVC Try.prog (look L10) {} Try.f29 [pv 0, iv c, iv e, iv i, iv t] [qC 1 2 p, tR xs, lR ls] K := by kernel_rfl

theorem nfCopyQ (p : Int) (xs : List Tm) (ls : List Le) (K : SV → List AObj → Prop) :
 (List.length xs ≤ lenMax ∧ p = p ∧ List.length ls ≤ lenMax ∧ p = p ∧ K (SV.b ((BV.ptr 3 0))) [AObj.cells 76 [BV.hd 1, BV.hd 2, BV.int IntKind.i64 p], AObj.row 52 Item xs, AObj.row 54 Lease ls, AObj.cells 76 [BV.hd 4, BV.hd 5, BV.int IntKind.i64 p], AObj.row 52 Item xs, AObj.row 54 Lease ls])
 = fnVC Try.prog (look L10) {} Try.f33 [pv 0] [qC 1 2 p, tR xs, lR ls] K := by kernel_rfl

theorem nfEqualT (a b : List Tm) (K : SV → List AObj → Prop) :
 ((((List.length a : Int) != (List.length b : Int)) = true → K (SV.b ((BV.bool false))) []) ∧ (((List.length a : Int) != (List.length b : Int)) = false → (∃ (y : Nat), (a = a ∧ b = b ∧ (List.length a : Int) = (List.length a : Int) ∧ (0 : Int) = (↑y : Int) ∧ True) ∧ y ≤ List.length a ∧ List.take y a = List.take y b) ∧ ∀ (x : Nat), x ≤ List.length a ∧ List.take x a = List.take x b → (decide ((↑x : Int) < (List.length a : Int)) = true → ((0 : Int) ≤ (↑x : Int) ∧ (↑x : Int) < (List.length a : Int)) ∧ ((0 : Int) ≤ (↑x : Int) ∧ (↑x : Int) < (List.length b : Int)) ∧ ((!Ty.eqb Item ((List.getD a x (Ty.zero Item)).fst, (List.getD a x (Ty.zero Item)).snd) ((List.getD b x (Ty.zero Item)).fst, (List.getD b x (Ty.zero Item)).snd)) = true → K (SV.b ((BV.bool false))) []) ∧ ((!Ty.eqb Item ((List.getD a x (Ty.zero Item)).fst, (List.getD a x (Ty.zero Item)).snd) ((List.getD b x (Ty.zero Item)).fst, (List.getD b x (Ty.zero Item)).snd)) = false → ∃ (y : Nat), (a = a ∧ b = b ∧ (List.length a : Int) = (List.length a : Int) ∧ wr ((↑x : Int) + (1 : Int)) = (↑y : Int) ∧ True) ∧ (y ≤ List.length a ∧ List.take y a = List.take y b) ∧ List.length a - y < List.length a - x)) ∧ (decide ((↑x : Int) < (List.length a : Int)) = false → K (SV.b ((BV.bool true))) [])))
 = fnVC Try.prog (look []) (N_Equal a b) Try.f57 [ft a, ft b] [] K := by kernel_rfl

theorem nfSameT (a b : List Tm) (K : SV → List AObj → Prop) :
 ((((List.length a : Int) != (List.length b : Int)) = true → K (SV.b ((BV.bool false))) []) ∧ (((List.length a : Int) != (List.length b : Int)) = false → (∃ (y : Nat), (a = a ∧ b = b ∧ (List.length a : Int) = (List.length a : Int) ∧ (0 : Int) = (↑y : Int) ∧ True) ∧ y ≤ List.length a ∧ List.take y a = List.take y b) ∧ ∀ (x : Nat), x ≤ List.length a ∧ List.take x a = List.take x b → (decide ((↑x : Int) < (List.length a : Int)) = true → ((0 : Int) ≤ (↑x : Int) ∧ (↑x : Int) < (List.length a : Int)) ∧ ((0 : Int) ≤ (↑x : Int) ∧ (↑x : Int) < (List.length b : Int)) ∧ ((!Ty.eqb Item ((List.getD a x (Ty.zero Item)).fst, (List.getD a x (Ty.zero Item)).snd) ((List.getD b x (Ty.zero Item)).fst, (List.getD b x (Ty.zero Item)).snd)) = true → K (SV.b ((BV.bool false))) []) ∧ ((!Ty.eqb Item ((List.getD a x (Ty.zero Item)).fst, (List.getD a x (Ty.zero Item)).snd) ((List.getD b x (Ty.zero Item)).fst, (List.getD b x (Ty.zero Item)).snd)) = false → ∃ (y : Nat), (a = a ∧ b = b ∧ (List.length a : Int) = (List.length a : Int) ∧ wr ((↑x : Int) + (1 : Int)) = (↑y : Int) ∧ True) ∧ (y ≤ List.length a ∧ List.take y a = List.take y b) ∧ List.length a - y < List.length a - x)) ∧ (decide ((↑x : Int) < (List.length a : Int)) = false → K (SV.b ((BV.bool true))) [])))
 = fnVC Try.prog (look []) (N_Equal a b) Try.f22 [ft a, ft b] [] K := by kernel_rfl

theorem nfSameL (a b : List Le) (K : SV → List AObj → Prop) :
 ((((List.length a : Int) != (List.length b : Int)) = true → K (SV.b ((BV.bool false))) []) ∧ (((List.length a : Int) != (List.length b : Int)) = false → (∃ (y : Nat), (a = a ∧ b = b ∧ (List.length a : Int) = (List.length a : Int) ∧ (0 : Int) = (↑y : Int) ∧ True) ∧ y ≤ List.length a ∧ List.take y a = List.take y b) ∧ ∀ (x : Nat), x ≤ List.length a ∧ List.take x a = List.take x b → (decide ((↑x : Int) < (List.length a : Int)) = true → ((0 : Int) ≤ (↑x : Int) ∧ (↑x : Int) < (List.length a : Int)) ∧ ((0 : Int) ≤ (↑x : Int) ∧ (↑x : Int) < (List.length b : Int)) ∧ ((!Ty.eqb Lease ((List.getD a x (Ty.zero Lease)).fst, (List.getD a x (Ty.zero Lease)).snd.fst, (List.getD a x (Ty.zero Lease)).snd.snd.fst, (List.getD a x (Ty.zero Lease)).snd.snd.snd) ((List.getD b x (Ty.zero Lease)).fst, (List.getD b x (Ty.zero Lease)).snd.fst, (List.getD b x (Ty.zero Lease)).snd.snd.fst, (List.getD b x (Ty.zero Lease)).snd.snd.snd)) = true → K (SV.b ((BV.bool false))) []) ∧ ((!Ty.eqb Lease ((List.getD a x (Ty.zero Lease)).fst, (List.getD a x (Ty.zero Lease)).snd.fst, (List.getD a x (Ty.zero Lease)).snd.snd.fst, (List.getD a x (Ty.zero Lease)).snd.snd.snd) ((List.getD b x (Ty.zero Lease)).fst, (List.getD b x (Ty.zero Lease)).snd.fst, (List.getD b x (Ty.zero Lease)).snd.snd.fst, (List.getD b x (Ty.zero Lease)).snd.snd.snd)) = false → ∃ (y : Nat), (a = a ∧ b = b ∧ (List.length a : Int) = (List.length a : Int) ∧ wr ((↑x : Int) + (1 : Int)) = (↑y : Int) ∧ True) ∧ (y ≤ List.length a ∧ List.take y a = List.take y b) ∧ List.length a - y < List.length a - x)) ∧ (decide ((↑x : Int) < (List.length a : Int)) = false → K (SV.b ((BV.bool true))) [])))
 = fnVC Try.prog (look []) (N_Equal a b) Try.f36 [fl a, fl b] [] K := by kernel_rfl

theorem nfFew (l : List Ch) (n : Int) (K : SV → List AObj → Prop) :
 ((∃ (y : Nat), (l = l ∧ n = n ∧ (0 : Int) = (↑y : Int) ∧ True) ∧ y ≤ List.length l ∧ List.all (List.take y l) shortC = true) ∧ ∀ (x : Nat), x ≤ List.length l ∧ List.all (List.take x l) shortC = true → ((decide ((↑x : Int) < (List.length l : Int)) && decide ((List.length l : Int) ≤ n)) = true → ((0 : Int) ≤ (↑x : Int) ∧ (↑x : Int) < (List.length l : Int)) ∧ ((!(decide ((↑(ByteArray.size (List.getD l x (Ty.zero Change)).snd.snd.snd.snd.snd.snd.fst) : Int) ≤ (100 : Int)) && decide ((↑(ByteArray.size (List.getD l x (Ty.zero Change)).snd.snd.snd.snd.snd.snd.snd) : Int) ≤ (100 : Int)))) = true → K (SV.b ((BV.bool false))) []) ∧ ((!(decide ((↑(ByteArray.size (List.getD l x (Ty.zero Change)).snd.snd.snd.snd.snd.snd.fst) : Int) ≤ (100 : Int)) && decide ((↑(ByteArray.size (List.getD l x (Ty.zero Change)).snd.snd.snd.snd.snd.snd.snd) : Int) ≤ (100 : Int)))) = false → ∃ (y : Nat), (l = l ∧ n = n ∧ wr ((↑x : Int) + (1 : Int)) = (↑y : Int) ∧ True) ∧ (y ≤ List.length l ∧ List.all (List.take y l) shortC = true) ∧ List.length l - y < List.length l - x)) ∧ ((decide ((↑x : Int) < (List.length l : Int)) && decide ((List.length l : Int) ≤ n)) = false → K (SV.b ((BV.bool (decide ((List.length l : Int) ≤ n))))) []))
 = fnVC Try.prog (look LB6) (N_Few l) Try.f17 [fc l, iv n] [] K := by kernel_rfl

theorem nfLive25 (xs : List Tm) (ls : List Le) (p e i t : Int) (K : SV → List AObj → Prop) :
 ((∃ (y : Nat), (e = e ∧ i = i ∧ t = t ∧ ls = ls ∧ (List.length ls : Int) = (List.length ls : Int) ∧ (0 : Int) = (↑y : Int) ∧ xs = xs ∧ ls = ls ∧ p = p ∧ (0 : Int) = (0 : Int) ∧ (0 : Int) = (0 : Int) ∧ (0 : Int) = (0 : Int) ∧ (0 : Int) = (0 : Int) ∧ True) ∧ y ≤ List.findIdx (liveR e i t) ls) ∧ ∀ (x : Nat), x ≤ List.findIdx (liveR e i t) ls → (decide ((↑x : Int) < (List.length ls : Int)) = true → ((0 : Int) ≤ (↑x : Int) ∧ (↑x : Int) < (List.length ls : Int)) ∧ (((List.getD ls x (Ty.zero Lease)).fst == i && (List.getD ls x (Ty.zero Lease)).snd.snd.fst == e && decide (t < (List.getD ls x (Ty.zero Lease)).snd.snd.snd)) = true → K (SV.tup [TV.agg [BV.int IntKind.i64 (List.getD ls x (Ty.zero Lease)).fst, BV.int IntKind.i64 (List.getD ls x (Ty.zero Lease)).snd.fst, BV.int IntKind.i64 (List.getD ls x (Ty.zero Lease)).snd.snd.fst, BV.int IntKind.i64 (List.getD ls x (Ty.zero Lease)).snd.snd.snd], TV.one (BV.bool true)]) [AObj.cells 49 [BV.fsl 52 Item xs, BV.fsl 54 Lease ls, BV.int IntKind.i64 p]]) ∧ (((List.getD ls x (Ty.zero Lease)).fst == i && (List.getD ls x (Ty.zero Lease)).snd.snd.fst == e && decide (t < (List.getD ls x (Ty.zero Lease)).snd.snd.snd)) = false → ∃ (y : Nat), (e = e ∧ i = i ∧ t = t ∧ ls = ls ∧ (List.length ls : Int) = (List.length ls : Int) ∧ wr ((↑x : Int) + (1 : Int)) = (↑y : Int) ∧ xs = xs ∧ ls = ls ∧ p = p ∧ (0 : Int) = (0 : Int) ∧ (0 : Int) = (0 : Int) ∧ (0 : Int) = (0 : Int) ∧ (0 : Int) = (0 : Int) ∧ True) ∧ y ≤ List.findIdx (liveR e i t) ls ∧ List.length ls - y < List.length ls - x)) ∧ (decide ((↑x : Int) < (List.length ls : Int)) = false → K (SV.tup [TV.agg [BV.int IntKind.i64 (0 : Int), BV.int IntKind.i64 (0 : Int), BV.int IntKind.i64 (0 : Int), BV.int IntKind.i64 (0 : Int)], TV.one (BV.bool false)]) [AObj.cells 49 [BV.fsl 52 Item xs, BV.fsl 54 Lease ls, BV.int IntKind.i64 p]]))
 = fnVC Try.prog (look []) (N_live25 ls e i t) Try.f56 [pv 0, iv e, iv i, iv t] [rC xs ls p] K := by kernel_rfl

theorem nfTake25 (xs : List Tm) (ls : List Le) (p c e t h : Int) (K : SV → List AObj → Prop) :
 (((decide (c < (1 : Int)) || decide (c > (8 : Int)) || decide (e < (1 : Int)) || decide (e > (1048576 : Int)) || decide (t < (0 : Int)) || decide (t > (1073741824 : Int)) || decide (h < (1 : Int)) || decide (h > (1000 : Int))) = true → K (SV.tup [TV.agg [BV.int IntKind.i64 (0 : Int), BV.str (⟨#[]⟩ : ByteArray)], TV.agg [BV.int IntKind.i64 (0 : Int), BV.int IntKind.i64 (0 : Int), BV.int IntKind.i64 (0 : Int), BV.int IntKind.i64 (0 : Int)], TV.one (BV.int IntKind.i64 (1 : Int))]) [AObj.cells 49 [BV.fsl 52 Item xs, BV.fsl 54 Lease ls, BV.int IntKind.i64 p]]) ∧ ((decide (c < (1 : Int)) || decide (c > (8 : Int)) || decide (e < (1 : Int)) || decide (e > (1048576 : Int)) || decide (t < (0 : Int)) || decide (t > (1073741824 : Int)) || decide (h < (1 : Int)) || decide (h > (1000 : Int))) = false → (∃ (y : Nat), (c = c ∧ e = e ∧ t = t ∧ h = h ∧ xs = xs ∧ (List.length xs : Int) = (List.length xs : Int) ∧ (0 : Int) = (↑y : Int) ∧ xs = xs ∧ ls = ls ∧ p = p ∧ (0 : Int) = (0 : Int) ∧ (⟨#[]⟩ : ByteArray) = (⟨#[]⟩ : ByteArray) ∧ (0 : Int) = (0 : Int) ∧ (0 : Int) = (0 : Int) ∧ (0 : Int) = (0 : Int) ∧ (0 : Int) = (0 : Int) ∧ True) ∧ y ≤ List.findIdx (freeR ls e t) xs) ∧ ∀ (x : Nat), x ≤ List.findIdx (freeR ls e t) xs → (decide ((↑x : Int) < (List.length xs : Int)) = true → ((0 : Int) ≤ (↑x : Int) ∧ (↑x : Int) < (List.length xs : Int)) ∧ List.length ls ≤ lenMax ∧ ∀ (r : Le × Bool), r = findR ls e (List.getD xs x (Ty.zero Item)).fst t → ((!r.snd) = true → List.length ls ≤ lenMax ∧ (↑(List.length (dropR ls (List.getD xs x (Ty.zero Item)).fst) + List.length [((List.getD xs x (Ty.zero Item)).fst, c, e, wr (t + h))]) : Int) * (32 : Int) ≤ (140737488355328 : Int) ∧ (↑(List.length (dropR ls (List.getD xs x (Ty.zero Item)).fst) + List.length [((List.getD xs x (Ty.zero Item)).fst, c, e, wr (t + h))]) : Int) ≤ (140737488355328 : Int) ∧ (List.getD xs x (Ty.zero Item)).fst = (List.getD xs x (Ty.zero Item)).fst ∧ c = c ∧ e = e ∧ wr (t + h) = wr (t + h) ∧ K (SV.tup [TV.agg [BV.int IntKind.i64 (List.getD xs x (Ty.zero Item)).fst, BV.str (List.getD xs x (Ty.zero Item)).snd], TV.agg [BV.int IntKind.i64 (List.getD xs x (Ty.zero Item)).fst, BV.int IntKind.i64 c, BV.int IntKind.i64 e, BV.int IntKind.i64 (wr (t + h))], TV.one (BV.int IntKind.i64 (0 : Int))]) [AObj.cells 49 [BV.fsl 52 Item xs, BV.hd 1, BV.int IntKind.i64 p], AObj.row 54 Lease (dropR ls (List.getD xs x (Ty.zero Item)).fst ++ [((List.getD xs x (Ty.zero Item)).fst, c, e, wr (t + h))])]) ∧ ((!r.snd) = false → ∃ (y : Nat), (c = c ∧ e = e ∧ t = t ∧ h = h ∧ xs = xs ∧ (List.length xs : Int) = (List.length xs : Int) ∧ wr ((↑x : Int) + (1 : Int)) = (↑y : Int) ∧ xs = xs ∧ ls = ls ∧ p = p ∧ (0 : Int) = (0 : Int) ∧ (⟨#[]⟩ : ByteArray) = (⟨#[]⟩ : ByteArray) ∧ (0 : Int) = (0 : Int) ∧ (0 : Int) = (0 : Int) ∧ (0 : Int) = (0 : Int) ∧ (0 : Int) = (0 : Int) ∧ True) ∧ y ≤ List.findIdx (freeR ls e t) xs ∧ List.length xs - y < List.length xs - x)) ∧ (decide ((↑x : Int) < (List.length xs : Int)) = false → K (SV.tup [TV.agg [BV.int IntKind.i64 (0 : Int), BV.str (⟨#[]⟩ : ByteArray)], TV.agg [BV.int IntKind.i64 (0 : Int), BV.int IntKind.i64 (0 : Int), BV.int IntKind.i64 (0 : Int), BV.int IntKind.i64 (0 : Int)], TV.one (BV.int IntKind.i64 (34 : Int))]) [AObj.cells 49 [BV.fsl 52 Item xs, BV.fsl 54 Lease ls, BV.int IntKind.i64 p]])))
 = fnVC Try.prog (look L11) (N_take25 xs ls e t) Try.f35 [pv 0, iv c, iv e, iv t, iv h] [rC xs ls p] K := by kernel_rfl

theorem nfLeases25 (xs : List Tm) (ls : List Le) (p e t : Int) (K : SV → List AObj → Prop) :
 ((∃ (y : Nat), (e = e ∧ t = t ∧ xs = xs ∧ (List.length xs : Int) = (List.length xs : Int) ∧ (0 : Int) = (↑y : Int) ∧ xs = xs ∧ ls = ls ∧ p = p ∧ [] = leasesR (List.take y xs, ls, p) e t ∧ True) ∧ y ≤ List.length xs) ∧ ∀ (x : Nat), x ≤ List.length xs → (decide ((↑x : Int) < (List.length xs : Int)) = true → ((0 : Int) ≤ (↑x : Int) ∧ (↑x : Int) < (List.length xs : Int)) ∧ List.length ls ≤ lenMax ∧ ∀ (r : Le × Bool), r = findR ls e (List.getD xs x (Ty.zero Item)).fst t → (r.snd = true → (↑(List.length (leasesR (List.take x xs, ls, p) e t) + List.length [(r.fst.fst, r.fst.snd.fst, r.fst.snd.snd.fst, r.fst.snd.snd.snd)]) : Int) * (32 : Int) ≤ (140737488355328 : Int) ∧ (↑(List.length (leasesR (List.take x xs, ls, p) e t) + List.length [(r.fst.fst, r.fst.snd.fst, r.fst.snd.snd.fst, r.fst.snd.snd.snd)]) : Int) ≤ (140737488355328 : Int) ∧ ∃ (y : Nat), (e = e ∧ t = t ∧ xs = xs ∧ (List.length xs : Int) = (List.length xs : Int) ∧ wr ((↑x : Int) + (1 : Int)) = (↑y : Int) ∧ xs = xs ∧ ls = ls ∧ p = p ∧ leasesR (List.take x xs, ls, p) e t ++ [(r.fst.fst, r.fst.snd.fst, r.fst.snd.snd.fst, r.fst.snd.snd.snd)] = leasesR (List.take y xs, ls, p) e t ∧ True) ∧ y ≤ List.length xs ∧ List.length xs - y < List.length xs - x) ∧ (r.snd = false → ∃ (y : Nat), (e = e ∧ t = t ∧ xs = xs ∧ (List.length xs : Int) = (List.length xs : Int) ∧ wr ((↑x : Int) + (1 : Int)) = (↑y : Int) ∧ xs = xs ∧ ls = ls ∧ p = p ∧ leasesR (List.take x xs, ls, p) e t = leasesR (List.take y xs, ls, p) e t ∧ True) ∧ y ≤ List.length xs ∧ List.length xs - y < List.length xs - x)) ∧ (decide ((↑x : Int) < (List.length xs : Int)) = false → K (SV.b ((BV.hd 1))) [AObj.cells 49 [BV.fsl 52 Item xs, BV.fsl 54 Lease ls, BV.int IntKind.i64 p], AObj.row 54 Lease (leasesR (List.take x xs, ls, p) e t)]))
 = fnVC Try.prog (look L11) (N_leases25 xs ls p e t) Try.f37 [pv 0, iv e, iv t] [rC xs ls p] K := by kernel_rfl

theorem nfSameQ (xs xs' : List Tm) (ls ls' : List Le) (p p' : Int) (K : SV → List AObj → Prop) :
 ((sgnB true (p == p') = true → List.length xs ≤ lenMax ∧ K (SV.b ((BV.bool (p == p' && decide (xs = xs'))))) [AObj.cells 76 [BV.hd 2, BV.hd 3, BV.int IntKind.i64 p], AObj.cells 76 [BV.hd 4, BV.hd 5, BV.int IntKind.i64 p'], AObj.row 52 Item xs, AObj.row 54 Lease ls, AObj.row 52 Item xs', AObj.row 54 Lease ls']) ∧ (sgnB true (p == p') = false → K (SV.b ((BV.bool (p == p' && false)))) [AObj.cells 76 [BV.hd 2, BV.hd 3, BV.int IntKind.i64 p], AObj.cells 76 [BV.hd 4, BV.hd 5, BV.int IntKind.i64 p'], AObj.row 52 Item xs, AObj.row 54 Lease ls, AObj.row 52 Item xs', AObj.row 54 Lease ls']))
 = fnVC Try.prog (look L11) {} Try.f40 [pv 0, pv 1] [qC 2 3 p, qC 4 5 p', tR xs, lR ls, tR xs', lR ls'] K := by kernel_rfl

theorem nfSameR (xs xs' : List Tm) (ls ls' : List Le) (p p' : Int) (K : SV → List AObj → Prop) :
 (List.length xs ≤ lenMax ∧ K (SV.b ((BV.bool (decide (xs = xs') && p == p')))) [AObj.cells 49 [BV.fsl 52 Item xs, BV.fsl 54 Lease ls, BV.int IntKind.i64 p], AObj.cells 49 [BV.fsl 52 Item xs', BV.fsl 54 Lease ls', BV.int IntKind.i64 p']])
 = fnVC Try.prog (look L11) {} Try.f41 [pv 0, pv 1] [rC xs ls p, rC xs' ls' p'] K := by kernel_rfl

end Go.Proofs.Ythjogeodclpafaa.AM
end

section
set_option linter.unusedVariables false
namespace Go.Proofs.Ythjogeodclpafaa.AM
open Go Go.Proofs.Ythjogeodclpafaa

theorem nfLight (l : List Ac) (K : SV → List AObj → Prop) :
 ((∃ (y : Nat), (l = l ∧ (0 : Int) = (↑y : Int) ∧ True) ∧ y ≤ List.length l ∧ (List.all (List.take y l) fun (a : Ac) => shortC a.snd.snd.snd.snd.snd) = true) ∧ ∀ (x : Nat), x ≤ List.length l ∧ (List.all (List.take x l) fun (a : Ac) => shortC a.snd.snd.snd.snd.snd) = true → ((decide ((↑x : Int) < (List.length l : Int)) && decide ((List.length l : Int) ≤ (80 : Int))) = true → ((0 : Int) ≤ (↑x : Int) ∧ (↑x : Int) < (List.length l : Int)) ∧ ((!(decide ((↑(ByteArray.size (List.getD l x (Ty.zero ActT)).snd.snd.snd.snd.snd.snd.snd.snd.snd.snd.snd.fst) : Int) ≤ (100 : Int)) && decide ((↑(ByteArray.size (List.getD l x (Ty.zero ActT)).snd.snd.snd.snd.snd.snd.snd.snd.snd.snd.snd.snd) : Int) ≤ (100 : Int)))) = true → K (SV.b ((BV.bool false))) []) ∧ ((!(decide ((↑(ByteArray.size (List.getD l x (Ty.zero ActT)).snd.snd.snd.snd.snd.snd.snd.snd.snd.snd.snd.fst) : Int) ≤ (100 : Int)) && decide ((↑(ByteArray.size (List.getD l x (Ty.zero ActT)).snd.snd.snd.snd.snd.snd.snd.snd.snd.snd.snd.snd) : Int) ≤ (100 : Int)))) = false → ∃ (y : Nat), (l = l ∧ wr ((↑x : Int) + (1 : Int)) = (↑y : Int) ∧ True) ∧ (y ≤ List.length l ∧ (List.all (List.take y l) fun (a : Ac) => shortC a.snd.snd.snd.snd.snd) = true) ∧ List.length l - y < List.length l - x)) ∧ ((decide ((↑x : Int) < (List.length l : Int)) && decide ((List.length l : Int) ≤ (80 : Int))) = false → K (SV.b ((BV.bool (decide ((List.length l : Int) ≤ (80 : Int)))))) []))
 = fnVC Try.prog (look L12) (N_light l) Try.f30 [.t (.one (.fsl 67 ActT l))] [] K := by kernel_rfl

theorem nf6 (l : List Int) (c t h : Int) (K : SV → List AObj → Prop) :
 ((false = true → K (SV.b ((BV.bool false))) []) ∧
 (false = false →
 ((!decide ((List.length l : Int) ≤ (150 : Int))) = true → K (SV.b ((BV.bool true))) []) ∧
 ((!decide ((List.length l : Int) ≤ (150 : Int))) = false →
 List.length l ≤ lenMax ∧
 List.length (histF l) ≤ 1000000 ∧
 ∀ (r : Int × Int × Q),
 r = foldF applyQ (histF l) 0 q0 →
 (r.snd.fst = (0 : Int) →
 (false = true → K (SV.b ((BV.bool false))) []) ∧
 (false = false →
 (0 : Int) < (8 : Int) ∧
 (8 : Int) ≤ (1099511627776 : Int) ∧
 (0 : Int) < (1073741825 : Int) ∧
 (1073741825 : Int) ≤ (1099511627776 : Int) ∧
 (0 : Int) < (1000 : Int) ∧
 (1000 : Int) ≤ (1099511627776 : Int) ∧
 (∃ (y : Nat), (wr ((1 : Int) + c % (8 : Int)) = wr ((1 : Int) + c % (8 : Int)) ∧ t % (1073741825 : Int) = t % (1073741825 : Int) ∧ wr ((1 : Int) + h % (1000 : Int)) = wr ((1 : Int) + h % (1000 : Int)) ∧ (1 : Int) = (↑y : Int) + (1 : Int) ∧ r.snd.snd.snd.snd = r.snd.snd.snd.snd ∧ r.snd.snd.fst = r.snd.snd.fst ∧ r.snd.snd.snd.fst = turnsL (foldF applyQ (histF l) 0 q0).snd.snd.fst ((1 : Int) + c % (8 : Int)) (t % (1073741825 : Int)) ((1 : Int) + h % (1000 : Int)) y 0 ∧ True) ∧ y ≤ 3) ∧
 ∀ (x : Nat),
 x ≤ 3 →
 (decide ((↑x : Int) + (1 : Int) ≤ (3 : Int)) = true →
 List.length r.snd.snd.fst ≤ lenMax ∧
 (∃ (y : Nat), (wr ((1 : Int) + c % (8 : Int)) = wr ((1 : Int) + c % (8 : Int)) ∧ t % (1073741825 : Int) = t % (1073741825 : Int) ∧ wr ((1 : Int) + h % (1000 : Int)) = wr ((1 : Int) + h % (1000 : Int)) ∧ (↑x : Int) + (1 : Int) = (↑x : Int) + (1 : Int) ∧ (↑(List.length r.snd.snd.fst) : Int) = (↑(List.length r.snd.snd.fst) : Int) ∧ (0 : Int) = (↑y : Int) ∧ r.snd.snd.snd.snd = r.snd.snd.snd.snd ∧ r.snd.snd.fst = r.snd.snd.fst ∧ r.snd.snd.fst = r.snd.snd.fst ∧ turnsL (foldF applyQ (histF l) 0 q0).snd.snd.fst ((1 : Int) + c % (8 : Int)) (t % (1073741825 : Int)) ((1 : Int) + h % (1000 : Int)) x 0 = turnsL (foldF applyQ (histF l) 0 q0).snd.snd.fst ((1 : Int) + c % (8 : Int)) (t % (1073741825 : Int)) ((1 : Int) + h % (1000 : Int)) (Int.toNat ((↑x : Int) + (1 : Int)) - 1) y ∧ True) ∧ y ≤ List.length (foldF applyQ (histF l) 0 q0).snd.snd.fst) ∧
 ∀ (x_1 : Nat),
 x_1 ≤ List.length (foldF applyQ (histF l) 0 q0).snd.snd.fst →
 (decide ((↑x_1 : Int) < (↑(List.length r.snd.snd.fst) : Int)) = true → ((0 : Int) ≤ (↑x_1 : Int) ∧ (↑x_1 : Int) < (↑(List.length r.snd.snd.fst) : Int)) ∧ x_1 < List.length r.snd.snd.fst ∧ List.length r.snd.snd.fst ≤ lenMax ∧ List.length (turnsL (foldF applyQ (histF l) 0 q0).snd.snd.fst ((1 : Int) + c % (8 : Int)) (t % (1073741825 : Int)) ((1 : Int) + h % (1000 : Int)) (Int.toNat ((↑x : Int) + (1 : Int)) - 1) x_1) ≤ lenMax ∧ ∀ (r_1 : (Tm × Le × Int) × Q), r_1 = takeQ (r.snd.snd.fst, turnsL (foldF applyQ (histF l) 0 q0).snd.snd.fst ((1 : Int) + c % (8 : Int)) (t % (1073741825 : Int)) ((1 : Int) + h % (1000 : Int)) (Int.toNat ((↑x : Int) + (1 : Int)) - 1) x_1, r.snd.snd.snd.snd) (wr ((1 : Int) + c % (8 : Int))) ((↑x : Int) + (1 : Int)) (t % (1073741825 : Int)) (wr ((1 : Int) + h % (1000 : Int))) → ((r_1.fst.snd.snd != (0 : Int) || !Ty.eqb Item (r_1.fst.fst.fst, r_1.fst.fst.snd) ((List.getD r.snd.snd.fst x_1 (Ty.zero Item)).fst, (List.getD r.snd.snd.fst x_1 (Ty.zero Item)).snd) || !Ty.eqb Lease (r_1.fst.snd.fst.fst, r_1.fst.snd.fst.snd.fst, r_1.fst.snd.fst.snd.snd.fst, r_1.fst.snd.fst.snd.snd.snd) (r_1.fst.fst.fst, wr ((1 : Int) + c % (8 : Int)), (↑x : Int) + (1 : Int), wr (t % (1073741825 : Int) + wr ((1 : Int) + h % (1000 : Int))))) = true → K (SV.b ((BV.bool false))) []) ∧ ((r_1.fst.snd.snd != (0 : Int) || !Ty.eqb Item (r_1.fst.fst.fst, r_1.fst.fst.snd) ((List.getD r.snd.snd.fst x_1 (Ty.zero Item)).fst, (List.getD r.snd.snd.fst x_1 (Ty.zero Item)).snd) || !Ty.eqb Lease (r_1.fst.snd.fst.fst, r_1.fst.snd.fst.snd.fst, r_1.fst.snd.fst.snd.snd.fst, r_1.fst.snd.fst.snd.snd.snd) (r_1.fst.fst.fst, wr ((1 : Int) + c % (8 : Int)), (↑x : Int) + (1 : Int), wr (t % (1073741825 : Int) + wr ((1 : Int) + h % (1000 : Int))))) = false → ∃ (y : Nat), (wr ((1 : Int) + c % (8 : Int)) = wr ((1 : Int) + c % (8 : Int)) ∧ t % (1073741825 : Int) = t % (1073741825 : Int) ∧ wr ((1 : Int) + h % (1000 : Int)) = wr ((1 : Int) + h % (1000 : Int)) ∧ (↑x : Int) + (1 : Int) = (↑x : Int) + (1 : Int) ∧ (↑(List.length r.snd.snd.fst) : Int) = (↑(List.length r.snd.snd.fst) : Int) ∧ wr ((↑x_1 : Int) + (1 : Int)) = (↑y : Int) ∧ r.snd.snd.snd.snd = r.snd.snd.snd.snd ∧ r.snd.snd.fst = r.snd.snd.fst ∧ r.snd.snd.fst = r.snd.snd.fst ∧ r_1.snd.snd.fst = turnsL (foldF applyQ (histF l) 0 q0).snd.snd.fst ((1 : Int) + c % (8 : Int)) (t % (1073741825 : Int)) ((1 : Int) + h % (1000 : Int)) (Int.toNat ((↑x : Int) + (1 : Int)) - 1) y ∧ True) ∧ y ≤ List.length (foldF applyQ (histF l) 0 q0).snd.snd.fst ∧ List.length (foldF applyQ (histF l) 0 q0).snd.snd.fst - y < List.length (foldF applyQ (histF l) 0 q0).snd.snd.fst - x_1)) ∧
 (decide ((↑x_1 : Int) < (↑(List.length r.snd.snd.fst) : Int)) = false → List.length r.snd.snd.fst ≤ lenMax ∧ List.length (turnsL (foldF applyQ (histF l) 0 q0).snd.snd.fst ((1 : Int) + c % (8 : Int)) (t % (1073741825 : Int)) ((1 : Int) + h % (1000 : Int)) (Int.toNat ((↑x : Int) + (1 : Int)) - 1) x_1) ≤ lenMax ∧ ∀ (r_1 : (Tm × Le × Int) × Q), r_1 = takeQ (r.snd.snd.fst, turnsL (foldF applyQ (histF l) 0 q0).snd.snd.fst ((1 : Int) + c % (8 : Int)) (t % (1073741825 : Int)) ((1 : Int) + h % (1000 : Int)) (Int.toNat ((↑x : Int) + (1 : Int)) - 1) x_1, r.snd.snd.snd.snd) (wr ((1 : Int) + c % (8 : Int))) ((↑x : Int) + (1 : Int)) (t % (1073741825 : Int)) (wr ((1 : Int) + h % (1000 : Int))) → ((r_1.fst.snd.snd != (34 : Int)) = true → K (SV.b ((BV.bool false))) []) ∧ ((r_1.fst.snd.snd != (34 : Int)) = false → ∃ (y : Nat), (wr ((1 : Int) + c % (8 : Int)) = wr ((1 : Int) + c % (8 : Int)) ∧ t % (1073741825 : Int) = t % (1073741825 : Int) ∧ wr ((1 : Int) + h % (1000 : Int)) = wr ((1 : Int) + h % (1000 : Int)) ∧ wr ((↑x : Int) + (1 : Int) + (1 : Int)) = (↑y : Int) + (1 : Int) ∧ r.snd.snd.snd.snd = r.snd.snd.snd.snd ∧ r.snd.snd.fst = r.snd.snd.fst ∧ r_1.snd.snd.fst = turnsL (foldF applyQ (histF l) 0 q0).snd.snd.fst ((1 : Int) + c % (8 : Int)) (t % (1073741825 : Int)) ((1 : Int) + h % (1000 : Int)) y 0 ∧ True) ∧ y ≤ 3 ∧ 3 - y < 3 - x))) ∧
 (decide ((↑x : Int) + (1 : Int) ≤ (3 : Int)) = false → List.length (turnsL (foldF applyQ (histF l) 0 q0).snd.snd.fst ((1 : Int) + c % (8 : Int)) (t % (1073741825 : Int)) ((1 : Int) + h % (1000 : Int)) x 0) ≤ lenMax ∧ (((↑(List.length (List.filter (liveL (3 : Int) (wr (t % (1073741825 : Int) + wr ((1 : Int) + h % (1000 : Int))))) (turnsL (foldF applyQ (histF l) 0 q0).snd.snd.fst ((1 : Int) + c % (8 : Int)) (t % (1073741825 : Int)) ((1 : Int) + h % (1000 : Int)) x 0))) : Int) == (0 : Int)) = true → List.length (turnsL (foldF applyQ (histF l) 0 q0).snd.snd.fst ((1 : Int) + c % (8 : Int)) (t % (1073741825 : Int)) ((1 : Int) + h % (1000 : Int)) x 0) ≤ lenMax ∧ List.length r.snd.snd.fst ≤ lenMax ∧ K (SV.b ((BV.bool ((↑(List.length (List.filter (liveL (3 : Int) (wr (wr (t % (1073741825 : Int) + wr ((1 : Int) + h % (1000 : Int))) - (1 : Int)))) (turnsL (foldF applyQ (histF l) 0 q0).snd.snd.fst ((1 : Int) + c % (8 : Int)) (t % (1073741825 : Int)) ((1 : Int) + h % (1000 : Int)) x 0))) : Int) == (↑(List.length r.snd.snd.fst) : Int))))) []) ∧ (((↑(List.length (List.filter (liveL (3 : Int) (wr (t % (1073741825 : Int) + wr ((1 : Int) + h % (1000 : Int))))) (turnsL (foldF applyQ (histF l) 0 q0).snd.snd.fst ((1 : Int) + c % (8 : Int)) (t % (1073741825 : Int)) ((1 : Int) + h % (1000 : Int)) x 0))) : Int) == (0 : Int)) = false → K (SV.b ((BV.bool false))) [])))) ∧
 (r.snd.fst ≠ (0 : Int) → ((bif r.snd.fst != (0 : Int) then true else true) = true → K (SV.b ((BV.bool false))) []) ∧ ((bif r.snd.fst != (0 : Int) then true else true) = false → (0 : Int) < (8 : Int) ∧ (8 : Int) ≤ (1099511627776 : Int) ∧ (0 : Int) < (1073741825 : Int) ∧ (1073741825 : Int) ≤ (1099511627776 : Int) ∧ (0 : Int) < (1000 : Int) ∧ (1000 : Int) ≤ (1099511627776 : Int) ∧ (∃ (y : Nat), (wr ((1 : Int) + c % (8 : Int)) = wr ((1 : Int) + c % (8 : Int)) ∧ t % (1073741825 : Int) = t % (1073741825 : Int) ∧ wr ((1 : Int) + h % (1000 : Int)) = wr ((1 : Int) + h % (1000 : Int)) ∧ (1 : Int) = (↑y : Int) + (1 : Int) ∧ True) ∧ y ≤ 3) ∧ ∀ (x : Nat), x ≤ 3 → (decide ((↑x : Int) + (1 : Int) ≤ (3 : Int)) = true → False) ∧ (decide ((↑x : Int) + (1 : Int) ≤ (3 : Int)) = false → False))))))
 = fnVC Try.prog (look L13) (N6 (foldF applyQ (histF l) 0 q0).2.2.1 (1 + c % 8) (t % 1073741825) (1 + h % 1000)) Try.f6 [fi l, iv c, iv t, iv h] [] K := by kernel_rfl

theorem nf7 (l turns : List Int) (t : Int) (K : SV → List AObj → Prop) :
 ((false = true → K (SV.b ((BV.bool false))) []) ∧
 (false = false →
 ((!decide ((List.length l : Int) ≤ (150 : Int))) = true → K (SV.b ((BV.bool true))) []) ∧
 ((!decide ((List.length l : Int) ≤ (150 : Int))) = false →
 ((!decide ((List.length turns : Int) ≤ (150 : Int))) = true → K (SV.b ((BV.bool true))) []) ∧
 ((!decide ((List.length turns : Int) ≤ (150 : Int))) = false →
 List.length l ≤ lenMax ∧
 List.length (histF l) ≤ 1000000 ∧
 ∀ (r : Int × Int × Q),
 r = foldF applyQ (histF l) 0 q0 →
 (r.snd.fst = (0 : Int) →
 (false = true → K (SV.b ((BV.bool false))) []) ∧
 (false = false →
 (∃ (y : Nat × List Le), (t = t ∧ r.snd.snd.snd.snd = r.snd.snd.snd.snd ∧ turns = turns ∧ (0 : Int) = Int.ofNat y.fst ∧ r.snd.snd.fst = r.snd.snd.fst ∧ r.snd.snd.snd.fst = y.snd ∧ True) ∧ y.fst ≤ List.length turns ∧ List.length y.snd ≤ y.fst ∧ LI (foldF applyQ (histF l) 0 q0).snd.snd.fst y.snd) ∧
 ∀ (x : Nat × List Le),
 x.fst ≤ List.length turns ∧ List.length x.snd ≤ x.fst ∧ LI (foldF applyQ (histF l) 0 q0).snd.snd.fst x.snd →
 (decide (Int.ofNat x.fst < (List.length turns : Int)) = true → (-1099511627 : Int) ≤ (1 : Int) ∧ (1 : Int) ≤ (4 : Int) ∧ (4 : Int) ≤ (1099511627 : Int) ∧ List.length turns ≤ lenMax ∧ (-1099511627 : Int) ≤ (1 : Int) ∧ (1 : Int) ≤ (2 : Int) ∧ (2 : Int) ≤ (1099511627 : Int) ∧ List.length turns ≤ lenMax ∧ (0 : Int) < (60 : Int) ∧ (60 : Int) ≤ (1099511627776 : Int) ∧ List.length turns ≤ lenMax ∧ (-1099511627 : Int) ≤ (1 : Int) ∧ (1 : Int) ≤ (30 : Int) ∧ (30 : Int) ≤ (1099511627 : Int) ∧ List.length turns ≤ lenMax ∧ List.length r.snd.snd.fst ≤ lenMax ∧ List.length x.snd ≤ lenMax ∧ ∀ (r_1 : (Tm × Le × Int) × Q), r_1 = takeQ (r.snd.snd.fst, x.snd, r.snd.snd.snd.snd) ((1 : Int) + nextV turns x.fst (4 : Int)) ((1 : Int) + nextV turns (nextK turns x.fst) (2 : Int)) (nextV turns (nextK turns (nextK turns x.fst)) (60 : Int)) ((1 : Int) + nextV turns (nextK turns (nextK turns (nextK turns x.fst))) (30 : Int)) → ∃ (y : Nat × List Le), (t = t ∧ r.snd.snd.snd.snd = r.snd.snd.snd.snd ∧ turns = turns ∧ Int.ofNat (nextK turns (nextK turns (nextK turns (nextK turns x.fst)))) = Int.ofNat y.fst ∧ r.snd.snd.fst = r.snd.snd.fst ∧ r_1.snd.snd.fst = y.snd ∧ True) ∧ (y.fst ≤ List.length turns ∧ List.length y.snd ≤ y.fst ∧ LI (foldF applyQ (histF l) 0 q0).snd.snd.fst y.snd) ∧ List.length turns - y.fst < List.length turns - x.fst) ∧
 (decide (Int.ofNat x.fst < (List.length turns : Int)) = false →
 (∃ (y : Nat), (t = t ∧ (1 : Int) = (↑y : Int) + (1 : Int) ∧ r.snd.snd.snd.snd = r.snd.snd.snd.snd ∧ r.snd.snd.fst = r.snd.snd.fst ∧ x.snd = x.snd ∧ True) ∧ y ≤ 2) ∧
 ∀ (x_1 : Nat),
 x_1 ≤ 2 →
 (decide ((↑x_1 : Int) + (1 : Int) ≤ (2 : Int)) = true →
 List.length x.snd ≤ lenMax ∧
 (∃ (y : Nat), (t = t ∧ (↑x_1 : Int) + (1 : Int) = (↑x_1 : Int) + (1 : Int) ∧ (↑(List.length (List.filter (liveL ((↑x_1 : Int) + (1 : Int)) t) x.snd)) : Int) = (↑(List.length (List.filter (liveL ((↑x_1 : Int) + (1 : Int)) t) x.snd)) : Int) ∧ (0 : Int) = (↑y : Int) ∧ r.snd.snd.snd.snd = r.snd.snd.snd.snd ∧ List.filter (liveL ((↑x_1 : Int) + (1 : Int)) t) x.snd = List.filter (liveL ((↑x_1 : Int) + (1 : Int)) t) x.snd ∧ r.snd.snd.fst = r.snd.snd.fst ∧ x.snd = x.snd ∧ True) ∧ y ≤ List.length (List.filter (liveL ((↑x_1 : Int) + (1 : Int)) t) x.snd)) ∧
 ∀ (x_2 : Nat),
 x_2 ≤ List.length (List.filter (liveL ((↑x_1 : Int) + (1 : Int)) t) x.snd) →
 (decide ((↑x_2 : Int) < (↑(List.length (List.filter (liveL ((↑x_1 : Int) + (1 : Int)) t) x.snd)) : Int)) = true →
 ((0 : Int) ≤ (↑x_2 : Int) ∧ (↑x_2 : Int) < (↑(List.length (List.filter (liveL ((↑x_1 : Int) + (1 : Int)) t) x.snd)) : Int)) ∧
 x_2 < List.length (List.filter (liveL ((↑x_1 : Int) + (1 : Int)) t) x.snd) ∧
 (∃ (y : Nat × Nat), (t = t ∧ (↑x_1 : Int) + (1 : Int) = (↑x_1 : Int) + (1 : Int) ∧ (↑x_2 : Int) = (↑x_2 : Int) ∧ (0 : Int) = (↑y.snd : Int) ∧ (1 : Int) = (↑y.fst : Int) + (1 : Int) ∧ (↑(List.length (List.filter (liveL ((↑x_1 : Int) + (1 : Int)) t) x.snd)) : Int) = (↑(List.length (List.filter (liveL ((↑x_1 : Int) + (1 : Int)) t) x.snd)) : Int) ∧ (↑x_2 : Int) = (↑x_2 : Int) ∧ r.snd.snd.snd.snd = r.snd.snd.snd.snd ∧ List.filter (liveL ((↑x_1 : Int) + (1 : Int)) t) x.snd = List.filter (liveL ((↑x_1 : Int) + (1 : Int)) t) x.snd ∧ (List.getD (List.filter (liveL ((↑x_1 : Int) + (1 : Int)) t) x.snd) x_2 (Ty.zero Lease)).fst = (List.getD (List.filter (liveL ((↑x_1 : Int) + (1 : Int)) t) x.snd) x_2 (Ty.zero Lease)).fst ∧ (List.getD (List.filter (liveL ((↑x_1 : Int) + (1 : Int)) t) x.snd) x_2 (Ty.zero Lease)).snd.fst = (List.getD (List.filter (liveL ((↑x_1 : Int) + (1 : Int)) t) x.snd) x_2 (Ty.zero Lease)).snd.fst ∧ (List.getD (List.filter (liveL ((↑x_1 : Int) + (1 : Int)) t) x.snd) x_2 (Ty.zero Lease)).snd.snd.fst = (List.getD (List.filter (liveL ((↑x_1 : Int) + (1 : Int)) t) x.snd) x_2 (Ty.zero Lease)).snd.snd.fst ∧ (List.getD (List.filter (liveL ((↑x_1 : Int) + (1 : Int)) t) x.snd) x_2 (Ty.zero Lease)).snd.snd.snd = (List.getD (List.filter (liveL ((↑x_1 : Int) + (1 : Int)) t) x.snd) x_2 (Ty.zero Lease)).snd.snd.snd ∧ r.snd.snd.fst = r.snd.snd.fst ∧ x.snd = x.snd ∧ True) ∧ y.fst ≤ 8 ∧ y.snd = List.length (List.filter (fun (j : Nat) => holdsQ x.snd ((↑j : Int) + (1 : Int)) ((↑x_1 : Int) + (1 : Int)) (List.getD (List.filter (liveL ((↑x_1 : Int) + (1 : Int)) t) x.snd) x_2 (Ty.zero Lease)).fst t) (List.range y.fst))) ∧
 ∀ (x_3 : Nat × Nat),
 x_3.fst ≤ 8 ∧ x_3.snd = List.length (List.filter (fun (j : Nat) => holdsQ x.snd ((↑j : Int) + (1 : Int)) ((↑x_1 : Int) + (1 : Int)) (List.getD (List.filter (liveL ((↑x_1 : Int) + (1 : Int)) t) x.snd) x_2 (Ty.zero Lease)).fst t) (List.range x_3.fst)) →
 (decide ((↑x_3.fst : Int) + (1 : Int) ≤ (8 : Int)) = true →
 List.length x.snd ≤ lenMax ∧ (holdsQ x.snd ((↑x_3.fst : Int) + (1 : Int)) ((↑x_1 : Int) + (1 : Int)) (List.getD (List.filter (liveL ((↑x_1 : Int) + (1 : Int)) t) x.snd) x_2 (Ty.zero Lease)).fst t = true → ∃ (y : Nat × Nat), (t = t ∧ (↑x_1 : Int) + (1 : Int) = (↑x_1 : Int) + (1 : Int) ∧ (↑x_2 : Int) = (↑x_2 : Int) ∧ wr ((↑x_3.snd : Int) + (1 : Int)) = (↑y.snd : Int) ∧ wr ((↑x_3.fst : Int) + (1 : Int) + (1 : Int)) = (↑y.fst : Int) + (1 : Int) ∧ (↑(List.length (List.filter (liveL ((↑x_1 : Int) + (1 : Int)) t) x.snd)) : Int) = (↑(List.length (List.filter (liveL ((↑x_1 : Int) + (1 : Int)) t) x.snd)) : Int) ∧ (↑x_2 : Int) = (↑x_2 : Int) ∧ r.snd.snd.snd.snd = r.snd.snd.snd.snd ∧ List.filter (liveL ((↑x_1 : Int) + (1 : Int)) t) x.snd = List.filter (liveL ((↑x_1 : Int) + (1 : Int)) t) x.snd ∧ (List.getD (List.filter (liveL ((↑x_1 : Int) + (1 : Int)) t) x.snd) x_2 (Ty.zero Lease)).fst = (List.getD (List.filter (liveL ((↑x_1 : Int) + (1 : Int)) t) x.snd) x_2 (Ty.zero Lease)).fst ∧ (List.getD (List.filter (liveL ((↑x_1 : Int) + (1 : Int)) t) x.snd) x_2 (Ty.zero Lease)).snd.fst = (List.getD (List.filter (liveL ((↑x_1 : Int) + (1 : Int)) t) x.snd) x_2 (Ty.zero Lease)).snd.fst ∧ (List.getD (List.filter (liveL ((↑x_1 : Int) + (1 : Int)) t) x.snd) x_2 (Ty.zero Lease)).snd.snd.fst = (List.getD (List.filter (liveL ((↑x_1 : Int) + (1 : Int)) t) x.snd) x_2 (Ty.zero Lease)).snd.snd.fst ∧ (List.getD (List.filter (liveL ((↑x_1 : Int) + (1 : Int)) t) x.snd) x_2 (Ty.zero Lease)).snd.snd.snd = (List.getD (List.filter (liveL ((↑x_1 : Int) + (1 : Int)) t) x.snd) x_2 (Ty.zero Lease)).snd.snd.snd ∧ r.snd.snd.fst = r.snd.snd.fst ∧ x.snd = x.snd ∧ True) ∧ (y.fst ≤ 8 ∧ y.snd = List.length (List.filter (fun (j : Nat) => holdsQ x.snd ((↑j : Int) + (1 : Int)) ((↑x_1 : Int) + (1 : Int)) (List.getD (List.filter (liveL ((↑x_1 : Int) + (1 : Int)) t) x.snd) x_2 (Ty.zero Lease)).fst t) (List.range y.fst))) ∧ 8 - y.fst < 8 - x_3.fst) ∧ (holdsQ x.snd ((↑x_3.fst : Int) + (1 : Int)) ((↑x_1 : Int) + (1 : Int)) (List.getD (List.filter (liveL ((↑x_1 : Int) + (1 : Int)) t) x.snd) x_2 (Ty.zero Lease)).fst t = false → ∃ (y : Nat × Nat), (t = t ∧ (↑x_1 : Int) + (1 : Int) = (↑x_1 : Int) + (1 : Int) ∧ (↑x_2 : Int) = (↑x_2 : Int) ∧ (↑x_3.snd : Int) = (↑y.snd : Int) ∧ wr ((↑x_3.fst : Int) + (1 : Int) + (1 : Int)) = (↑y.fst : Int) + (1 : Int) ∧ (↑(List.length (List.filter (liveL ((↑x_1 : Int) + (1 : Int)) t) x.snd)) : Int) = (↑(List.length (List.filter (liveL ((↑x_1 : Int) + (1 : Int)) t) x.snd)) : Int) ∧ (↑x_2 : Int) = (↑x_2 : Int) ∧ r.snd.snd.snd.snd = r.snd.snd.snd.snd ∧ List.filter (liveL ((↑x_1 : Int) + (1 : Int)) t) x.snd = List.filter (liveL ((↑x_1 : Int) + (1 : Int)) t) x.snd ∧ (List.getD (List.filter (liveL ((↑x_1 : Int) + (1 : Int)) t) x.snd) x_2 (Ty.zero Lease)).fst = (List.getD (List.filter (liveL ((↑x_1 : Int) + (1 : Int)) t) x.snd) x_2 (Ty.zero Lease)).fst ∧ (List.getD (List.filter (liveL ((↑x_1 : Int) + (1 : Int)) t) x.snd) x_2 (Ty.zero Lease)).snd.fst = (List.getD (List.filter (liveL ((↑x_1 : Int) + (1 : Int)) t) x.snd) x_2 (Ty.zero Lease)).snd.fst ∧ (List.getD (List.filter (liveL ((↑x_1 : Int) + (1 : Int)) t) x.snd) x_2 (Ty.zero Lease)).snd.snd.fst = (List.getD (List.filter (liveL ((↑x_1 : Int) + (1 : Int)) t) x.snd) x_2 (Ty.zero Lease)).snd.snd.fst ∧ (List.getD (List.filter (liveL ((↑x_1 : Int) + (1 : Int)) t) x.snd) x_2 (Ty.zero Lease)).snd.snd.snd = (List.getD (List.filter (liveL ((↑x_1 : Int) + (1 : Int)) t) x.snd) x_2 (Ty.zero Lease)).snd.snd.snd ∧ r.snd.snd.fst = r.snd.snd.fst ∧ x.snd = x.snd ∧ True) ∧ (y.fst ≤ 8 ∧ y.snd = List.length (List.filter (fun (j : Nat) => holdsQ x.snd ((↑j : Int) + (1 : Int)) ((↑x_1 : Int) + (1 : Int)) (List.getD (List.filter (liveL ((↑x_1 : Int) + (1 : Int)) t) x.snd) x_2 (Ty.zero Lease)).fst t) (List.range y.fst))) ∧ 8 - y.fst < 8 - x_3.fst)) ∧
 (decide ((↑x_3.fst : Int) + (1 : Int) ≤ (8 : Int)) = false →
 List.length r.snd.snd.fst ≤ lenMax ∧
 (∃ (y : Nat × Bool), (t = t ∧ (↑x_1 : Int) + (1 : Int) = (↑x_1 : Int) + (1 : Int) ∧ (↑x_2 : Int) = (↑x_2 : Int) ∧ (↑x_3.snd : Int) = (↑x_3.snd : Int) ∧ false = y.snd ∧ (↑(List.length (List.filter (liveL ((↑x_1 : Int) + (1 : Int)) t) x.snd)) : Int) = (↑(List.length (List.filter (liveL ((↑x_1 : Int) + (1 : Int)) t) x.snd)) : Int) ∧ (↑x_2 : Int) = (↑x_2 : Int) ∧ (↑(List.length r.snd.snd.fst) : Int) = (↑(List.length r.snd.snd.fst) : Int) ∧ (0 : Int) = (↑y.fst : Int) ∧ r.snd.snd.snd.snd = r.snd.snd.snd.snd ∧ List.filter (liveL ((↑x_1 : Int) + (1 : Int)) t) x.snd = List.filter (liveL ((↑x_1 : Int) + (1 : Int)) t) x.snd ∧ (List.getD (List.filter (liveL ((↑x_1 : Int) + (1 : Int)) t) x.snd) x_2 (Ty.zero Lease)).fst = (List.getD (List.filter (liveL ((↑x_1 : Int) + (1 : Int)) t) x.snd) x_2 (Ty.zero Lease)).fst ∧ (List.getD (List.filter (liveL ((↑x_1 : Int) + (1 : Int)) t) x.snd) x_2 (Ty.zero Lease)).snd.fst = (List.getD (List.filter (liveL ((↑x_1 : Int) + (1 : Int)) t) x.snd) x_2 (Ty.zero Lease)).snd.fst ∧ (List.getD (List.filter (liveL ((↑x_1 : Int) + (1 : Int)) t) x.snd) x_2 (Ty.zero Lease)).snd.snd.fst = (List.getD (List.filter (liveL ((↑x_1 : Int) + (1 : Int)) t) x.snd) x_2 (Ty.zero Lease)).snd.snd.fst ∧ (List.getD (List.filter (liveL ((↑x_1 : Int) + (1 : Int)) t) x.snd) x_2 (Ty.zero Lease)).snd.snd.snd = (List.getD (List.filter (liveL ((↑x_1 : Int) + (1 : Int)) t) x.snd) x_2 (Ty.zero Lease)).snd.snd.snd ∧ r.snd.snd.fst = r.snd.snd.fst ∧ r.snd.snd.fst = r.snd.snd.fst ∧ x.snd = x.snd ∧ True) ∧ y.fst ≤ List.length r.snd.snd.fst ∧ y.snd = List.any (List.take y.fst r.snd.snd.fst) fun (y : Ty.D Item) => y.fst == (List.getD (List.filter (liveL ((↑x_1 : Int) + (1 : Int)) t) x.snd) x_2 (Ty.zero Lease)).fst) ∧
 ∀ (x_4 : Nat × Bool),
 (x_4.fst ≤ List.length r.snd.snd.fst ∧ x_4.snd = List.any (List.take x_4.fst r.snd.snd.fst) fun (y : Ty.D Item) => y.fst == (List.getD (List.filter (liveL ((↑x_1 : Int) + (1 : Int)) t) x.snd) x_2 (Ty.zero Lease)).fst) →
 (decide ((↑x_4.fst : Int) < (↑(List.length r.snd.snd.fst) : Int)) = true → ((0 : Int) ≤ (↑x_4.fst : Int) ∧ (↑x_4.fst : Int) < (↑(List.length r.snd.snd.fst) : Int)) ∧ x_4.fst < List.length r.snd.snd.fst ∧ ∃ (y : Nat × Bool), (t = t ∧ (↑x_1 : Int) + (1 : Int) = (↑x_1 : Int) + (1 : Int) ∧ (↑x_2 : Int) = (↑x_2 : Int) ∧ (↑x_3.snd : Int) = (↑x_3.snd : Int) ∧ (x_4.snd || (List.getD r.snd.snd.fst x_4.fst (Ty.zero Item)).fst == (List.getD (List.filter (liveL ((↑x_1 : Int) + (1 : Int)) t) x.snd) x_2 (Ty.zero Lease)).fst) = y.snd ∧ (↑(List.length (List.filter (liveL ((↑x_1 : Int) + (1 : Int)) t) x.snd)) : Int) = (↑(List.length (List.filter (liveL ((↑x_1 : Int) + (1 : Int)) t) x.snd)) : Int) ∧ (↑x_2 : Int) = (↑x_2 : Int) ∧ (↑(List.length r.snd.snd.fst) : Int) = (↑(List.length r.snd.snd.fst) : Int) ∧ wr ((↑x_4.fst : Int) + (1 : Int)) = (↑y.fst : Int) ∧ r.snd.snd.snd.snd = r.snd.snd.snd.snd ∧ List.filter (liveL ((↑x_1 : Int) + (1 : Int)) t) x.snd = List.filter (liveL ((↑x_1 : Int) + (1 : Int)) t) x.snd ∧ (List.getD (List.filter (liveL ((↑x_1 : Int) + (1 : Int)) t) x.snd) x_2 (Ty.zero Lease)).fst = (List.getD (List.filter (liveL ((↑x_1 : Int) + (1 : Int)) t) x.snd) x_2 (Ty.zero Lease)).fst ∧ (List.getD (List.filter (liveL ((↑x_1 : Int) + (1 : Int)) t) x.snd) x_2 (Ty.zero Lease)).snd.fst = (List.getD (List.filter (liveL ((↑x_1 : Int) + (1 : Int)) t) x.snd) x_2 (Ty.zero Lease)).snd.fst ∧ (List.getD (List.filter (liveL ((↑x_1 : Int) + (1 : Int)) t) x.snd) x_2 (Ty.zero Lease)).snd.snd.fst = (List.getD (List.filter (liveL ((↑x_1 : Int) + (1 : Int)) t) x.snd) x_2 (Ty.zero Lease)).snd.snd.fst ∧ (List.getD (List.filter (liveL ((↑x_1 : Int) + (1 : Int)) t) x.snd) x_2 (Ty.zero Lease)).snd.snd.snd = (List.getD (List.filter (liveL ((↑x_1 : Int) + (1 : Int)) t) x.snd) x_2 (Ty.zero Lease)).snd.snd.snd ∧ r.snd.snd.fst = r.snd.snd.fst ∧ r.snd.snd.fst = r.snd.snd.fst ∧ x.snd = x.snd ∧ True) ∧ (y.fst ≤ List.length r.snd.snd.fst ∧ y.snd = List.any (List.take y.fst r.snd.snd.fst) fun (y : Ty.D Item) => y.fst == (List.getD (List.filter (liveL ((↑x_1 : Int) + (1 : Int)) t) x.snd) x_2 (Ty.zero Lease)).fst) ∧ 1000000 - y.fst < 1000000 - x_4.fst) ∧
 (decide ((↑x_4.fst : Int) < (↑(List.length r.snd.snd.fst) : Int)) = false → ((sgnB true (decide ((↑x_2 : Int) > (0 : Int))) && sgnB false ((↑x_3.snd : Int) != (1 : Int) || !x_4.snd)) = true → (0 : Int) ≤ wr ((↑x_2 : Int) - (1 : Int)) ∧ wr ((↑x_2 : Int) - (1 : Int)) < (↑(List.length (List.filter (liveL ((↑x_1 : Int) + (1 : Int)) t) x.snd)) : Int)) ∧ ((sgnB true (decide ((↑x_2 : Int) > (0 : Int))) && sgnB false ((↑x_3.snd : Int) != (1 : Int) || !x_4.snd)) = true → Nat.le (Nat.succ (Int.toNat (wr ((↑x_2 : Int) - (1 : Int))))) (List.length (List.filter (liveL ((↑x_1 : Int) + (1 : Int)) t) x.snd))) ∧ (((↑x_3.snd : Int) != (1 : Int) || !x_4.snd || decide ((↑x_2 : Int) > (0 : Int)) && decide ((List.getD (List.filter (liveL ((↑x_1 : Int) + (1 : Int)) t) x.snd) (Int.toNat (wr ((↑x_2 : Int) - (1 : Int)))) (Ty.zero Lease)).fst ≥ (List.getD (List.filter (liveL ((↑x_1 : Int) + (1 : Int)) t) x.snd) x_2 (Ty.zero Lease)).fst) || decide ((List.getD (List.filter (liveL ((↑x_1 : Int) + (1 : Int)) t) x.snd) x_2 (Ty.zero Lease)).snd.snd.snd ≤ t) || (List.getD (List.filter (liveL ((↑x_1 : Int) + (1 : Int)) t) x.snd) x_2 (Ty.zero Lease)).snd.snd.fst != (↑x_1 : Int) + (1 : Int)) = true → K (SV.b ((BV.bool false))) []) ∧ (((↑x_3.snd : Int) != (1 : Int) || !x_4.snd || decide ((↑x_2 : Int) > (0 : Int)) && decide ((List.getD (List.filter (liveL ((↑x_1 : Int) + (1 : Int)) t) x.snd) (Int.toNat (wr ((↑x_2 : Int) - (1 : Int)))) (Ty.zero Lease)).fst ≥ (List.getD (List.filter (liveL ((↑x_1 : Int) + (1 : Int)) t) x.snd) x_2 (Ty.zero Lease)).fst) || decide ((List.getD (List.filter (liveL ((↑x_1 : Int) + (1 : Int)) t) x.snd) x_2 (Ty.zero Lease)).snd.snd.snd ≤ t) || (List.getD (List.filter (liveL ((↑x_1 : Int) + (1 : Int)) t) x.snd) x_2 (Ty.zero Lease)).snd.snd.fst != (↑x_1 : Int) + (1 : Int)) = false → ∃ (y : Nat), (t = t ∧ (↑x_1 : Int) + (1 : Int) = (↑x_1 : Int) + (1 : Int) ∧ (↑(List.length (List.filter (liveL ((↑x_1 : Int) + (1 : Int)) t) x.snd)) : Int) = (↑(List.length (List.filter (liveL ((↑x_1 : Int) + (1 : Int)) t) x.snd)) : Int) ∧ wr ((↑x_2 : Int) + (1 : Int)) = (↑y : Int) ∧ r.snd.snd.snd.snd = r.snd.snd.snd.snd ∧ List.filter (liveL ((↑x_1 : Int) + (1 : Int)) t) x.snd = List.filter (liveL ((↑x_1 : Int) + (1 : Int)) t) x.snd ∧ r.snd.snd.fst = r.snd.snd.fst ∧ x.snd = x.snd ∧ True) ∧ y ≤ List.length (List.filter (liveL ((↑x_1 : Int) + (1 : Int)) t) x.snd) ∧ 1000000 - y < 1000000 - x_2)))) ∧
 (decide ((↑x_2 : Int) < (↑(List.length (List.filter (liveL ((↑x_1 : Int) + (1 : Int)) t) x.snd)) : Int)) = false → ∃ (y : Nat), (t = t ∧ wr ((↑x_1 : Int) + (1 : Int) + (1 : Int)) = (↑y : Int) + (1 : Int) ∧ r.snd.snd.snd.snd = r.snd.snd.snd.snd ∧ r.snd.snd.fst = r.snd.snd.fst ∧ x.snd = x.snd ∧ True) ∧ y ≤ 2 ∧ 2 - y < 2 - x_1)) ∧
 (decide ((↑x_1 : Int) + (1 : Int) ≤ (2 : Int)) = false → K (SV.b ((BV.bool true))) [])))) ∧
 (r.snd.fst ≠ (0 : Int) → ((bif r.snd.fst != (0 : Int) then true else true) = true → K (SV.b ((BV.bool false))) []) ∧ ((bif r.snd.fst != (0 : Int) then true else true) = false → (∃ (y : Nat × List Le), (t = t ∧ turns = turns ∧ (0 : Int) = (0 : Int) ∧ True) ∧ y.fst ≤ List.length turns ∧ List.length y.snd ≤ y.fst ∧ LI (foldF applyQ (histF l) 0 q0).snd.snd.fst y.snd) ∧ ∀ (x : Nat × List Le), x.fst ≤ List.length turns ∧ List.length x.snd ≤ x.fst ∧ LI (foldF applyQ (histF l) 0 q0).snd.snd.fst x.snd → (decide ((0 : Int) < (List.length turns : Int)) = true → (-1099511627 : Int) ≤ (1 : Int) ∧ (1 : Int) ≤ (4 : Int) ∧ (4 : Int) ≤ (1099511627 : Int) ∧ List.length turns ≤ lenMax ∧ (-1099511627 : Int) ≤ (1 : Int) ∧ (1 : Int) ≤ (2 : Int) ∧ (2 : Int) ≤ (1099511627 : Int) ∧ List.length turns ≤ lenMax ∧ (0 : Int) < (60 : Int) ∧ (60 : Int) ≤ (1099511627776 : Int) ∧ List.length turns ≤ lenMax ∧ (-1099511627 : Int) ≤ (1 : Int) ∧ (1 : Int) ≤ (30 : Int) ∧ (30 : Int) ≤ (1099511627 : Int) ∧ List.length turns ≤ lenMax ∧ False) ∧ (decide ((0 : Int) < (List.length turns : Int)) = false → (∃ (y : Nat), (t = t ∧ (1 : Int) = (↑y : Int) + (1 : Int) ∧ True) ∧ y ≤ 2) ∧ ∀ (x : Nat), x ≤ 2 → (decide ((↑x : Int) + (1 : Int) ≤ (2 : Int)) = true → False) ∧ (decide ((↑x : Int) + (1 : Int) ≤ (2 : Int)) = false → K (SV.b ((BV.bool true))) []))))))))
 = fnVC Try.prog (look L13) (N7 (foldF applyQ (histF l) 0 q0).2.2.1 turns) Try.f7 [fi l, fi turns, iv t] [] K := by kernel_rfl

theorem nf9 (l m : List Int) (x : Ch) (turns : List Int) (K : SV → List AObj → Prop) :
 ((false = true → K (SV.b ((BV.bool false))) []) ∧
 (false = false →
 ((!decide ((List.length l : Int) ≤ (150 : Int))) = true → K (SV.b ((BV.bool true))) []) ∧
 ((!decide ((List.length l : Int) ≤ (150 : Int))) = false →
 ((!decide ((List.length m : Int) ≤ (150 : Int))) = true → K (SV.b ((BV.bool true))) []) ∧
 ((!decide ((List.length m : Int) ≤ (150 : Int))) = false →
 ((!decide ((List.length turns : Int) ≤ (150 : Int))) = true → K (SV.b ((BV.bool true))) []) ∧
 ((!decide ((List.length turns : Int) ≤ (150 : Int))) = false →
 ((!(decide ((↑(ByteArray.size x.snd.snd.snd.snd.snd.snd.fst) : Int) ≤ (100 : Int)) && decide ((↑(ByteArray.size x.snd.snd.snd.snd.snd.snd.snd) : Int) ≤ (100 : Int)))) = true → K (SV.b ((BV.bool true))) []) ∧
 ((!(decide ((↑(ByteArray.size x.snd.snd.snd.snd.snd.snd.fst) : Int) ≤ (100 : Int)) && decide ((↑(ByteArray.size x.snd.snd.snd.snd.snd.snd.snd) : Int) ≤ (100 : Int)))) = false →
 List.length l ≤ lenMax ∧
 List.length (histF l) ≤ 1000000 ∧
 ∀ (r : Int × Int × Q),
 r = foldF applyQ (histF l) 0 q0 →
 (r.snd.fst = (0 : Int) →
 List.length m ≤ lenMax ∧
 List.length (histF m) ≤ 1000000 ∧
 ∀ (r_1 : Int × Int × Q),
 r_1 = foldF applyQ (histF m) 0 q0 →
 (r_1.snd.fst = (0 : Int) →
 List.length l ≤ lenMax ∧
 List.length (histF l) ≤ 1000000 ∧
 ∀ (r_2 : Int × Int × Q),
 r_2 = foldF applyR (histF l) 0 q0 →
 (r_2.snd.fst = (0 : Int) →
 List.length m ≤ lenMax ∧
 List.length (histF m) ≤ 1000000 ∧
 ∀ (r_3 : Int × Int × Q),
 r_3 = foldF applyR (histF m) 0 q0 →
 (r_3.snd.fst = (0 : Int) →
 List.length r.snd.snd.fst ≤ lenMax ∧
 List.length r_2.snd.snd.fst ≤ lenMax ∧
 ((!(r.snd.snd.snd.snd == r_1.snd.snd.snd.snd && decide (r.snd.snd.fst = r_1.snd.snd.fst)) == (decide (r_2.snd.snd.fst = r_3.snd.snd.fst) && r_2.snd.snd.snd.snd == r_3.snd.snd.snd.snd)) = true → K (SV.b ((BV.bool false))) []) ∧
 ((!(r.snd.snd.snd.snd == r_1.snd.snd.snd.snd && decide (r.snd.snd.fst = r_1.snd.snd.fst)) == (decide (r_2.snd.snd.fst = r_3.snd.snd.fst) && r_2.snd.snd.snd.snd == r_3.snd.snd.snd.snd)) = false →
 List.length r.snd.snd.fst ≤ lenMax ∧
 List.length r.snd.snd.snd.fst ≤ lenMax ∧
 (∃ (y : Nat × List Le), (x.fst = x.fst ∧ x.snd.fst = x.snd.fst ∧ x.snd.snd.fst = x.snd.snd.fst ∧ x.snd.snd.snd.fst = x.snd.snd.snd.fst ∧ x.snd.snd.snd.snd.fst = x.snd.snd.snd.snd.fst ∧ x.snd.snd.snd.snd.snd.fst = x.snd.snd.snd.snd.snd.fst ∧ x.snd.snd.snd.snd.snd.snd.fst = x.snd.snd.snd.snd.snd.snd.fst ∧ x.snd.snd.snd.snd.snd.snd.snd = x.snd.snd.snd.snd.snd.snd.snd ∧ r.snd.snd.snd.snd = r.snd.snd.snd.snd ∧ r_2.snd.snd.fst = r_2.snd.snd.fst ∧ r_2.snd.snd.snd.fst = r_2.snd.snd.snd.fst ∧ r_2.snd.snd.snd.snd = r_2.snd.snd.snd.snd ∧ r.snd.snd.snd.snd = r.snd.snd.snd.snd ∧ turns = turns ∧ (0 : Int) = Int.ofNat y.fst ∧ r.snd.snd.fst = r.snd.snd.fst ∧ r.snd.snd.snd.fst = y.snd ∧ r.snd.snd.fst = r.snd.snd.fst ∧ r.snd.snd.snd.fst = r.snd.snd.snd.fst ∧ True) ∧ y.fst ≤ List.length turns ∧ List.length y.snd ≤ y.fst) ∧
 ∀ (x_1 : Nat × List Le),
 x_1.fst ≤ List.length turns ∧ List.length x_1.snd ≤ x_1.fst →
 (decide (Int.ofNat x_1.fst < (List.length turns : Int)) = true → (-1099511627 : Int) ≤ (1 : Int) ∧ (1 : Int) ≤ (4 : Int) ∧ (4 : Int) ≤ (1099511627 : Int) ∧ List.length turns ≤ lenMax ∧ (0 : Int) < (60 : Int) ∧ (60 : Int) ≤ (1099511627776 : Int) ∧ List.length turns ≤ lenMax ∧ (-1099511627 : Int) ≤ (1 : Int) ∧ (1 : Int) ≤ (30 : Int) ∧ (30 : Int) ≤ (1099511627 : Int) ∧ List.length turns ≤ lenMax ∧ List.length r.snd.snd.fst ≤ lenMax ∧ List.length x_1.snd ≤ lenMax ∧ ∀ (r_4 : (Tm × Le × Int) × Q), r_4 = takeQ (r.snd.snd.fst, x_1.snd, r.snd.snd.snd.snd) ((1 : Int) + nextV turns x_1.fst (4 : Int)) (1 : Int) (nextV turns (nextK turns x_1.fst) (60 : Int)) ((1 : Int) + nextV turns (nextK turns (nextK turns x_1.fst)) (30 : Int)) → ∃ (y : Nat × List Le), (x.fst = x.fst ∧ x.snd.fst = x.snd.fst ∧ x.snd.snd.fst = x.snd.snd.fst ∧ x.snd.snd.snd.fst = x.snd.snd.snd.fst ∧ x.snd.snd.snd.snd.fst = x.snd.snd.snd.snd.fst ∧ x.snd.snd.snd.snd.snd.fst = x.snd.snd.snd.snd.snd.fst ∧ x.snd.snd.snd.snd.snd.snd.fst = x.snd.snd.snd.snd.snd.snd.fst ∧ x.snd.snd.snd.snd.snd.snd.snd = x.snd.snd.snd.snd.snd.snd.snd ∧ r.snd.snd.snd.snd = r.snd.snd.snd.snd ∧ r_2.snd.snd.fst = r_2.snd.snd.fst ∧ r_2.snd.snd.snd.fst = r_2.snd.snd.snd.fst ∧ r_2.snd.snd.snd.snd = r_2.snd.snd.snd.snd ∧ r.snd.snd.snd.snd = r.snd.snd.snd.snd ∧ turns = turns ∧ Int.ofNat (nextK turns (nextK turns (nextK turns x_1.fst))) = Int.ofNat y.fst ∧ r.snd.snd.fst = r.snd.snd.fst ∧ r_4.snd.snd.fst = y.snd ∧ r.snd.snd.fst = r.snd.snd.fst ∧ r.snd.snd.snd.fst = r.snd.snd.snd.fst ∧ True) ∧ (y.fst ≤ List.length turns ∧ List.length y.snd ≤ y.fst) ∧ List.length turns - y.fst < List.length turns - x_1.fst) ∧
 (decide (Int.ofNat x_1.fst < (List.length turns : Int)) = false →
 List.length r.snd.snd.fst ≤ lenMax ∧
 ((!(r.snd.snd.snd.snd == r.snd.snd.snd.snd && decide (r.snd.snd.fst = r.snd.snd.fst))) = true → K (SV.b ((BV.bool false))) []) ∧
 ((!(r.snd.snd.snd.snd == r.snd.snd.snd.snd && decide (r.snd.snd.fst = r.snd.snd.fst))) = false →
 List.length r.snd.snd.snd.fst ≤ lenMax ∧
 (((↑(List.length (List.filter (liveL (1 : Int) (0 : Int)) r.snd.snd.snd.fst)) : Int) != (0 : Int)) = true → K (SV.b ((BV.bool false))) []) ∧
 (((↑(List.length (List.filter (liveL (1 : Int) (0 : Int)) r.snd.snd.snd.fst)) : Int) != (0 : Int)) = false →
 List.length r_2.snd.snd.fst ≤ lenMax ∧
 List.length r_2.snd.snd.snd.fst ≤ lenMax ∧
 List.length r.snd.snd.fst ≤ lenMax ∧
 List.length r.snd.snd.snd.fst ≤ lenMax ∧
 ∀ (r_4 : Int × Q),
 r_4 = applyQ (r.snd.snd.fst, r.snd.snd.snd.fst, r.snd.snd.snd.snd) (x.fst, x.snd.fst, x.snd.snd.fst, x.snd.snd.snd.fst, x.snd.snd.snd.snd.fst, x.snd.snd.snd.snd.snd.fst, x.snd.snd.snd.snd.snd.snd.fst, x.snd.snd.snd.snd.snd.snd.snd) →
 x.fst = x.fst ∧
 x.snd.fst = x.snd.fst ∧
 x.snd.snd.fst = x.snd.snd.fst ∧
 x.snd.snd.snd.fst = x.snd.snd.snd.fst ∧
 x.snd.snd.snd.snd.fst = x.snd.snd.snd.snd.fst ∧
 x.snd.snd.snd.snd.snd.fst = x.snd.snd.snd.snd.snd.fst ∧
 x.snd.snd.snd.snd.snd.snd.fst = x.snd.snd.snd.snd.snd.snd.fst ∧
 x.snd.snd.snd.snd.snd.snd.snd = x.snd.snd.snd.snd.snd.snd.snd ∧
 List.length r_2.snd.snd.fst ≤ lenMax ∧
 List.length r_2.snd.snd.snd.fst ≤ lenMax ∧
 ∀ (r_5 : Int × Q),
 r_5 = applyR (r_2.snd.snd.fst, r_2.snd.snd.snd.fst, r_2.snd.snd.snd.snd) (x.fst, x.snd.fst, x.snd.snd.fst, x.snd.snd.snd.fst, x.snd.snd.snd.snd.fst, x.snd.snd.snd.snd.snd.fst, x.snd.snd.snd.snd.snd.snd.fst, x.snd.snd.snd.snd.snd.snd.snd) →
 (sgnB true (r_4.fst == r_5.fst) = true →
 List.length r.snd.snd.fst ≤ lenMax ∧
 (sgnB true (r_4.fst == r_5.fst) = true → List.length r_2.snd.snd.fst ≤ lenMax ∧ (sgnB true (r_4.fst == r_5.fst && (r.snd.snd.snd.snd == r_4.snd.snd.snd && decide (r.snd.snd.fst = r_4.snd.fst)) == (decide (r_2.snd.snd.fst = r_5.snd.fst) && r_2.snd.snd.snd.snd == r_5.snd.snd.snd)) = true → List.length r.snd.snd.fst ≤ lenMax ∧ sgnB true (r_4.fst == r_5.fst && (r.snd.snd.snd.snd == r_4.snd.snd.snd && decide (r.snd.snd.fst = r_4.snd.fst)) == (decide (r_2.snd.snd.fst = r_5.snd.fst) && r_2.snd.snd.snd.snd == r_5.snd.snd.snd)) = sgnB true (r_4.fst == r_5.fst && (r.snd.snd.snd.snd == r_4.snd.snd.snd && decide (r.snd.snd.fst = r_4.snd.fst)) == (decide (r_2.snd.snd.fst = r_5.snd.fst) && r_2.snd.snd.snd.snd == r_5.snd.snd.snd)) ∧ r_2.snd.snd.fst = r_2.snd.snd.fst ∧ (sgnB true (r_4.fst == r_5.fst && (r.snd.snd.snd.snd == r_4.snd.snd.snd && decide (r.snd.snd.fst = r_4.snd.fst)) == (decide (r_2.snd.snd.fst = r_5.snd.fst) && r_2.snd.snd.snd.snd == r_5.snd.snd.snd)) = true → List.length r.snd.snd.fst ≤ lenMax ∧ K (SV.b ((BV.bool (r_4.fst == r_5.fst && (r.snd.snd.snd.snd == r_4.snd.snd.snd && decide (r.snd.snd.fst = r_4.snd.fst)) == (decide (r_2.snd.snd.fst = r_5.snd.fst) && r_2.snd.snd.snd.snd == r_5.snd.snd.snd) && decide (r.snd.snd.fst = r_2.snd.snd.fst))))) []) ∧ (sgnB true (r_4.fst == r_5.fst && (r.snd.snd.snd.snd == r_4.snd.snd.snd && decide (r.snd.snd.fst = r_4.snd.fst)) == (decide (r_2.snd.snd.fst = r_5.snd.fst) && r_2.snd.snd.snd.snd == r_5.snd.snd.snd)) = false → K (SV.b ((BV.bool (r_4.fst == r_5.fst && (r.snd.snd.snd.snd == r_4.snd.snd.snd && decide (r.snd.snd.fst = r_4.snd.fst)) == (decide (r_2.snd.snd.fst = r_5.snd.fst) && r_2.snd.snd.snd.snd == r_5.snd.snd.snd) && false)))) [])) ∧ (sgnB true (r_4.fst == r_5.fst && (r.snd.snd.snd.snd == r_4.snd.snd.snd && decide (r.snd.snd.fst = r_4.snd.fst)) == (decide (r_2.snd.snd.fst = r_5.snd.fst) && r_2.snd.snd.snd.snd == r_5.snd.snd.snd)) = false → sgnB true (r_4.fst == r_5.fst && (r.snd.snd.snd.snd == r_4.snd.snd.snd && decide (r.snd.snd.fst = r_4.snd.fst)) == (decide (r_2.snd.snd.fst = r_5.snd.fst) && r_2.snd.snd.snd.snd == r_5.snd.snd.snd)) = sgnB true (r_4.fst == r_5.fst && (r.snd.snd.snd.snd == r_4.snd.snd.snd && decide (r.snd.snd.fst = r_4.snd.fst)) == (decide (r_2.snd.snd.fst = r_5.snd.fst) && r_2.snd.snd.snd.snd == r_5.snd.snd.snd)) ∧ r_2.snd.snd.fst = r_2.snd.snd.fst ∧ (sgnB true (r_4.fst == r_5.fst && (r.snd.snd.snd.snd == r_4.snd.snd.snd && decide (r.snd.snd.fst = r_4.snd.fst)) == (decide (r_2.snd.snd.fst = r_5.snd.fst) && r_2.snd.snd.snd.snd == r_5.snd.snd.snd)) = true → False) ∧ (sgnB true (r_4.fst == r_5.fst && (r.snd.snd.snd.snd == r_4.snd.snd.snd && decide (r.snd.snd.fst = r_4.snd.fst)) == (decide (r_2.snd.snd.fst = r_5.snd.fst) && r_2.snd.snd.snd.snd == r_5.snd.snd.snd)) = false → K (SV.b ((BV.bool (r_4.fst == r_5.fst && (r.snd.snd.snd.snd == r_4.snd.snd.snd && decide (r.snd.snd.fst = r_4.snd.fst)) == (decide (r_2.snd.snd.fst = r_5.snd.fst) && r_2.snd.snd.snd.snd == r_5.snd.snd.snd) && false)))) []))) ∧
 (sgnB true (r_4.fst == r_5.fst) = false → (sgnB true (r_4.fst == r_5.fst && (r.snd.snd.snd.snd == r_4.snd.snd.snd && decide (r.snd.snd.fst = r_4.snd.fst)) == false) = true → List.length r.snd.snd.fst ≤ lenMax ∧ sgnB true (r_4.fst == r_5.fst && (r.snd.snd.snd.snd == r_4.snd.snd.snd && decide (r.snd.snd.fst = r_4.snd.fst)) == false) = sgnB true (r_4.fst == r_5.fst && (r.snd.snd.snd.snd == r_4.snd.snd.snd && decide (r.snd.snd.fst = r_4.snd.fst)) == false) ∧ r_2.snd.snd.fst = r_2.snd.snd.fst ∧ (sgnB true (r_4.fst == r_5.fst && (r.snd.snd.snd.snd == r_4.snd.snd.snd && decide (r.snd.snd.fst = r_4.snd.fst)) == false) = true → List.length r.snd.snd.fst ≤ lenMax ∧ K (SV.b ((BV.bool (r_4.fst == r_5.fst && (r.snd.snd.snd.snd == r_4.snd.snd.snd && decide (r.snd.snd.fst = r_4.snd.fst)) == false && decide (r.snd.snd.fst = r_2.snd.snd.fst))))) []) ∧ (sgnB true (r_4.fst == r_5.fst && (r.snd.snd.snd.snd == r_4.snd.snd.snd && decide (r.snd.snd.fst = r_4.snd.fst)) == false) = false → K (SV.b ((BV.bool (r_4.fst == r_5.fst && (r.snd.snd.snd.snd == r_4.snd.snd.snd && decide (r.snd.snd.fst = r_4.snd.fst)) == false && false)))) [])) ∧ (sgnB true (r_4.fst == r_5.fst && (r.snd.snd.snd.snd == r_4.snd.snd.snd && decide (r.snd.snd.fst = r_4.snd.fst)) == false) = false → sgnB true (r_4.fst == r_5.fst && (r.snd.snd.snd.snd == r_4.snd.snd.snd && decide (r.snd.snd.fst = r_4.snd.fst)) == false) = sgnB true (r_4.fst == r_5.fst && (r.snd.snd.snd.snd == r_4.snd.snd.snd && decide (r.snd.snd.fst = r_4.snd.fst)) == false) ∧ r_2.snd.snd.fst = r_2.snd.snd.fst ∧ (sgnB true (r_4.fst == r_5.fst && (r.snd.snd.snd.snd == r_4.snd.snd.snd && decide (r.snd.snd.fst = r_4.snd.fst)) == false) = true → False) ∧ (sgnB true (r_4.fst == r_5.fst && (r.snd.snd.snd.snd == r_4.snd.snd.snd && decide (r.snd.snd.fst = r_4.snd.fst)) == false) = false → K (SV.b ((BV.bool (r_4.fst == r_5.fst && (r.snd.snd.snd.snd == r_4.snd.snd.snd && decide (r.snd.snd.fst = r_4.snd.fst)) == false && false)))) [])))) ∧
 (sgnB true (r_4.fst == r_5.fst) = false → (sgnB true (r_4.fst == r_5.fst) = true → List.length r_2.snd.snd.fst ≤ lenMax ∧ (sgnB true (r_4.fst == r_5.fst && false == (decide (r_2.snd.snd.fst = r_5.snd.fst) && r_2.snd.snd.snd.snd == r_5.snd.snd.snd)) = true → List.length r.snd.snd.fst ≤ lenMax ∧ sgnB true (r_4.fst == r_5.fst && false == (decide (r_2.snd.snd.fst = r_5.snd.fst) && r_2.snd.snd.snd.snd == r_5.snd.snd.snd)) = sgnB true (r_4.fst == r_5.fst && false == (decide (r_2.snd.snd.fst = r_5.snd.fst) && r_2.snd.snd.snd.snd == r_5.snd.snd.snd)) ∧ r_2.snd.snd.fst = r_2.snd.snd.fst ∧ (sgnB true (r_4.fst == r_5.fst && false == (decide (r_2.snd.snd.fst = r_5.snd.fst) && r_2.snd.snd.snd.snd == r_5.snd.snd.snd)) = true → List.length r.snd.snd.fst ≤ lenMax ∧ K (SV.b ((BV.bool (r_4.fst == r_5.fst && false == (decide (r_2.snd.snd.fst = r_5.snd.fst) && r_2.snd.snd.snd.snd == r_5.snd.snd.snd) && decide (r.snd.snd.fst = r_2.snd.snd.fst))))) []) ∧ (sgnB true (r_4.fst == r_5.fst && false == (decide (r_2.snd.snd.fst = r_5.snd.fst) && r_2.snd.snd.snd.snd == r_5.snd.snd.snd)) = false → K (SV.b ((BV.bool (r_4.fst == r_5.fst && false == (decide (r_2.snd.snd.fst = r_5.snd.fst) && r_2.snd.snd.snd.snd == r_5.snd.snd.snd) && false)))) [])) ∧ (sgnB true (r_4.fst == r_5.fst && false == (decide (r_2.snd.snd.fst = r_5.snd.fst) && r_2.snd.snd.snd.snd == r_5.snd.snd.snd)) = false → sgnB true (r_4.fst == r_5.fst && false == (decide (r_2.snd.snd.fst = r_5.snd.fst) && r_2.snd.snd.snd.snd == r_5.snd.snd.snd)) = sgnB true (r_4.fst == r_5.fst && false == (decide (r_2.snd.snd.fst = r_5.snd.fst) && r_2.snd.snd.snd.snd == r_5.snd.snd.snd)) ∧ r_2.snd.snd.fst = r_2.snd.snd.fst ∧ (sgnB true (r_4.fst == r_5.fst && false == (decide (r_2.snd.snd.fst = r_5.snd.fst) && r_2.snd.snd.snd.snd == r_5.snd.snd.snd)) = true → False) ∧ (sgnB true (r_4.fst == r_5.fst && false == (decide (r_2.snd.snd.fst = r_5.snd.fst) && r_2.snd.snd.snd.snd == r_5.snd.snd.snd)) = false → K (SV.b ((BV.bool (r_4.fst == r_5.fst && false == (decide (r_2.snd.snd.fst = r_5.snd.fst) && r_2.snd.snd.snd.snd == r_5.snd.snd.snd) && false)))) []))) ∧ (sgnB true (r_4.fst == r_5.fst) = false → (sgnB true (r_4.fst == r_5.fst && true) = true → List.length r.snd.snd.fst ≤ lenMax ∧ sgnB true (r_4.fst == r_5.fst && true) = sgnB true (r_4.fst == r_5.fst && true) ∧ r_2.snd.snd.fst = r_2.snd.snd.fst ∧ (sgnB true (r_4.fst == r_5.fst && true) = true → List.length r.snd.snd.fst ≤ lenMax ∧ K (SV.b ((BV.bool (r_4.fst == r_5.fst && true && decide (r.snd.snd.fst = r_2.snd.snd.fst))))) []) ∧ (sgnB true (r_4.fst == r_5.fst && true) = false → K (SV.b ((BV.bool (r_4.fst == r_5.fst && true && false)))) [])) ∧ (sgnB true (r_4.fst == r_5.fst && true) = false → sgnB true (r_4.fst == r_5.fst && true) = sgnB true (r_4.fst == r_5.fst && true) ∧ r_2.snd.snd.fst = r_2.snd.snd.fst ∧ (sgnB true (r_4.fst == r_5.fst && true) = true → False) ∧ (sgnB true (r_4.fst == r_5.fst && true) = false → K (SV.b ((BV.bool (r_4.fst == r_5.fst && true && false)))) []))))))))) ∧
 (r_3.snd.fst ≠ (0 : Int) → List.length r.snd.snd.fst ≤ lenMax ∧ False)) ∧
 (r_2.snd.fst ≠ (0 : Int) → List.length m ≤ lenMax ∧ List.length (histF m) ≤ 1000000 ∧ ∀ (r_3 : Int × Int × Q), r_3 = foldF applyR (histF m) 0 q0 → (r_3.snd.fst = (0 : Int) → List.length r.snd.snd.fst ≤ lenMax ∧ False) ∧ (r_3.snd.fst ≠ (0 : Int) → List.length r.snd.snd.fst ≤ lenMax ∧ False))) ∧
 (r_1.snd.fst ≠ (0 : Int) → List.length l ≤ lenMax ∧ List.length (histF l) ≤ 1000000 ∧ ∀ (r : Int × Int × Q), r = foldF applyR (histF l) 0 q0 → (r.snd.fst = (0 : Int) → List.length m ≤ lenMax ∧ List.length (histF m) ≤ 1000000 ∧ ∀ (r : Int × Int × Q), r = foldF applyR (histF m) 0 q0 → (r.snd.fst = (0 : Int) → K (SV.b ((BV.bool false))) []) ∧ (r.snd.fst ≠ (0 : Int) → K (SV.b ((BV.bool false))) [])) ∧ (r.snd.fst ≠ (0 : Int) → List.length m ≤ lenMax ∧ List.length (histF m) ≤ 1000000 ∧ ∀ (r : Int × Int × Q), r = foldF applyR (histF m) 0 q0 → (r.snd.fst = (0 : Int) → K (SV.b ((BV.bool false))) []) ∧ (r.snd.fst ≠ (0 : Int) → K (SV.b ((BV.bool false))) [])))) ∧
 (r.snd.fst ≠ (0 : Int) → List.length m ≤ lenMax ∧ List.length (histF m) ≤ 1000000 ∧ ∀ (r : Int × Int × Q), r = foldF applyQ (histF m) 0 q0 → (r.snd.fst = (0 : Int) → List.length l ≤ lenMax ∧ List.length (histF l) ≤ 1000000 ∧ ∀ (r : Int × Int × Q), r = foldF applyR (histF l) 0 q0 → (r.snd.fst = (0 : Int) → List.length m ≤ lenMax ∧ List.length (histF m) ≤ 1000000 ∧ ∀ (r : Int × Int × Q), r = foldF applyR (histF m) 0 q0 → (r.snd.fst = (0 : Int) → K (SV.b ((BV.bool false))) []) ∧ (r.snd.fst ≠ (0 : Int) → K (SV.b ((BV.bool false))) [])) ∧ (r.snd.fst ≠ (0 : Int) → List.length m ≤ lenMax ∧ List.length (histF m) ≤ 1000000 ∧ ∀ (r : Int × Int × Q), r = foldF applyR (histF m) 0 q0 → (r.snd.fst = (0 : Int) → K (SV.b ((BV.bool false))) []) ∧ (r.snd.fst ≠ (0 : Int) → K (SV.b ((BV.bool false))) []))) ∧ (r.snd.fst ≠ (0 : Int) → List.length l ≤ lenMax ∧ List.length (histF l) ≤ 1000000 ∧ ∀ (r : Int × Int × Q), r = foldF applyR (histF l) 0 q0 → (r.snd.fst = (0 : Int) → List.length m ≤ lenMax ∧ List.length (histF m) ≤ 1000000 ∧ ∀ (r : Int × Int × Q), r = foldF applyR (histF m) 0 q0 → (r.snd.fst = (0 : Int) → K (SV.b ((BV.bool false))) []) ∧ (r.snd.fst ≠ (0 : Int) → K (SV.b ((BV.bool false))) [])) ∧ (r.snd.fst ≠ (0 : Int) → List.length m ≤ lenMax ∧ List.length (histF m) ≤ 1000000 ∧ ∀ (r : Int × Int × Q), r = foldF applyR (histF m) 0 q0 → (r.snd.fst = (0 : Int) → K (SV.b ((BV.bool false))) []) ∧ (r.snd.fst ≠ (0 : Int) → K (SV.b ((BV.bool false))) []))))))))))
 = fnVC Try.prog (look L13) (N9 turns) Try.f9 [fi l, fi m, cv x, fi turns] [] K := by kernel_rfl

end Go.Proofs.Ythjogeodclpafaa.AM
end

section
set_option linter.unusedVariables false
namespace Go.Proofs.Ythjogeodclpafaa.AM
open Go Go.Proofs.Ythjogeodclpafaa

theorem nf8 (l : List Int) (acts : List Ac) (c e i t : Int) (K : SV → List AObj → Prop) :
 ((false = true → K (SV.b ((BV.bool false))) []) ∧
 (false = false →
 ((!decide ((List.length l : Int) ≤ (150 : Int))) = true → K (SV.b ((BV.bool true))) []) ∧
 ((!decide ((List.length l : Int) ≤ (150 : Int))) = false →
 ((!lightB acts) = true → K (SV.b ((BV.bool true))) []) ∧
 ((!lightB acts) = false →
 List.length l ≤ lenMax ∧
 List.length (histF l) ≤ 1000000 ∧
 ∀ (r : Int × Int × Q),
 r = foldF applyQ (histF l) 0 q0 →
 (r.snd.fst = (0 : Int) →
 List.length (histF l) ≤ 1000000 ∧
 ∀ (r_1 : Int × Int × Q),
 r_1 = foldF applyR (histF l) 0 q0 →
 (r_1.snd.fst = (0 : Int) →
 (false = true → K (SV.b ((BV.bool false))) []) ∧
 (false = false →
 (∃ (y : Nat × Q × Q), (c = c ∧ e = e ∧ i = i ∧ t = t ∧ acts = acts ∧ (List.length acts : Int) = (List.length acts : Int) ∧ (0 : Int) = (↑y.fst : Int) ∧ r.snd.snd.snd.snd = y.snd.fst.snd.snd ∧ r_1.snd.snd.fst = y.snd.snd.fst ∧ r_1.snd.snd.snd.fst = y.snd.snd.snd.fst ∧ r_1.snd.snd.snd.snd = y.snd.snd.snd.snd ∧ r.snd.snd.fst = y.snd.fst.fst ∧ r.snd.snd.snd.fst = y.snd.fst.snd.fst ∧ True) ∧ y.fst ≤ List.length acts ∧ SimN y.fst y.snd.fst y.snd.snd) ∧
 ∀ (x : Nat × Q × Q),
 x.fst ≤ List.length acts ∧ SimN x.fst x.snd.fst x.snd.snd →
 (decide ((↑x.fst : Int) < (List.length acts : Int)) = true →
 ((0 : Int) ≤ (↑x.fst : Int) ∧ (↑x.fst : Int) < (List.length acts : Int)) ∧
 ((0 : Int) < (8 : Int) ∧
 (8 : Int) ≤ (1099511627776 : Int) ∧
 (((List.getD acts x.fst (Ty.zero ActT)).fst % (8 : Int) == (0 : Int)) = true →
 List.length x.snd.fst.fst ≤ lenMax ∧
 List.length x.snd.fst.snd.fst ≤ lenMax ∧
 ∀ (r : Int × Q),
 r = applyQ (x.snd.fst.fst, x.snd.fst.snd.fst, x.snd.fst.snd.snd) ((List.getD acts x.fst (Ty.zero ActT)).snd.snd.snd.snd.snd.fst, (List.getD acts x.fst (Ty.zero ActT)).snd.snd.snd.snd.snd.snd.fst, (List.getD acts x.fst (Ty.zero ActT)).snd.snd.snd.snd.snd.snd.snd.fst, (List.getD acts x.fst (Ty.zero ActT)).snd.snd.snd.snd.snd.snd.snd.snd.fst, (List.getD acts x.fst (Ty.zero ActT)).snd.snd.snd.snd.snd.snd.snd.snd.snd.fst, (List.getD acts x.fst (Ty.zero ActT)).snd.snd.snd.snd.snd.snd.snd.snd.snd.snd.fst, (List.getD acts x.fst (Ty.zero ActT)).snd.snd.snd.snd.snd.snd.snd.snd.snd.snd.snd.fst, (List.getD acts x.fst (Ty.zero ActT)).snd.snd.snd.snd.snd.snd.snd.snd.snd.snd.snd.snd) →
 (List.getD acts x.fst (Ty.zero ActT)).snd.snd.snd.snd.snd.fst = (List.getD acts x.fst (Ty.zero ActT)).snd.snd.snd.snd.snd.fst ∧
 (List.getD acts x.fst (Ty.zero ActT)).snd.snd.snd.snd.snd.snd.fst = (List.getD acts x.fst (Ty.zero ActT)).snd.snd.snd.snd.snd.snd.fst ∧
 (List.getD acts x.fst (Ty.zero ActT)).snd.snd.snd.snd.snd.snd.snd.fst = (List.getD acts x.fst (Ty.zero ActT)).snd.snd.snd.snd.snd.snd.snd.fst ∧
 (List.getD acts x.fst (Ty.zero ActT)).snd.snd.snd.snd.snd.snd.snd.snd.fst = (List.getD acts x.fst (Ty.zero ActT)).snd.snd.snd.snd.snd.snd.snd.snd.fst ∧ (List.getD acts x.fst (Ty.zero ActT)).snd.snd.snd.snd.snd.snd.snd.snd.snd.fst = (List.getD acts x.fst (Ty.zero ActT)).snd.snd.snd.snd.snd.snd.snd.snd.snd.fst ∧ (List.getD acts x.fst (Ty.zero ActT)).snd.snd.snd.snd.snd.snd.snd.snd.snd.snd.fst = (List.getD acts x.fst (Ty.zero ActT)).snd.snd.snd.snd.snd.snd.snd.snd.snd.snd.fst ∧ (List.getD acts x.fst (Ty.zero ActT)).snd.snd.snd.snd.snd.snd.snd.snd.snd.snd.snd.fst = (List.getD acts x.fst (Ty.zero ActT)).snd.snd.snd.snd.snd.snd.snd.snd.snd.snd.snd.fst ∧ (List.getD acts x.fst (Ty.zero ActT)).snd.snd.snd.snd.snd.snd.snd.snd.snd.snd.snd.snd = (List.getD acts x.fst (Ty.zero ActT)).snd.snd.snd.snd.snd.snd.snd.snd.snd.snd.snd.snd ∧ List.length x.snd.snd.fst ≤ lenMax ∧ List.length x.snd.snd.snd.fst ≤ lenMax ∧ ∀ (r_2 : Int × Q), r_2 = applyR (x.snd.snd.fst, x.snd.snd.snd.fst, x.snd.snd.snd.snd) ((List.getD acts x.fst (Ty.zero ActT)).snd.snd.snd.snd.snd.fst, (List.getD acts x.fst (Ty.zero ActT)).snd.snd.snd.snd.snd.snd.fst, (List.getD acts x.fst (Ty.zero ActT)).snd.snd.snd.snd.snd.snd.snd.fst, (List.getD acts x.fst (Ty.zero ActT)).snd.snd.snd.snd.snd.snd.snd.snd.fst, (List.getD acts x.fst (Ty.zero ActT)).snd.snd.snd.snd.snd.snd.snd.snd.snd.fst, (List.getD acts x.fst (Ty.zero ActT)).snd.snd.snd.snd.snd.snd.snd.snd.snd.snd.fst, (List.getD acts x.fst (Ty.zero ActT)).snd.snd.snd.snd.snd.snd.snd.snd.snd.snd.snd.fst, (List.getD acts x.fst (Ty.zero ActT)).snd.snd.snd.snd.snd.snd.snd.snd.snd.snd.snd.snd) → ((r.fst != r_2.fst) = true → K (SV.b ((BV.bool false))) []) ∧ ((r.fst != r_2.fst) = false → ∃ (y : Q × Q), (c = c ∧ e = e ∧ i = i ∧ t = t ∧ acts = acts ∧ (List.length acts : Int) = (List.length acts : Int) ∧ (↑x.fst : Int) = (↑x.fst : Int) ∧ r.snd.snd.snd = y.fst.snd.snd ∧ r_2.snd.fst = y.snd.fst ∧ r_2.snd.snd.fst = y.snd.snd.fst ∧ r_2.snd.snd.snd = y.snd.snd.snd ∧ (List.getD acts x.fst (Ty.zero ActT)).fst = (List.getD acts x.fst (Ty.zero ActT)).fst ∧ (List.getD acts x.fst (Ty.zero ActT)).snd.fst = (List.getD acts x.fst (Ty.zero ActT)).snd.fst ∧ (List.getD acts x.fst (Ty.zero ActT)).snd.snd.fst = (List.getD acts x.fst (Ty.zero ActT)).snd.snd.fst ∧ (List.getD acts x.fst (Ty.zero ActT)).snd.snd.snd.fst = (List.getD acts x.fst (Ty.zero ActT)).snd.snd.snd.fst ∧ (List.getD acts x.fst (Ty.zero ActT)).snd.snd.snd.snd.fst = (List.getD acts x.fst (Ty.zero ActT)).snd.snd.snd.snd.fst ∧ (List.getD acts x.fst (Ty.zero ActT)).snd.snd.snd.snd.snd.fst = (List.getD acts x.fst (Ty.zero ActT)).snd.snd.snd.snd.snd.fst ∧ (List.getD acts x.fst (Ty.zero ActT)).snd.snd.snd.snd.snd.snd.fst = (List.getD acts x.fst (Ty.zero ActT)).snd.snd.snd.snd.snd.snd.fst ∧ (List.getD acts x.fst (Ty.zero ActT)).snd.snd.snd.snd.snd.snd.snd.fst = (List.getD acts x.fst (Ty.zero ActT)).snd.snd.snd.snd.snd.snd.snd.fst ∧ (List.getD acts x.fst (Ty.zero ActT)).snd.snd.snd.snd.snd.snd.snd.snd.fst = (List.getD acts x.fst (Ty.zero ActT)).snd.snd.snd.snd.snd.snd.snd.snd.fst ∧ (List.getD acts x.fst (Ty.zero ActT)).snd.snd.snd.snd.snd.snd.snd.snd.snd.fst = (List.getD acts x.fst (Ty.zero ActT)).snd.snd.snd.snd.snd.snd.snd.snd.snd.fst ∧ (List.getD acts x.fst (Ty.zero ActT)).snd.snd.snd.snd.snd.snd.snd.snd.snd.snd.fst = (List.getD acts x.fst (Ty.zero ActT)).snd.snd.snd.snd.snd.snd.snd.snd.snd.snd.fst ∧ (List.getD acts x.fst (Ty.zero ActT)).snd.snd.snd.snd.snd.snd.snd.snd.snd.snd.snd.fst = (List.getD acts x.fst (Ty.zero ActT)).snd.snd.snd.snd.snd.snd.snd.snd.snd.snd.snd.fst ∧ (List.getD acts x.fst (Ty.zero ActT)).snd.snd.snd.snd.snd.snd.snd.snd.snd.snd.snd.snd = (List.getD acts x.fst (Ty.zero ActT)).snd.snd.snd.snd.snd.snd.snd.snd.snd.snd.snd.snd ∧ r.snd.fst = y.fst.fst ∧ r.snd.snd.fst = y.fst.snd.fst ∧ True) ∧ SimN (Int.toNat (↑x.fst : Int) + 1) y.fst y.snd)) ∧
 (((List.getD acts x.fst (Ty.zero ActT)).fst % (8 : Int) == (0 : Int)) = false →
 (((List.getD acts x.fst (Ty.zero ActT)).fst % (8 : Int) == (6 : Int)) = true → ∃ (y : Q × Q), (c = c ∧ e = e ∧ i = i ∧ t = t ∧ acts = acts ∧ (List.length acts : Int) = (List.length acts : Int) ∧ (↑x.fst : Int) = (↑x.fst : Int) ∧ x.snd.fst.snd.snd = y.fst.snd.snd ∧ x.snd.snd.fst = y.snd.fst ∧ [] = y.snd.snd.fst ∧ x.snd.snd.snd.snd = y.snd.snd.snd ∧ (List.getD acts x.fst (Ty.zero ActT)).fst = (List.getD acts x.fst (Ty.zero ActT)).fst ∧ (List.getD acts x.fst (Ty.zero ActT)).snd.fst = (List.getD acts x.fst (Ty.zero ActT)).snd.fst ∧ (List.getD acts x.fst (Ty.zero ActT)).snd.snd.fst = (List.getD acts x.fst (Ty.zero ActT)).snd.snd.fst ∧ (List.getD acts x.fst (Ty.zero ActT)).snd.snd.snd.fst = (List.getD acts x.fst (Ty.zero ActT)).snd.snd.snd.fst ∧ (List.getD acts x.fst (Ty.zero ActT)).snd.snd.snd.snd.fst = (List.getD acts x.fst (Ty.zero ActT)).snd.snd.snd.snd.fst ∧ (List.getD acts x.fst (Ty.zero ActT)).snd.snd.snd.snd.snd.fst = (List.getD acts x.fst (Ty.zero ActT)).snd.snd.snd.snd.snd.fst ∧ (List.getD acts x.fst (Ty.zero ActT)).snd.snd.snd.snd.snd.snd.fst = (List.getD acts x.fst (Ty.zero ActT)).snd.snd.snd.snd.snd.snd.fst ∧ (List.getD acts x.fst (Ty.zero ActT)).snd.snd.snd.snd.snd.snd.snd.fst = (List.getD acts x.fst (Ty.zero ActT)).snd.snd.snd.snd.snd.snd.snd.fst ∧ (List.getD acts x.fst (Ty.zero ActT)).snd.snd.snd.snd.snd.snd.snd.snd.fst = (List.getD acts x.fst (Ty.zero ActT)).snd.snd.snd.snd.snd.snd.snd.snd.fst ∧ (List.getD acts x.fst (Ty.zero ActT)).snd.snd.snd.snd.snd.snd.snd.snd.snd.fst = (List.getD acts x.fst (Ty.zero ActT)).snd.snd.snd.snd.snd.snd.snd.snd.snd.fst ∧ (List.getD acts x.fst (Ty.zero ActT)).snd.snd.snd.snd.snd.snd.snd.snd.snd.snd.fst = (List.getD acts x.fst (Ty.zero ActT)).snd.snd.snd.snd.snd.snd.snd.snd.snd.snd.fst ∧ (List.getD acts x.fst (Ty.zero ActT)).snd.snd.snd.snd.snd.snd.snd.snd.snd.snd.snd.fst = (List.getD acts x.fst (Ty.zero ActT)).snd.snd.snd.snd.snd.snd.snd.snd.snd.snd.snd.fst ∧ (List.getD acts x.fst (Ty.zero ActT)).snd.snd.snd.snd.snd.snd.snd.snd.snd.snd.snd.snd = (List.getD acts x.fst (Ty.zero ActT)).snd.snd.snd.snd.snd.snd.snd.snd.snd.snd.snd.snd ∧ x.snd.fst.fst = y.fst.fst ∧ [] = y.fst.snd.fst ∧ True) ∧ SimN (Int.toNat (↑x.fst : Int) + 1) y.fst y.snd) ∧
 (((List.getD acts x.fst (Ty.zero ActT)).fst % (8 : Int) == (6 : Int)) = false →
 (((List.getD acts x.fst (Ty.zero ActT)).fst % (8 : Int) == (7 : Int)) = true → List.length x.snd.fst.fst ≤ lenMax ∧ List.length x.snd.fst.snd.fst ≤ lenMax ∧ List.length x.snd.snd.fst ≤ lenMax ∧ List.length x.snd.snd.snd.fst ≤ lenMax ∧ ∃ (y : Q × Q), (c = c ∧ e = e ∧ i = i ∧ t = t ∧ acts = acts ∧ (List.length acts : Int) = (List.length acts : Int) ∧ (↑x.fst : Int) = (↑x.fst : Int) ∧ x.snd.fst.snd.snd = y.fst.snd.snd ∧ x.snd.snd.fst = y.snd.fst ∧ x.snd.snd.snd.fst = y.snd.snd.fst ∧ x.snd.snd.snd.snd = y.snd.snd.snd ∧ (List.getD acts x.fst (Ty.zero ActT)).fst = (List.getD acts x.fst (Ty.zero ActT)).fst ∧ (List.getD acts x.fst (Ty.zero ActT)).snd.fst = (List.getD acts x.fst (Ty.zero ActT)).snd.fst ∧ (List.getD acts x.fst (Ty.zero ActT)).snd.snd.fst = (List.getD acts x.fst (Ty.zero ActT)).snd.snd.fst ∧ (List.getD acts x.fst (Ty.zero ActT)).snd.snd.snd.fst = (List.getD acts x.fst (Ty.zero ActT)).snd.snd.snd.fst ∧ (List.getD acts x.fst (Ty.zero ActT)).snd.snd.snd.snd.fst = (List.getD acts x.fst (Ty.zero ActT)).snd.snd.snd.snd.fst ∧ (List.getD acts x.fst (Ty.zero ActT)).snd.snd.snd.snd.snd.fst = (List.getD acts x.fst (Ty.zero ActT)).snd.snd.snd.snd.snd.fst ∧ (List.getD acts x.fst (Ty.zero ActT)).snd.snd.snd.snd.snd.snd.fst = (List.getD acts x.fst (Ty.zero ActT)).snd.snd.snd.snd.snd.snd.fst ∧ (List.getD acts x.fst (Ty.zero ActT)).snd.snd.snd.snd.snd.snd.snd.fst = (List.getD acts x.fst (Ty.zero ActT)).snd.snd.snd.snd.snd.snd.snd.fst ∧ (List.getD acts x.fst (Ty.zero ActT)).snd.snd.snd.snd.snd.snd.snd.snd.fst = (List.getD acts x.fst (Ty.zero ActT)).snd.snd.snd.snd.snd.snd.snd.snd.fst ∧ (List.getD acts x.fst (Ty.zero ActT)).snd.snd.snd.snd.snd.snd.snd.snd.snd.fst = (List.getD acts x.fst (Ty.zero ActT)).snd.snd.snd.snd.snd.snd.snd.snd.snd.fst ∧ (List.getD acts x.fst (Ty.zero ActT)).snd.snd.snd.snd.snd.snd.snd.snd.snd.snd.fst = (List.getD acts x.fst (Ty.zero ActT)).snd.snd.snd.snd.snd.snd.snd.snd.snd.snd.fst ∧ (List.getD acts x.fst (Ty.zero ActT)).snd.snd.snd.snd.snd.snd.snd.snd.snd.snd.snd.fst = (List.getD acts x.fst (Ty.zero ActT)).snd.snd.snd.snd.snd.snd.snd.snd.snd.snd.snd.fst ∧ (List.getD acts x.fst (Ty.zero ActT)).snd.snd.snd.snd.snd.snd.snd.snd.snd.snd.snd.snd = (List.getD acts x.fst (Ty.zero ActT)).snd.snd.snd.snd.snd.snd.snd.snd.snd.snd.snd.snd ∧ x.snd.fst.fst = y.fst.fst ∧ x.snd.fst.snd.fst = y.fst.snd.fst ∧ True) ∧ SimN (Int.toNat (↑x.fst : Int) + 1) y.fst y.snd) ∧
 (((List.getD acts x.fst (Ty.zero ActT)).fst % (8 : Int) == (7 : Int)) = false → List.length x.snd.fst.fst ≤ lenMax ∧ List.length x.snd.fst.snd.fst ≤ lenMax ∧ ∀ (r : (Tm × Le × Int) × Q), r = takeQ (x.snd.fst.fst, x.snd.fst.snd.fst, x.snd.fst.snd.snd) (List.getD acts x.fst (Ty.zero ActT)).snd.fst (List.getD acts x.fst (Ty.zero ActT)).snd.snd.fst (List.getD acts x.fst (Ty.zero ActT)).snd.snd.snd.fst (List.getD acts x.fst (Ty.zero ActT)).snd.snd.snd.snd.fst → List.length x.snd.snd.fst ≤ lenMax ∧ List.length x.snd.snd.snd.fst ≤ lenMax ∧ ∀ (r_2 : (Tm × Le × Int) × Q), r_2 = takeR (x.snd.snd.fst, x.snd.snd.snd.fst, x.snd.snd.snd.snd) (List.getD acts x.fst (Ty.zero ActT)).snd.fst (List.getD acts x.fst (Ty.zero ActT)).snd.snd.fst (List.getD acts x.fst (Ty.zero ActT)).snd.snd.snd.fst (List.getD acts x.fst (Ty.zero ActT)).snd.snd.snd.snd.fst → ((!Ty.eqb Item (r.fst.fst.fst, r.fst.fst.snd) (r_2.fst.fst.fst, r_2.fst.fst.snd) || !Ty.eqb Lease (r.fst.snd.fst.fst, r.fst.snd.fst.snd.fst, r.fst.snd.fst.snd.snd.fst, r.fst.snd.fst.snd.snd.snd) (r_2.fst.snd.fst.fst, r_2.fst.snd.fst.snd.fst, r_2.fst.snd.fst.snd.snd.fst, r_2.fst.snd.fst.snd.snd.snd) || r.fst.snd.snd != r_2.fst.snd.snd) = true → K (SV.b ((BV.bool false))) []) ∧ ((!Ty.eqb Item (r.fst.fst.fst, r.fst.fst.snd) (r_2.fst.fst.fst, r_2.fst.fst.snd) || !Ty.eqb Lease (r.fst.snd.fst.fst, r.fst.snd.fst.snd.fst, r.fst.snd.fst.snd.snd.fst, r.fst.snd.fst.snd.snd.snd) (r_2.fst.snd.fst.fst, r_2.fst.snd.fst.snd.fst, r_2.fst.snd.fst.snd.snd.fst, r_2.fst.snd.fst.snd.snd.snd) || r.fst.snd.snd != r_2.fst.snd.snd) = false → ∃ (y : Q × Q), (c = c ∧ e = e ∧ i = i ∧ t = t ∧ acts = acts ∧ (List.length acts : Int) = (List.length acts : Int) ∧ (↑x.fst : Int) = (↑x.fst : Int) ∧ x.snd.fst.snd.snd = y.fst.snd.snd ∧ x.snd.snd.fst = y.snd.fst ∧ r_2.snd.snd.fst = y.snd.snd.fst ∧ x.snd.snd.snd.snd = y.snd.snd.snd ∧ (List.getD acts x.fst (Ty.zero ActT)).fst = (List.getD acts x.fst (Ty.zero ActT)).fst ∧ (List.getD acts x.fst (Ty.zero ActT)).snd.fst = (List.getD acts x.fst (Ty.zero ActT)).snd.fst ∧ (List.getD acts x.fst (Ty.zero ActT)).snd.snd.fst = (List.getD acts x.fst (Ty.zero ActT)).snd.snd.fst ∧ (List.getD acts x.fst (Ty.zero ActT)).snd.snd.snd.fst = (List.getD acts x.fst (Ty.zero ActT)).snd.snd.snd.fst ∧ (List.getD acts x.fst (Ty.zero ActT)).snd.snd.snd.snd.fst = (List.getD acts x.fst (Ty.zero ActT)).snd.snd.snd.snd.fst ∧ (List.getD acts x.fst (Ty.zero ActT)).snd.snd.snd.snd.snd.fst = (List.getD acts x.fst (Ty.zero ActT)).snd.snd.snd.snd.snd.fst ∧ (List.getD acts x.fst (Ty.zero ActT)).snd.snd.snd.snd.snd.snd.fst = (List.getD acts x.fst (Ty.zero ActT)).snd.snd.snd.snd.snd.snd.fst ∧ (List.getD acts x.fst (Ty.zero ActT)).snd.snd.snd.snd.snd.snd.snd.fst = (List.getD acts x.fst (Ty.zero ActT)).snd.snd.snd.snd.snd.snd.snd.fst ∧ (List.getD acts x.fst (Ty.zero ActT)).snd.snd.snd.snd.snd.snd.snd.snd.fst = (List.getD acts x.fst (Ty.zero ActT)).snd.snd.snd.snd.snd.snd.snd.snd.fst ∧ (List.getD acts x.fst (Ty.zero ActT)).snd.snd.snd.snd.snd.snd.snd.snd.snd.fst = (List.getD acts x.fst (Ty.zero ActT)).snd.snd.snd.snd.snd.snd.snd.snd.snd.fst ∧ (List.getD acts x.fst (Ty.zero ActT)).snd.snd.snd.snd.snd.snd.snd.snd.snd.snd.fst = (List.getD acts x.fst (Ty.zero ActT)).snd.snd.snd.snd.snd.snd.snd.snd.snd.snd.fst ∧ (List.getD acts x.fst (Ty.zero ActT)).snd.snd.snd.snd.snd.snd.snd.snd.snd.snd.snd.fst = (List.getD acts x.fst (Ty.zero ActT)).snd.snd.snd.snd.snd.snd.snd.snd.snd.snd.snd.fst ∧ (List.getD acts x.fst (Ty.zero ActT)).snd.snd.snd.snd.snd.snd.snd.snd.snd.snd.snd.snd = (List.getD acts x.fst (Ty.zero ActT)).snd.snd.snd.snd.snd.snd.snd.snd.snd.snd.snd.snd ∧ x.snd.fst.fst = y.fst.fst ∧ r.snd.snd.fst = y.fst.snd.fst ∧ True) ∧ SimN (Int.toNat (↑x.fst : Int) + 1) y.fst y.snd))))) ∧
 ∀ (y : Q × Q),
 SimN (Int.toNat (↑x.fst : Int) + 1) y.fst y.snd →
 List.length y.fst.fst ≤ lenMax ∧
 y.snd.fst = y.snd.fst ∧
 List.length y.fst.fst ≤ lenMax ∧
 ((sgnB false !decide (y.fst.fst = y.snd.fst)) = true →
 List.length y.fst.snd.fst ≤ lenMax ∧
 (sgnB false !decide (y.fst.fst = y.snd.fst)) = sgnB false !decide (y.fst.fst = y.snd.fst) ∧
 (List.getD acts x.fst (Ty.zero ActT)).snd.snd.snd.fst = (List.getD acts x.fst (Ty.zero ActT)).snd.snd.snd.fst ∧
 (sgnB false !decide (y.fst.fst = y.snd.fst)) = sgnB false !decide (y.fst.fst = y.snd.fst) ∧
 (List.getD acts x.fst (Ty.zero ActT)).snd.snd.fst = (List.getD acts x.fst (Ty.zero ActT)).snd.snd.fst ∧
 ((sgnB false !decide (y.fst.fst = y.snd.fst)) = true →
 List.length y.snd.fst ≤ lenMax ∧
 List.length y.snd.snd.fst ≤ lenMax ∧
 ((sgnB false !decide (y.fst.fst = y.snd.fst)) = true →
 List.length (List.filter (liveL (List.getD acts x.fst (Ty.zero ActT)).snd.snd.fst (List.getD acts x.fst (Ty.zero ActT)).snd.snd.snd.fst) y.fst.snd.fst) ≤ lenMax ∧
 (sgnB false (!decide (y.fst.fst = y.snd.fst) || !decide (List.filter (liveL (List.getD acts x.fst (Ty.zero ActT)).snd.snd.fst (List.getD acts x.fst (Ty.zero ActT)).snd.snd.snd.fst) y.fst.snd.fst = leasesR (y.snd.fst, y.snd.snd.fst, y.snd.snd.snd) (List.getD acts x.fst (Ty.zero ActT)).snd.snd.fst (List.getD acts x.fst (Ty.zero ActT)).snd.snd.snd.fst)) = true →
 List.length y.fst.snd.fst ≤ lenMax ∧ (sgnB false (!decide (y.fst.fst = y.snd.fst) || !decide (List.filter (liveL (List.getD acts x.fst (Ty.zero ActT)).snd.snd.fst (List.getD acts x.fst (Ty.zero ActT)).snd.snd.snd.fst) y.fst.snd.fst = leasesR (y.snd.fst, y.snd.snd.fst, y.snd.snd.snd) (List.getD acts x.fst (Ty.zero ActT)).snd.snd.fst (List.getD acts x.fst (Ty.zero ActT)).snd.snd.snd.fst)) = true → List.length y.snd.snd.fst ≤ lenMax ∧ ∀ (r : Le × Bool), r = findR y.snd.snd.fst e i t → ((!decide (y.fst.fst = y.snd.fst) || !decide (List.filter (liveL (List.getD acts x.fst (Ty.zero ActT)).snd.snd.fst (List.getD acts x.fst (Ty.zero ActT)).snd.snd.snd.fst) y.fst.snd.fst = leasesR (y.snd.fst, y.snd.snd.fst, y.snd.snd.snd) (List.getD acts x.fst (Ty.zero ActT)).snd.snd.fst (List.getD acts x.fst (Ty.zero ActT)).snd.snd.snd.fst) || !holdsQ y.fst.snd.fst c e i t == (r.snd && r.fst.snd.fst == c)) = true → K (SV.b ((BV.bool false))) []) ∧ ((!decide (y.fst.fst = y.snd.fst) || !decide (List.filter (liveL (List.getD acts x.fst (Ty.zero ActT)).snd.snd.fst (List.getD acts x.fst (Ty.zero ActT)).snd.snd.snd.fst) y.fst.snd.fst = leasesR (y.snd.fst, y.snd.snd.fst, y.snd.snd.snd) (List.getD acts x.fst (Ty.zero ActT)).snd.snd.fst (List.getD acts x.fst (Ty.zero ActT)).snd.snd.snd.fst) || !holdsQ y.fst.snd.fst c e i t == (r.snd && r.fst.snd.fst == c)) = false → ∃ (y_1 : Nat × Q × Q), (c = c ∧ e = e ∧ i = i ∧ t = t ∧ acts = acts ∧ (List.length acts : Int) = (List.length acts : Int) ∧ wr ((↑x.fst : Int) + (1 : Int)) = (↑y_1.fst : Int) ∧ y.fst.snd.snd = y_1.snd.fst.snd.snd ∧ y.snd.fst = y_1.snd.snd.fst ∧ y.snd.snd.fst = y_1.snd.snd.snd.fst ∧ y.snd.snd.snd = y_1.snd.snd.snd.snd ∧ y.fst.fst = y_1.snd.fst.fst ∧ y.fst.snd.fst = y_1.snd.fst.snd.fst ∧ True) ∧ (y_1.fst ≤ List.length acts ∧ SimN y_1.fst y_1.snd.fst y_1.snd.snd) ∧ List.length acts - y_1.fst < List.length acts - x.fst)) ∧ (sgnB false (!decide (y.fst.fst = y.snd.fst) || !decide (List.filter (liveL (List.getD acts x.fst (Ty.zero ActT)).snd.snd.fst (List.getD acts x.fst (Ty.zero ActT)).snd.snd.snd.fst) y.fst.snd.fst = leasesR (y.snd.fst, y.snd.snd.fst, y.snd.snd.snd) (List.getD acts x.fst (Ty.zero ActT)).snd.snd.fst (List.getD acts x.fst (Ty.zero ActT)).snd.snd.snd.fst)) = false → ((!decide (y.fst.fst = y.snd.fst) || !decide (List.filter (liveL (List.getD acts x.fst (Ty.zero ActT)).snd.snd.fst (List.getD acts x.fst (Ty.zero ActT)).snd.snd.snd.fst) y.fst.snd.fst = leasesR (y.snd.fst, y.snd.snd.fst, y.snd.snd.snd) (List.getD acts x.fst (Ty.zero ActT)).snd.snd.fst (List.getD acts x.fst (Ty.zero ActT)).snd.snd.snd.fst) || !holdsQ y.fst.snd.fst c e i t == false) = true → K (SV.b ((BV.bool false))) []) ∧ ((!decide (y.fst.fst = y.snd.fst) || !decide (List.filter (liveL (List.getD acts x.fst (Ty.zero ActT)).snd.snd.fst (List.getD acts x.fst (Ty.zero ActT)).snd.snd.snd.fst) y.fst.snd.fst = leasesR (y.snd.fst, y.snd.snd.fst, y.snd.snd.snd) (List.getD acts x.fst (Ty.zero ActT)).snd.snd.fst (List.getD acts x.fst (Ty.zero ActT)).snd.snd.snd.fst) || !holdsQ y.fst.snd.fst c e i t == false) = false → ∃ (y_1 : Nat × Q × Q), (c = c ∧ e = e ∧ i = i ∧ t = t ∧ acts = acts ∧ (List.length acts : Int) = (List.length acts : Int) ∧ wr ((↑x.fst : Int) + (1 : Int)) = (↑y_1.fst : Int) ∧ y.fst.snd.snd = y_1.snd.fst.snd.snd ∧ y.snd.fst = y_1.snd.snd.fst ∧ y.snd.snd.fst = y_1.snd.snd.snd.fst ∧ y.snd.snd.snd = y_1.snd.snd.snd.snd ∧ y.fst.fst = y_1.snd.fst.fst ∧ y.fst.snd.fst = y_1.snd.fst.snd.fst ∧ True) ∧ (y_1.fst ≤ List.length acts ∧ SimN y_1.fst y_1.snd.fst y_1.snd.snd) ∧ List.length acts - y_1.fst < List.length acts - x.fst))) ∧
 (sgnB false (!decide (y.fst.fst = y.snd.fst) || !decide (List.filter (liveL (List.getD acts x.fst (Ty.zero ActT)).snd.snd.fst (List.getD acts x.fst (Ty.zero ActT)).snd.snd.snd.fst) y.fst.snd.fst = leasesR (y.snd.fst, y.snd.snd.fst, y.snd.snd.snd) (List.getD acts x.fst (Ty.zero ActT)).snd.snd.fst (List.getD acts x.fst (Ty.zero ActT)).snd.snd.snd.fst)) = false → (sgnB false (!decide (y.fst.fst = y.snd.fst) || !decide (List.filter (liveL (List.getD acts x.fst (Ty.zero ActT)).snd.snd.fst (List.getD acts x.fst (Ty.zero ActT)).snd.snd.snd.fst) y.fst.snd.fst = leasesR (y.snd.fst, y.snd.snd.fst, y.snd.snd.snd) (List.getD acts x.fst (Ty.zero ActT)).snd.snd.fst (List.getD acts x.fst (Ty.zero ActT)).snd.snd.snd.fst)) = true → List.length y.snd.snd.fst ≤ lenMax ∧ ∀ (r : Le × Bool), r = findR y.snd.snd.fst e i t → ((!decide (y.fst.fst = y.snd.fst) || !decide (List.filter (liveL (List.getD acts x.fst (Ty.zero ActT)).snd.snd.fst (List.getD acts x.fst (Ty.zero ActT)).snd.snd.snd.fst) y.fst.snd.fst = leasesR (y.snd.fst, y.snd.snd.fst, y.snd.snd.snd) (List.getD acts x.fst (Ty.zero ActT)).snd.snd.fst (List.getD acts x.fst (Ty.zero ActT)).snd.snd.snd.fst) || !false == (r.snd && r.fst.snd.fst == c)) = true → K (SV.b ((BV.bool false))) []) ∧ ((!decide (y.fst.fst = y.snd.fst) || !decide (List.filter (liveL (List.getD acts x.fst (Ty.zero ActT)).snd.snd.fst (List.getD acts x.fst (Ty.zero ActT)).snd.snd.snd.fst) y.fst.snd.fst = leasesR (y.snd.fst, y.snd.snd.fst, y.snd.snd.snd) (List.getD acts x.fst (Ty.zero ActT)).snd.snd.fst (List.getD acts x.fst (Ty.zero ActT)).snd.snd.snd.fst) || !false == (r.snd && r.fst.snd.fst == c)) = false → ∃ (y_1 : Nat × Q × Q), (c = c ∧ e = e ∧ i = i ∧ t = t ∧ acts = acts ∧ (List.length acts : Int) = (List.length acts : Int) ∧ wr ((↑x.fst : Int) + (1 : Int)) = (↑y_1.fst : Int) ∧ y.fst.snd.snd = y_1.snd.fst.snd.snd ∧ y.snd.fst = y_1.snd.snd.fst ∧ y.snd.snd.fst = y_1.snd.snd.snd.fst ∧ y.snd.snd.snd = y_1.snd.snd.snd.snd ∧ y.fst.fst = y_1.snd.fst.fst ∧ y.fst.snd.fst = y_1.snd.fst.snd.fst ∧ True) ∧ (y_1.fst ≤ List.length acts ∧ SimN y_1.fst y_1.snd.fst y_1.snd.snd) ∧ List.length acts - y_1.fst < List.length acts - x.fst)) ∧ (sgnB false (!decide (y.fst.fst = y.snd.fst) || !decide (List.filter (liveL (List.getD acts x.fst (Ty.zero ActT)).snd.snd.fst (List.getD acts x.fst (Ty.zero ActT)).snd.snd.snd.fst) y.fst.snd.fst = leasesR (y.snd.fst, y.snd.snd.fst, y.snd.snd.snd) (List.getD acts x.fst (Ty.zero ActT)).snd.snd.fst (List.getD acts x.fst (Ty.zero ActT)).snd.snd.snd.fst)) = false → ((!decide (y.fst.fst = y.snd.fst) || !decide (List.filter (liveL (List.getD acts x.fst (Ty.zero ActT)).snd.snd.fst (List.getD acts x.fst (Ty.zero ActT)).snd.snd.snd.fst) y.fst.snd.fst = leasesR (y.snd.fst, y.snd.snd.fst, y.snd.snd.snd) (List.getD acts x.fst (Ty.zero ActT)).snd.snd.fst (List.getD acts x.fst (Ty.zero ActT)).snd.snd.snd.fst) || false) = true → K (SV.b ((BV.bool false))) []) ∧ ((!decide (y.fst.fst = y.snd.fst) || !decide (List.filter (liveL (List.getD acts x.fst (Ty.zero ActT)).snd.snd.fst (List.getD acts x.fst (Ty.zero ActT)).snd.snd.snd.fst) y.fst.snd.fst = leasesR (y.snd.fst, y.snd.snd.fst, y.snd.snd.snd) (List.getD acts x.fst (Ty.zero ActT)).snd.snd.fst (List.getD acts x.fst (Ty.zero ActT)).snd.snd.snd.fst) || false) = false → ∃ (y_1 : Nat × Q × Q), (c = c ∧ e = e ∧ i = i ∧ t = t ∧ acts = acts ∧ (List.length acts : Int) = (List.length acts : Int) ∧ wr ((↑x.fst : Int) + (1 : Int)) = (↑y_1.fst : Int) ∧ y.fst.snd.snd = y_1.snd.fst.snd.snd ∧ y.snd.fst = y_1.snd.snd.fst ∧ y.snd.snd.fst = y_1.snd.snd.snd.fst ∧ y.snd.snd.snd = y_1.snd.snd.snd.snd ∧ y.fst.fst = y_1.snd.fst.fst ∧ y.fst.snd.fst = y_1.snd.fst.snd.fst ∧ True) ∧ (y_1.fst ≤ List.length acts ∧ SimN y_1.fst y_1.snd.fst y_1.snd.snd) ∧ List.length acts - y_1.fst < List.length acts - x.fst)))) ∧
 ((sgnB false !decide (y.fst.fst = y.snd.fst)) = false → (sgnB false (!decide (y.fst.fst = y.snd.fst) || true) = true → List.length y.fst.snd.fst ≤ lenMax ∧ (sgnB false (!decide (y.fst.fst = y.snd.fst) || true) = true → List.length y.snd.snd.fst ≤ lenMax ∧ ∀ (r : Le × Bool), r = findR y.snd.snd.fst e i t → ((!decide (y.fst.fst = y.snd.fst) || true || !holdsQ y.fst.snd.fst c e i t == (r.snd && r.fst.snd.fst == c)) = true → K (SV.b ((BV.bool false))) []) ∧ ((!decide (y.fst.fst = y.snd.fst) || true || !holdsQ y.fst.snd.fst c e i t == (r.snd && r.fst.snd.fst == c)) = false → ∃ (y_1 : Nat × Q × Q), (c = c ∧ e = e ∧ i = i ∧ t = t ∧ acts = acts ∧ (List.length acts : Int) = (List.length acts : Int) ∧ wr ((↑x.fst : Int) + (1 : Int)) = (↑y_1.fst : Int) ∧ y.fst.snd.snd = y_1.snd.fst.snd.snd ∧ y.snd.fst = y_1.snd.snd.fst ∧ y.snd.snd.fst = y_1.snd.snd.snd.fst ∧ y.snd.snd.snd = y_1.snd.snd.snd.snd ∧ y.fst.fst = y_1.snd.fst.fst ∧ y.fst.snd.fst = y_1.snd.fst.snd.fst ∧ True) ∧ (y_1.fst ≤ List.length acts ∧ SimN y_1.fst y_1.snd.fst y_1.snd.snd) ∧ List.length acts - y_1.fst < List.length acts - x.fst)) ∧ (sgnB false (!decide (y.fst.fst = y.snd.fst) || true) = false → ((!decide (y.fst.fst = y.snd.fst) || true || !holdsQ y.fst.snd.fst c e i t == false) = true → K (SV.b ((BV.bool false))) []) ∧ ((!decide (y.fst.fst = y.snd.fst) || true || !holdsQ y.fst.snd.fst c e i t == false) = false → ∃ (y_1 : Nat × Q × Q), (c = c ∧ e = e ∧ i = i ∧ t = t ∧ acts = acts ∧ (List.length acts : Int) = (List.length acts : Int) ∧ wr ((↑x.fst : Int) + (1 : Int)) = (↑y_1.fst : Int) ∧ y.fst.snd.snd = y_1.snd.fst.snd.snd ∧ y.snd.fst = y_1.snd.snd.fst ∧ y.snd.snd.fst = y_1.snd.snd.snd.fst ∧ y.snd.snd.snd = y_1.snd.snd.snd.snd ∧ y.fst.fst = y_1.snd.fst.fst ∧ y.fst.snd.fst = y_1.snd.fst.snd.fst ∧ True) ∧ (y_1.fst ≤ List.length acts ∧ SimN y_1.fst y_1.snd.fst y_1.snd.snd) ∧ List.length acts - y_1.fst < List.length acts - x.fst))) ∧ (sgnB false (!decide (y.fst.fst = y.snd.fst) || true) = false → (sgnB false (!decide (y.fst.fst = y.snd.fst) || true) = true → List.length y.snd.snd.fst ≤ lenMax ∧ ∀ (r : Le × Bool), r = findR y.snd.snd.fst e i t → ((!decide (y.fst.fst = y.snd.fst) || true || !false == (r.snd && r.fst.snd.fst == c)) = true → K (SV.b ((BV.bool false))) []) ∧ ((!decide (y.fst.fst = y.snd.fst) || true || !false == (r.snd && r.fst.snd.fst == c)) = false → ∃ (y_1 : Nat × Q × Q), (c = c ∧ e = e ∧ i = i ∧ t = t ∧ acts = acts ∧ (List.length acts : Int) = (List.length acts : Int) ∧ wr ((↑x.fst : Int) + (1 : Int)) = (↑y_1.fst : Int) ∧ y.fst.snd.snd = y_1.snd.fst.snd.snd ∧ y.snd.fst = y_1.snd.snd.fst ∧ y.snd.snd.fst = y_1.snd.snd.snd.fst ∧ y.snd.snd.snd = y_1.snd.snd.snd.snd ∧ y.fst.fst = y_1.snd.fst.fst ∧ y.fst.snd.fst = y_1.snd.fst.snd.fst ∧ True) ∧ (y_1.fst ≤ List.length acts ∧ SimN y_1.fst y_1.snd.fst y_1.snd.snd) ∧ List.length acts - y_1.fst < List.length acts - x.fst)) ∧ (sgnB false (!decide (y.fst.fst = y.snd.fst) || true) = false → ((!decide (y.fst.fst = y.snd.fst) || true || false) = true → K (SV.b ((BV.bool false))) []) ∧ ((!decide (y.fst.fst = y.snd.fst) || true || false) = false → ∃ (y_1 : Nat × Q × Q), (c = c ∧ e = e ∧ i = i ∧ t = t ∧ acts = acts ∧ (List.length acts : Int) = (List.length acts : Int) ∧ wr ((↑x.fst : Int) + (1 : Int)) = (↑y_1.fst : Int) ∧ y.fst.snd.snd = y_1.snd.fst.snd.snd ∧ y.snd.fst = y_1.snd.snd.fst ∧ y.snd.snd.fst = y_1.snd.snd.snd.fst ∧ y.snd.snd.snd = y_1.snd.snd.snd.snd ∧ y.fst.fst = y_1.snd.fst.fst ∧ y.fst.snd.fst = y_1.snd.fst.snd.fst ∧ True) ∧ (y_1.fst ≤ List.length acts ∧ SimN y_1.fst y_1.snd.fst y_1.snd.snd) ∧ List.length acts - y_1.fst < List.length acts - x.fst))))) ∧
 ((sgnB false !decide (y.fst.fst = y.snd.fst)) = false → ((sgnB false !decide (y.fst.fst = y.snd.fst)) = true → False) ∧ ((sgnB false !decide (y.fst.fst = y.snd.fst)) = false → (sgnB false (!decide (y.fst.fst = y.snd.fst) || true) = true → List.length y.fst.snd.fst ≤ lenMax ∧ (sgnB false (!decide (y.fst.fst = y.snd.fst) || true) = true → List.length y.snd.snd.fst ≤ lenMax ∧ ∀ (r : Le × Bool), r = findR y.snd.snd.fst e i t → ((!decide (y.fst.fst = y.snd.fst) || true || !holdsQ y.fst.snd.fst c e i t == (r.snd && r.fst.snd.fst == c)) = true → K (SV.b ((BV.bool false))) []) ∧ ((!decide (y.fst.fst = y.snd.fst) || true || !holdsQ y.fst.snd.fst c e i t == (r.snd && r.fst.snd.fst == c)) = false → ∃ (y_1 : Nat × Q × Q), (c = c ∧ e = e ∧ i = i ∧ t = t ∧ acts = acts ∧ (List.length acts : Int) = (List.length acts : Int) ∧ wr ((↑x.fst : Int) + (1 : Int)) = (↑y_1.fst : Int) ∧ y.fst.snd.snd = y_1.snd.fst.snd.snd ∧ y.snd.fst = y_1.snd.snd.fst ∧ y.snd.snd.fst = y_1.snd.snd.snd.fst ∧ y.snd.snd.snd = y_1.snd.snd.snd.snd ∧ y.fst.fst = y_1.snd.fst.fst ∧ y.fst.snd.fst = y_1.snd.fst.snd.fst ∧ True) ∧ (y_1.fst ≤ List.length acts ∧ SimN y_1.fst y_1.snd.fst y_1.snd.snd) ∧ List.length acts - y_1.fst < List.length acts - x.fst)) ∧ (sgnB false (!decide (y.fst.fst = y.snd.fst) || true) = false → ((!decide (y.fst.fst = y.snd.fst) || true || !holdsQ y.fst.snd.fst c e i t == false) = true → K (SV.b ((BV.bool false))) []) ∧ ((!decide (y.fst.fst = y.snd.fst) || true || !holdsQ y.fst.snd.fst c e i t == false) = false → ∃ (y_1 : Nat × Q × Q), (c = c ∧ e = e ∧ i = i ∧ t = t ∧ acts = acts ∧ (List.length acts : Int) = (List.length acts : Int) ∧ wr ((↑x.fst : Int) + (1 : Int)) = (↑y_1.fst : Int) ∧ y.fst.snd.snd = y_1.snd.fst.snd.snd ∧ y.snd.fst = y_1.snd.snd.fst ∧ y.snd.snd.fst = y_1.snd.snd.snd.fst ∧ y.snd.snd.snd = y_1.snd.snd.snd.snd ∧ y.fst.fst = y_1.snd.fst.fst ∧ y.fst.snd.fst = y_1.snd.fst.snd.fst ∧ True) ∧ (y_1.fst ≤ List.length acts ∧ SimN y_1.fst y_1.snd.fst y_1.snd.snd) ∧ List.length acts - y_1.fst < List.length acts - x.fst))) ∧ (sgnB false (!decide (y.fst.fst = y.snd.fst) || true) = false → (sgnB false (!decide (y.fst.fst = y.snd.fst) || true) = true → List.length y.snd.snd.fst ≤ lenMax ∧ ∀ (r : Le × Bool), r = findR y.snd.snd.fst e i t → ((!decide (y.fst.fst = y.snd.fst) || true || !false == (r.snd && r.fst.snd.fst == c)) = true → K (SV.b ((BV.bool false))) []) ∧ ((!decide (y.fst.fst = y.snd.fst) || true || !false == (r.snd && r.fst.snd.fst == c)) = false → ∃ (y_1 : Nat × Q × Q), (c = c ∧ e = e ∧ i = i ∧ t = t ∧ acts = acts ∧ (List.length acts : Int) = (List.length acts : Int) ∧ wr ((↑x.fst : Int) + (1 : Int)) = (↑y_1.fst : Int) ∧ y.fst.snd.snd = y_1.snd.fst.snd.snd ∧ y.snd.fst = y_1.snd.snd.fst ∧ y.snd.snd.fst = y_1.snd.snd.snd.fst ∧ y.snd.snd.snd = y_1.snd.snd.snd.snd ∧ y.fst.fst = y_1.snd.fst.fst ∧ y.fst.snd.fst = y_1.snd.fst.snd.fst ∧ True) ∧ (y_1.fst ≤ List.length acts ∧ SimN y_1.fst y_1.snd.fst y_1.snd.snd) ∧ List.length acts - y_1.fst < List.length acts - x.fst)) ∧ (sgnB false (!decide (y.fst.fst = y.snd.fst) || true) = false → ((!decide (y.fst.fst = y.snd.fst) || true || false) = true → K (SV.b ((BV.bool false))) []) ∧ ((!decide (y.fst.fst = y.snd.fst) || true || false) = false → ∃ (y_1 : Nat × Q × Q), (c = c ∧ e = e ∧ i = i ∧ t = t ∧ acts = acts ∧ (List.length acts : Int) = (List.length acts : Int) ∧ wr ((↑x.fst : Int) + (1 : Int)) = (↑y_1.fst : Int) ∧ y.fst.snd.snd = y_1.snd.fst.snd.snd ∧ y.snd.fst = y_1.snd.snd.fst ∧ y.snd.snd.fst = y_1.snd.snd.snd.fst ∧ y.snd.snd.snd = y_1.snd.snd.snd.snd ∧ y.fst.fst = y_1.snd.fst.fst ∧ y.fst.snd.fst = y_1.snd.fst.snd.fst ∧ True) ∧ (y_1.fst ≤ List.length acts ∧ SimN y_1.fst y_1.snd.fst y_1.snd.snd) ∧ List.length acts - y_1.fst < List.length acts - x.fst)))))) ∧
 ((sgnB false !decide (y.fst.fst = y.snd.fst)) = false →
 (sgnB false !decide (y.fst.fst = y.snd.fst)) = sgnB false !decide (y.fst.fst = y.snd.fst) ∧
 (List.getD acts x.fst (Ty.zero ActT)).snd.snd.snd.fst = (List.getD acts x.fst (Ty.zero ActT)).snd.snd.snd.fst ∧
 (sgnB false !decide (y.fst.fst = y.snd.fst)) = sgnB false !decide (y.fst.fst = y.snd.fst) ∧
 (List.getD acts x.fst (Ty.zero ActT)).snd.snd.fst = (List.getD acts x.fst (Ty.zero ActT)).snd.snd.fst ∧
 ((sgnB false !decide (y.fst.fst = y.snd.fst)) = true →
 List.length y.snd.fst ≤ lenMax ∧ List.length y.snd.snd.fst ≤ lenMax ∧ ((sgnB false !decide (y.fst.fst = y.snd.fst)) = true → False) ∧ ((sgnB false !decide (y.fst.fst = y.snd.fst)) = false → (sgnB false (!decide (y.fst.fst = y.snd.fst) || true) = true → List.length y.fst.snd.fst ≤ lenMax ∧ (sgnB false (!decide (y.fst.fst = y.snd.fst) || true) = true → List.length y.snd.snd.fst ≤ lenMax ∧ ∀ (r : Le × Bool), r = findR y.snd.snd.fst e i t → ((!decide (y.fst.fst = y.snd.fst) || true || !holdsQ y.fst.snd.fst c e i t == (r.snd && r.fst.snd.fst == c)) = true → K (SV.b ((BV.bool false))) []) ∧ ((!decide (y.fst.fst = y.snd.fst) || true || !holdsQ y.fst.snd.fst c e i t == (r.snd && r.fst.snd.fst == c)) = false → ∃ (y_1 : Nat × Q × Q), (c = c ∧ e = e ∧ i = i ∧ t = t ∧ acts = acts ∧ (List.length acts : Int) = (List.length acts : Int) ∧ wr ((↑x.fst : Int) + (1 : Int)) = (↑y_1.fst : Int) ∧ y.fst.snd.snd = y_1.snd.fst.snd.snd ∧ y.snd.fst = y_1.snd.snd.fst ∧ y.snd.snd.fst = y_1.snd.snd.snd.fst ∧ y.snd.snd.snd = y_1.snd.snd.snd.snd ∧ y.fst.fst = y_1.snd.fst.fst ∧ y.fst.snd.fst = y_1.snd.fst.snd.fst ∧ True) ∧ (y_1.fst ≤ List.length acts ∧ SimN y_1.fst y_1.snd.fst y_1.snd.snd) ∧ List.length acts - y_1.fst < List.length acts - x.fst)) ∧ (sgnB false (!decide (y.fst.fst = y.snd.fst) || true) = false → ((!decide (y.fst.fst = y.snd.fst) || true || !holdsQ y.fst.snd.fst c e i t == false) = true → K (SV.b ((BV.bool false))) []) ∧ ((!decide (y.fst.fst = y.snd.fst) || true || !holdsQ y.fst.snd.fst c e i t == false) = false → ∃ (y_1 : Nat × Q × Q), (c = c ∧ e = e ∧ i = i ∧ t = t ∧ acts = acts ∧ (List.length acts : Int) = (List.length acts : Int) ∧ wr ((↑x.fst : Int) + (1 : Int)) = (↑y_1.fst : Int) ∧ y.fst.snd.snd = y_1.snd.fst.snd.snd ∧ y.snd.fst = y_1.snd.snd.fst ∧ y.snd.snd.fst = y_1.snd.snd.snd.fst ∧ y.snd.snd.snd = y_1.snd.snd.snd.snd ∧ y.fst.fst = y_1.snd.fst.fst ∧ y.fst.snd.fst = y_1.snd.fst.snd.fst ∧ True) ∧ (y_1.fst ≤ List.length acts ∧ SimN y_1.fst y_1.snd.fst y_1.snd.snd) ∧ List.length acts - y_1.fst < List.length acts - x.fst))) ∧ (sgnB false (!decide (y.fst.fst = y.snd.fst) || true) = false → (sgnB false (!decide (y.fst.fst = y.snd.fst) || true) = true → List.length y.snd.snd.fst ≤ lenMax ∧ ∀ (r : Le × Bool), r = findR y.snd.snd.fst e i t → ((!decide (y.fst.fst = y.snd.fst) || true || !false == (r.snd && r.fst.snd.fst == c)) = true → K (SV.b ((BV.bool false))) []) ∧ ((!decide (y.fst.fst = y.snd.fst) || true || !false == (r.snd && r.fst.snd.fst == c)) = false → ∃ (y_1 : Nat × Q × Q), (c = c ∧ e = e ∧ i = i ∧ t = t ∧ acts = acts ∧ (List.length acts : Int) = (List.length acts : Int) ∧ wr ((↑x.fst : Int) + (1 : Int)) = (↑y_1.fst : Int) ∧ y.fst.snd.snd = y_1.snd.fst.snd.snd ∧ y.snd.fst = y_1.snd.snd.fst ∧ y.snd.snd.fst = y_1.snd.snd.snd.fst ∧ y.snd.snd.snd = y_1.snd.snd.snd.snd ∧ y.fst.fst = y_1.snd.fst.fst ∧ y.fst.snd.fst = y_1.snd.fst.snd.fst ∧ True) ∧ (y_1.fst ≤ List.length acts ∧ SimN y_1.fst y_1.snd.fst y_1.snd.snd) ∧ List.length acts - y_1.fst < List.length acts - x.fst)) ∧ (sgnB false (!decide (y.fst.fst = y.snd.fst) || true) = false → ((!decide (y.fst.fst = y.snd.fst) || true || false) = true → K (SV.b ((BV.bool false))) []) ∧ ((!decide (y.fst.fst = y.snd.fst) || true || false) = false → ∃ (y_1 : Nat × Q × Q), (c = c ∧ e = e ∧ i = i ∧ t = t ∧ acts = acts ∧ (List.length acts : Int) = (List.length acts : Int) ∧ wr ((↑x.fst : Int) + (1 : Int)) = (↑y_1.fst : Int) ∧ y.fst.snd.snd = y_1.snd.fst.snd.snd ∧ y.snd.fst = y_1.snd.snd.fst ∧ y.snd.snd.fst = y_1.snd.snd.snd.fst ∧ y.snd.snd.snd = y_1.snd.snd.snd.snd ∧ y.fst.fst = y_1.snd.fst.fst ∧ y.fst.snd.fst = y_1.snd.fst.snd.fst ∧ True) ∧ (y_1.fst ≤ List.length acts ∧ SimN y_1.fst y_1.snd.fst y_1.snd.snd) ∧ List.length acts - y_1.fst < List.length acts - x.fst))))) ∧
 ((sgnB false !decide (y.fst.fst = y.snd.fst)) = false → ((sgnB false !decide (y.fst.fst = y.snd.fst)) = true → False) ∧ ((sgnB false !decide (y.fst.fst = y.snd.fst)) = false → (sgnB false (!decide (y.fst.fst = y.snd.fst) || true) = true → List.length y.fst.snd.fst ≤ lenMax ∧ (sgnB false (!decide (y.fst.fst = y.snd.fst) || true) = true → List.length y.snd.snd.fst ≤ lenMax ∧ ∀ (r : Le × Bool), r = findR y.snd.snd.fst e i t → ((!decide (y.fst.fst = y.snd.fst) || true || !holdsQ y.fst.snd.fst c e i t == (r.snd && r.fst.snd.fst == c)) = true → K (SV.b ((BV.bool false))) []) ∧ ((!decide (y.fst.fst = y.snd.fst) || true || !holdsQ y.fst.snd.fst c e i t == (r.snd && r.fst.snd.fst == c)) = false → ∃ (y_1 : Nat × Q × Q), (c = c ∧ e = e ∧ i = i ∧ t = t ∧ acts = acts ∧ (List.length acts : Int) = (List.length acts : Int) ∧ wr ((↑x.fst : Int) + (1 : Int)) = (↑y_1.fst : Int) ∧ y.fst.snd.snd = y_1.snd.fst.snd.snd ∧ y.snd.fst = y_1.snd.snd.fst ∧ y.snd.snd.fst = y_1.snd.snd.snd.fst ∧ y.snd.snd.snd = y_1.snd.snd.snd.snd ∧ y.fst.fst = y_1.snd.fst.fst ∧ y.fst.snd.fst = y_1.snd.fst.snd.fst ∧ True) ∧ (y_1.fst ≤ List.length acts ∧ SimN y_1.fst y_1.snd.fst y_1.snd.snd) ∧ List.length acts - y_1.fst < List.length acts - x.fst)) ∧ (sgnB false (!decide (y.fst.fst = y.snd.fst) || true) = false → ((!decide (y.fst.fst = y.snd.fst) || true || !holdsQ y.fst.snd.fst c e i t == false) = true → K (SV.b ((BV.bool false))) []) ∧ ((!decide (y.fst.fst = y.snd.fst) || true || !holdsQ y.fst.snd.fst c e i t == false) = false → ∃ (y_1 : Nat × Q × Q), (c = c ∧ e = e ∧ i = i ∧ t = t ∧ acts = acts ∧ (List.length acts : Int) = (List.length acts : Int) ∧ wr ((↑x.fst : Int) + (1 : Int)) = (↑y_1.fst : Int) ∧ y.fst.snd.snd = y_1.snd.fst.snd.snd ∧ y.snd.fst = y_1.snd.snd.fst ∧ y.snd.snd.fst = y_1.snd.snd.snd.fst ∧ y.snd.snd.snd = y_1.snd.snd.snd.snd ∧ y.fst.fst = y_1.snd.fst.fst ∧ y.fst.snd.fst = y_1.snd.fst.snd.fst ∧ True) ∧ (y_1.fst ≤ List.length acts ∧ SimN y_1.fst y_1.snd.fst y_1.snd.snd) ∧ List.length acts - y_1.fst < List.length acts - x.fst))) ∧ (sgnB false (!decide (y.fst.fst = y.snd.fst) || true) = false → (sgnB false (!decide (y.fst.fst = y.snd.fst) || true) = true → List.length y.snd.snd.fst ≤ lenMax ∧ ∀ (r : Le × Bool), r = findR y.snd.snd.fst e i t → ((!decide (y.fst.fst = y.snd.fst) || true || !false == (r.snd && r.fst.snd.fst == c)) = true → K (SV.b ((BV.bool false))) []) ∧ ((!decide (y.fst.fst = y.snd.fst) || true || !false == (r.snd && r.fst.snd.fst == c)) = false → ∃ (y_1 : Nat × Q × Q), (c = c ∧ e = e ∧ i = i ∧ t = t ∧ acts = acts ∧ (List.length acts : Int) = (List.length acts : Int) ∧ wr ((↑x.fst : Int) + (1 : Int)) = (↑y_1.fst : Int) ∧ y.fst.snd.snd = y_1.snd.fst.snd.snd ∧ y.snd.fst = y_1.snd.snd.fst ∧ y.snd.snd.fst = y_1.snd.snd.snd.fst ∧ y.snd.snd.snd = y_1.snd.snd.snd.snd ∧ y.fst.fst = y_1.snd.fst.fst ∧ y.fst.snd.fst = y_1.snd.fst.snd.fst ∧ True) ∧ (y_1.fst ≤ List.length acts ∧ SimN y_1.fst y_1.snd.fst y_1.snd.snd) ∧ List.length acts - y_1.fst < List.length acts - x.fst)) ∧ (sgnB false (!decide (y.fst.fst = y.snd.fst) || true) = false → ((!decide (y.fst.fst = y.snd.fst) || true || false) = true → K (SV.b ((BV.bool false))) []) ∧ ((!decide (y.fst.fst = y.snd.fst) || true || false) = false → ∃ (y_1 : Nat × Q × Q), (c = c ∧ e = e ∧ i = i ∧ t = t ∧ acts = acts ∧ (List.length acts : Int) = (List.length acts : Int) ∧ wr ((↑x.fst : Int) + (1 : Int)) = (↑y_1.fst : Int) ∧ y.fst.snd.snd = y_1.snd.fst.snd.snd ∧ y.snd.fst = y_1.snd.snd.fst ∧ y.snd.snd.fst = y_1.snd.snd.snd.fst ∧ y.snd.snd.snd = y_1.snd.snd.snd.snd ∧ y.fst.fst = y_1.snd.fst.fst ∧ y.fst.snd.fst = y_1.snd.fst.snd.fst ∧ True) ∧ (y_1.fst ≤ List.length acts ∧ SimN y_1.fst y_1.snd.fst y_1.snd.snd) ∧ List.length acts - y_1.fst < List.length acts - x.fst))))))) ∧
 (decide ((↑x.fst : Int) < (List.length acts : Int)) = false → K (SV.b ((BV.bool true))) []))) ∧
 (r_1.snd.fst ≠ (0 : Int) → ((bif (0 : Int) != r_1.snd.fst then true else false) = true → K (SV.b ((BV.bool false))) []) ∧ ((bif (0 : Int) != r_1.snd.fst then true else false) = false → (∃ (y : Nat × Q × Q), False ∧ y.fst ≤ List.length acts ∧ SimN y.fst y.snd.fst y.snd.snd) ∧ ∀ (x : Nat × Q × Q), x.fst ≤ List.length acts ∧ SimN x.fst x.snd.fst x.snd.snd → (decide ((↑x.fst : Int) < (List.length acts : Int)) = true → ((0 : Int) ≤ (↑x.fst : Int) ∧ (↑x.fst : Int) < (List.length acts : Int)) ∧ ((0 : Int) < (8 : Int) ∧ (8 : Int) ≤ (1099511627776 : Int) ∧ (((List.getD acts x.fst (Ty.zero ActT)).fst % (8 : Int) == (0 : Int)) = true → False) ∧ (((List.getD acts x.fst (Ty.zero ActT)).fst % (8 : Int) == (0 : Int)) = false → (((List.getD acts x.fst (Ty.zero ActT)).fst % (8 : Int) == (6 : Int)) = true → False) ∧ (((List.getD acts x.fst (Ty.zero ActT)).fst % (8 : Int) == (6 : Int)) = false → (((List.getD acts x.fst (Ty.zero ActT)).fst % (8 : Int) == (7 : Int)) = true → False) ∧ (((List.getD acts x.fst (Ty.zero ActT)).fst % (8 : Int) == (7 : Int)) = false → False)))) ∧ ∀ (y : Q × Q), SimN (Int.toNat (↑x.fst : Int) + 1) y.fst y.snd → False ∧ False) ∧ (decide ((↑x.fst : Int) < (List.length acts : Int)) = false → K (SV.b ((BV.bool true))) [])))) ∧
 (r.snd.fst ≠ (0 : Int) → List.length (histF l) ≤ 1000000 ∧ ∀ (r_1 : Int × Int × Q), r_1 = foldF applyR (histF l) 0 q0 → (r_1.snd.fst = (0 : Int) → ((bif r.snd.fst != (0 : Int) then true else true) = true → K (SV.b ((BV.bool false))) []) ∧ ((bif r.snd.fst != (0 : Int) then true else true) = false → (∃ (y : Nat × Q × Q), False ∧ y.fst ≤ List.length acts ∧ SimN y.fst y.snd.fst y.snd.snd) ∧ ∀ (x : Nat × Q × Q), x.fst ≤ List.length acts ∧ SimN x.fst x.snd.fst x.snd.snd → (decide ((↑x.fst : Int) < (List.length acts : Int)) = true → ((0 : Int) ≤ (↑x.fst : Int) ∧ (↑x.fst : Int) < (List.length acts : Int)) ∧ (0 : Int) < (8 : Int) ∧ (8 : Int) ≤ (1099511627776 : Int) ∧ (((List.getD acts x.fst (Ty.zero ActT)).fst % (8 : Int) == (0 : Int)) = true → False) ∧ (((List.getD acts x.fst (Ty.zero ActT)).fst % (8 : Int) == (0 : Int)) = false → (((List.getD acts x.fst (Ty.zero ActT)).fst % (8 : Int) == (6 : Int)) = true → False) ∧ (((List.getD acts x.fst (Ty.zero ActT)).fst % (8 : Int) == (6 : Int)) = false → (((List.getD acts x.fst (Ty.zero ActT)).fst % (8 : Int) == (7 : Int)) = true → False) ∧ (((List.getD acts x.fst (Ty.zero ActT)).fst % (8 : Int) == (7 : Int)) = false → False)))) ∧ (decide ((↑x.fst : Int) < (List.length acts : Int)) = false → K (SV.b ((BV.bool true))) []))) ∧ (r_1.snd.fst ≠ (0 : Int) → ((bif r.snd.fst != r_1.snd.fst then true else true) = true → K (SV.b ((BV.bool false))) []) ∧ ((bif r.snd.fst != r_1.snd.fst then true else true) = false → (∃ (y : Nat × Q × Q), (c = c ∧ e = e ∧ i = i ∧ t = t ∧ acts = acts ∧ (List.length acts : Int) = (List.length acts : Int) ∧ (0 : Int) = (↑y.fst : Int) ∧ True) ∧ y.fst ≤ List.length acts ∧ SimN y.fst y.snd.fst y.snd.snd) ∧ ∀ (x : Nat × Q × Q), x.fst ≤ List.length acts ∧ SimN x.fst x.snd.fst x.snd.snd → (decide ((↑x.fst : Int) < (List.length acts : Int)) = true → ((0 : Int) ≤ (↑x.fst : Int) ∧ (↑x.fst : Int) < (List.length acts : Int)) ∧ ((0 : Int) < (8 : Int) ∧ (8 : Int) ≤ (1099511627776 : Int) ∧ (((List.getD acts x.fst (Ty.zero ActT)).fst % (8 : Int) == (0 : Int)) = true → False) ∧ (((List.getD acts x.fst (Ty.zero ActT)).fst % (8 : Int) == (0 : Int)) = false → (((List.getD acts x.fst (Ty.zero ActT)).fst % (8 : Int) == (6 : Int)) = true → False) ∧ (((List.getD acts x.fst (Ty.zero ActT)).fst % (8 : Int) == (6 : Int)) = false → (((List.getD acts x.fst (Ty.zero ActT)).fst % (8 : Int) == (7 : Int)) = true → False) ∧ (((List.getD acts x.fst (Ty.zero ActT)).fst % (8 : Int) == (7 : Int)) = false → False)))) ∧ ∀ (y : Q × Q), SimN (Int.toNat (↑x.fst : Int) + 1) y.fst y.snd → False ∧ False) ∧ (decide ((↑x.fst : Int) < (List.length acts : Int)) = false → K (SV.b ((BV.bool true))) []))))))))
 = fnVC Try.prog (look L13) (N8 acts) Try.f8 [fi l, .t (.one (.fsl 67 ActT acts)), iv c, iv e, iv i, iv t] [] K := by kernel_rfl

end Go.Proofs.Ythjogeodclpafaa.AM
end

section
set_option linter.unusedVariables false
set_option maxRecDepth 100000
namespace Go.Proofs.Ythjogeodclpafaa.AM
open Go Go.Proofs.Ythjogeodclpafaa


theorem sat69 : ∀ vs H K, S69.cps vs H K → Sat Try.prog 69 vs H K := by
  intro vs H K h
  unfold S69 at h
  dsimp only at h
  split at h
  · exact fn_sat (N := {}) hm (look_nil _) Try.func69 (Eq.mp (nf69 _ _) h)
  · exact h.elim
theorem sat70 : ∀ vs H K, S70.cps vs H K → Sat Try.prog 70 vs H K := by
  intro vs H K h
  unfold S70 at h
  dsimp only at h
  split at h
  · exact fn_sat (N := {}) hm (look_nil _) Try.func70 (Eq.mp (nf70 _ _) h)
  · exact h.elim
theorem sat60 : ∀ vs H K, S60.cps vs H K → Sat Try.prog 60 vs H K := by
  intro vs H K h
  unfold S60 at h
  dsimp only at h
  split at h
  · exact fn_sat (N := {}) hm (look_nil _) Try.func60 (Eq.mp (nf60 (_, _) _ _) h)
  · exact h.elim
theorem sat62 : ∀ vs H K, S62.cps vs H K → Sat Try.prog 62 vs H K := by
  intro vs H K h
  unfold S62 at h
  dsimp only at h
  split at h
  · exact fn_sat (N := {}) hm (look_nil _) Try.func62 (Eq.mp (nf62 (_, _, _, _) _ _) h)
  · exact h.elim

theorem tab1 : TabOK Try.prog (look L1) := by
  unfold L1
  exact look_cons (look_cons (look_cons (look_cons (look_nil _) sat62) sat60) sat70) sat69

/-- Which changes are valid. -/
theorem valid_sat (x : Ch) (K : SV → List AObj → Prop) (hK : K (bv (validC x)) []) : Sat Try.prog 58 [cv x] [] K := by
  refine fn_sat (N := {}) hm tab1 Try.func58 (Eq.mp (nf58 x K) ?_)
  unfold validC at hK
  refine ⟨fun h => ?_, fun h => ?_⟩
  · rw [h] at hK; exact hK
  · rw [h, Bool.not_false, Bool.true_and] at hK
    refine ⟨fun h1 => ?_, fun h1 => ⟨fun h2 => ?_, fun h2 => ⟨fun h3 => ?_, fun h3 => ⟨fun h4 => ?_, fun h4 => ?_⟩⟩⟩⟩
    · rw [if_pos (eq_of_beq h1)] at hK
      refine ⟨fun q => ?_, fun q => ?_⟩
      · have q : keyB x.2.2.2.2.2.2.1 = true := q
        rw [q, Bool.true_and] at hK; exact hK
      · have q : keyB x.2.2.2.2.2.2.1 = false := q
        rw [q] at hK; exact hK
    · rw [if_neg (ne_of_beq_false h1), if_pos (eq_of_beq h2)] at hK
      exact hK
    · rw [if_neg (ne_of_beq_false h1), if_neg (ne_of_beq_false h2), if_pos (eq_of_beq h3)] at hK
      refine ⟨fun q => ?_, fun q => ?_⟩
      · have q : emptyB x.2.2.2.2.2.2.1 = true := q
        rw [q, Bool.true_and] at hK; exact hK
      · have q : emptyB x.2.2.2.2.2.2.1 = false := q
        rw [q] at hK; exact hK
    · rw [if_neg (ne_of_beq_false h1), if_neg (ne_of_beq_false h2), if_neg (ne_of_beq_false h3), if_pos (eq_of_beq h4)] at hK
      exact hK
    · rw [if_neg (ne_of_beq_false h1), if_neg (ne_of_beq_false h2), if_neg (ne_of_beq_false h3), if_neg (ne_of_beq_false h4)] at hK
      exact hK

theorem sat58 : ∀ vs H K, S58.cps vs H K → Sat Try.prog 58 vs H K := by
  intro vs H K h
  unfold S58 at h
  dsimp only at h
  split at h
  · rename_i a b c d e f g i
    exact valid_sat (a, b, c, d, e, f, g, i) K h
  · exact h.elim

theorem sat59 : ∀ vs H K, S59.cps vs H K → Sat Try.prog 59 vs H K := by
  intro vs H K h
  unfold S59 at h
  dsimp only at h
  split at h
  · rename_i xs n
    obtain ⟨hl, hK⟩ := h
    unfold lenMax at hl
    refine fn_sat (N := N59 _ _) hm tab1 Try.func59 (Eq.mp (nf59 _ _ _) ?_)
    simp only [true_and, and_true, decide_eq_true_eq, decide_eq_false_iff_not]
    refine ⟨⟨0, rfl, Nat.zero_le _⟩, fun x hx => ⟨fun h => ⟨by omega, by omega, fun h2 => ?_, fun h2 => ?_⟩, fun h => ?_⟩⟩
    · rw [idxE_hit (Ty.zero Item) hx (by omega) h2] at hK
      exact hK
    · exact ⟨x + 1, by rw [wr_eq (by omega) (by omega)]; rfl, fi_succ (Ty.zero Item) _ x hx (by omega) h2, by omega⟩
    · have h9 := Nat.le_trans (show xs.length ≤ x by omega) hx
      rw [idxE_none h9] at hK
      exact hK
  · exact h.elim

theorem sat61 : ∀ vs H K, S61.cps vs H K → Sat Try.prog 61 vs H K := by
  intro vs H K h
  unfold S61 at h
  dsimp only at h
  split at h
  · rename_i xs n
    obtain ⟨hl, hK⟩ := h
    unfold lenMax at hl
    refine fn_sat (N := N59 _ _) hm tab1 Try.func61 (Eq.mp (nf61 _ _ _) ?_)
    simp only [true_and, and_true, decide_eq_true_eq, decide_eq_false_iff_not]
    refine ⟨⟨0, rfl, Nat.zero_le _⟩, fun x hx => ⟨fun h => ⟨by omega, by omega, fun h2 => ?_, fun h2 => ?_⟩, fun h => ?_⟩⟩
    · rw [idxE_hit (Ty.zero Lease) hx (by omega) h2] at hK
      exact hK
    · exact ⟨x + 1, by rw [wr_eq (by omega) (by omega)]; rfl, fi_succ (Ty.zero Lease) _ x hx (by omega) h2, by omega⟩
    · have h9 := Nat.le_trans (show xs.length ≤ x by omega) hx
      rw [idxE_none h9] at hK
      exact hK
  · exact h.elim

theorem sat44 : ∀ vs H K, S44.cps vs H K → Sat Try.prog 44 vs H K := by
  intro vs H K h
  unfold S44 at h
  dsimp only at h
  split at h
  · rename_i i j xs
    obtain ⟨rfl, h0, hi, hl, hK⟩ := h
    suffices main : ∀ (xs : List Tm) (n : Nat), n < xs.length → xs.length ≤ 1099511627776 → K (hv 1) [.dead, tR (xs.take n ++ xs.drop (n + 1))] → Sat Try.prog 44 [hv 0, iv n, iv (n + 1)] [tR xs] K by
      obtain ⟨n, rfl⟩ := Int.eq_ofNat_of_zero_le h0
      exact main xs n (by omega) hl hK
    clear hK hl hi h0
    intro xs n hi hl hK
    refine fn_sat (N := {}) hm tab1 Try.func44 (Eq.mp (nf44 _ _ _) ?_)
    have hn : ((n : Int) + 1).toNat = n + 1 := by omega
    have hd : (List.take (xs.length - (n + 1)) (List.drop (n + 1) xs)).length = xs.length - (n + 1) := by rw [List.length_take, List.length_drop]; omega
    simp only [Int.toNat_natCast, hn, true_and, and_true]
    refine ⟨by omega, by omega, by omega, fun h => (by rw [beq_iff_eq] at h; omega), fun _ => ?_⟩
    have leaf : ∀ js R : List Tm, K (hv 1) [.dead, tR (List.take (n + (List.take (xs.length - (n + 1)) (List.drop (n + 1) xs)).length) (spl (spl (xs ++ js) n (List.take (xs.length - (n + 1)) (List.drop (n + 1) xs))) (n + (List.take (xs.length - (n + 1)) (List.drop (n + 1) xs)).length) R))] := fun js R => by
      rw [del_spl hi]; exact hK
    simp only [hd] at leaf ⊢
    refine ⟨⟨by omega, by omega, by omega, by omega, by omega, by omega, fun js hjs => ⟨by rw [List.length_append]; omega, fun hf => ⟨?_, by omega, ?_, leaf _ _⟩, fun hf => ?_⟩⟩, by omega, by omega, by omega, by omega, by omega, by omega, fun js hjs => ⟨by rw [List.length_append]; omega, fun hf => ⟨?_, by omega, ?_, leaf _ _⟩, fun hf => ?_⟩⟩
    all_goals try simp only [len_spl, List.length_append, List.length_replicate, hd] at *
    all_goals omega
  · exact h.elim

theorem sat46 : ∀ vs H K, S46.cps vs H K → Sat Try.prog 46 vs H K := by
  intro vs H K h
  unfold S46 at h
  dsimp only at h
  split at h
  · rename_i i j xs
    obtain ⟨rfl, h0, hi, hl, hK⟩ := h
    suffices main : ∀ (xs : List Le) (n : Nat), n < xs.length → xs.length ≤ 1099511627776 → K (hv 1) [.dead, lR (xs.take n ++ xs.drop (n + 1))] → Sat Try.prog 46 [hv 0, iv n, iv (n + 1)] [lR xs] K by
      obtain ⟨n, rfl⟩ := Int.eq_ofNat_of_zero_le h0
      exact main xs n (by omega) hl hK
    clear hK hl hi h0
    intro xs n hi hl hK
    refine fn_sat (N := {}) hm tab1 Try.func46 (Eq.mp (nf46 _ _ _) ?_)
    have hn : ((n : Int) + 1).toNat = n + 1 := by omega
    have hd : (List.take (xs.length - (n + 1)) (List.drop (n + 1) xs)).length = xs.length - (n + 1) := by rw [List.length_take, List.length_drop]; omega
    simp only [Int.toNat_natCast, hn, true_and, and_true]
    refine ⟨by omega, by omega, by omega, fun h => (by rw [beq_iff_eq] at h; omega), fun _ => ?_⟩
    have leaf : ∀ js R : List Le, K (hv 1) [.dead, lR (List.take (n + (List.take (xs.length - (n + 1)) (List.drop (n + 1) xs)).length) (spl (spl (xs ++ js) n (List.take (xs.length - (n + 1)) (List.drop (n + 1) xs))) (n + (List.take (xs.length - (n + 1)) (List.drop (n + 1) xs)).length) R))] := fun js R => by
      rw [del_spl hi]; exact hK
    simp only [hd] at leaf ⊢
    refine ⟨⟨by omega, by omega, by omega, by omega, by omega, by omega, fun js hjs => ⟨by rw [List.length_append]; omega, fun hf => ⟨?_, by omega, ?_, leaf _ _⟩, fun hf => ?_⟩⟩, by omega, by omega, by omega, by omega, by omega, by omega, fun js hjs => ⟨by rw [List.length_append]; omega, fun hf => ⟨?_, by omega, ?_, leaf _ _⟩, fun hf => ?_⟩⟩
    all_goals try simp only [len_spl, List.length_append, List.length_replicate, hd] at *
    all_goals omega
  · exact h.elim

theorem sat47 : ∀ vs H K, S47.cps vs H K → Sat Try.prog 47 vs H K := by
  intro vs H K h
  unfold S47 at h
  dsimp only at h
  split at h
  · rename_i xs
    obtain ⟨hl, hK⟩ := h
    suffices main : ∀ xs : List Tm, xs.length ≤ 1099511627776 → K (hv 0) [tR xs] → Sat Try.prog 47 [ft xs] [] K from main xs hl hK
    clear hl hK
    intro xs hl hK
    refine Sat.matted 52 Item (fn_sat (N := {}) hm (look_nil _) Try.func47 (Eq.mp (nf47 _ _) ⟨fun h => ?_, by omega, by omega, ?_⟩))
    · subst h
      refine Eq.mp ?_ hK
      kernel_rfl
    · refine Eq.mp ?_ hK
      kernel_rfl
  · exact h.elim

theorem sat55 : ∀ vs H K, S55.cps vs H K → Sat Try.prog 55 vs H K := by
  intro vs H K h
  unfold S55 at h
  dsimp only at h
  split at h
  · rename_i xs
    obtain ⟨hl, hK⟩ := h
    suffices main : ∀ xs : List Le, xs.length ≤ 1099511627776 → K (hv 0) [lR xs] → Sat Try.prog 55 [fl xs] [] K from main xs hl hK
    clear hl hK
    intro xs hl hK
    refine Sat.matted 54 Lease (fn_sat (N := {}) hm (look_nil _) Try.func55 (Eq.mp (nf55 _ _) ⟨fun h => ?_, by omega, by omega, ?_⟩))
    · subst h
      refine Eq.mp ?_ hK
      kernel_rfl
    · refine Eq.mp ?_ hK
      kernel_rfl
  · exact h.elim

theorem tab2 : TabOK Try.prog (look L2) := by
  unfold L2
  exact look_cons (look_cons (look_cons (look_cons (look_cons (look_cons (look_cons tab1 sat55) sat47) sat46) sat44) sat61) sat59) sat58
end Go.Proofs.Ythjogeodclpafaa.AM
end

section
set_option linter.unusedVariables false
set_option maxRecDepth 100000
namespace Go.Proofs.Ythjogeodclpafaa.AM
open Go Go.Proofs.Ythjogeodclpafaa

theorem sat43 : ∀ vs H K, S43.cps vs H K → Sat Try.prog 43 vs H K := by
  intro vs H K h
  unfold S43 at h
  dsimp only at h
  split at h
  · exact fn_sat (N := {}) hm tab2 Try.func43 (Eq.mp (nf43 _ _ _ _ _) h)
  · exact h.elim
theorem sat45 : ∀ vs H K, S45.cps vs H K → Sat Try.prog 45 vs H K := by
  intro vs H K h
  unfold S45 at h
  dsimp only at h
  split at h
  · exact fn_sat (N := {}) hm tab2 Try.func45 (Eq.mp (nf45 _ _ _ _ _) h)
  · exact h.elim
theorem tab3 : TabOK Try.prog (look L3) := look_cons (look_cons tab2 sat45) sat43

theorem sat12 : ∀ vs H K, S12.cps vs H K → Sat Try.prog 12 vs H K := by
  intro vs H K h
  unfold S12 at h
  dsimp only at h
  split at h
  · exact fn_sat (N := {}) hm (look_nil _) Try.func12 (Eq.mp (nf12 _) h)
  · exact h.elim
theorem sat14 : ∀ vs H K, S14.cps vs H K → Sat Try.prog 14 vs H K := by
  intro vs H K h
  unfold S14 at h
  dsimp only at h
  split at h
  · exact fn_sat (N := {}) hm (look_nil _) Try.func14 (Eq.mp (nf14 _ _ _) h)
  · exact h.elim
theorem sat15 : ∀ vs H K, S15.cps vs H K → Sat Try.prog 15 vs H K := by
  intro vs H K h
  unfold S15 at h
  dsimp only at h
  split at h
  · exact fn_sat (N := {}) hm (look_nil _) Try.func15 (Eq.mp (nf15 _ _ _) h)
  · exact h.elim
theorem sat16 : ∀ vs H K, S16.cps vs H K → Sat Try.prog 16 vs H K := by
  intro vs H K h
  unfold S16 at h
  dsimp only at h
  split at h
  · exact fn_sat (N := {}) hm tab2 Try.func16 (Eq.mp (nf16 _ _ _ _) h)
  · exact h.elim

theorem check_sat (p : Int) (xs : List Tm) (ls : List Le) (x : Ch) (K : SV → List AObj → Prop) (hl : xs.length ≤ lenMax) (hK : K (iv (checkQ (xs, ls, p) x)) [qC 1 2 p, tR xs, lR ls]) : Sat Try.prog 42 [pv 0, cv x] [qC 1 2 p, tR xs, lR ls] K := by
  refine fn_sat (N := {}) hm tab3 Try.func42 (Eq.mp (nf42 p xs ls x K) ?_)
  unfold checkQ at hK
  dsimp only at hK
  have e : validC (x.1, x.2.1, x.2.2.1, x.2.2.2.1, x.2.2.2.2.1, x.2.2.2.2.2.1, x.2.2.2.2.2.2.1, x.2.2.2.2.2.2.2) = validC x := rfl
  rw [e]
  simp only [Bool.not_eq_true', Bool.not_eq_false', Bool.and_eq_true, Bool.and_eq_false_imp, beq_iff_eq, beq_eq_false_iff_ne, decide_eq_true_eq, decide_eq_false_iff_not]
  refine ⟨fun h => ?_, fun h => ⟨fun h1 => ?_, fun h1 => ⟨fun h2 => ?_, fun h2 => ⟨fun h4 => ⟨hl, fun h3 => ?_, fun h3 => ?_⟩, fun h4 => ?_⟩⟩⟩⟩
  · rw [if_pos h] at hK; exact hK
  · rw [if_neg (by rw [h]; simp), if_pos h1] at hK; exact hK
  · rw [if_neg (by rw [h]; simp), if_neg (fun q => h1 q.1 q.2), if_pos ⟨h2.1, by omega⟩] at hK; exact hK
  · rw [if_neg (by rw [h]; simp), if_neg (fun q => h1 q.1 q.2), if_neg (fun q => h2 q.1 (by omega)), if_pos ⟨h4, h3⟩] at hK; exact hK
  · rw [if_neg (by rw [h]; simp), if_neg (fun q => h1 q.1 q.2), if_neg (fun q => h2 q.1 (by omega)), if_neg (fun q => h3 q.2)] at hK; exact hK
  · rw [if_neg (by rw [h]; simp), if_neg (fun q => h1 q.1 q.2), if_neg (fun q => h2 q.1 (by omega)), if_neg (fun q => h4 q.1)] at hK; exact hK

theorem sat42 : ∀ vs H K, S42.cps vs H K → Sat Try.prog 42 vs H K := by
  intro vs H K h
  unfold S42 at h
  dsimp only at h
  split at h
  · rename_i a b c d e f g i p xs ls
    exact check_sat p xs ls (a, b, c, d, e, f, g, i) K h.1 h.2
  · exact h.elim
theorem tab4 : TabOK Try.prog (look L4) := look_cons tab3 sat42
end Go.Proofs.Ythjogeodclpafaa.AM
end

section
set_option linter.unusedVariables false
set_option maxRecDepth 100000
namespace Go.Proofs.Ythjogeodclpafaa.AM
open Go Go.Proofs.Ythjogeodclpafaa

theorem idxE_lq {α : Type} (p : α → Bool) (ws : List α) : -1 ≤ idxE p ws ∧ idxE p ws < ws.length := by
  unfold idxE
  split
  · rename_i h
    obtain ⟨a, ha, hp⟩ := List.any_eq_true.1 h
    have := List.findIdx_lt_length_of_exists ⟨a, ha, hp⟩
    omega
  · omega

theorem apply_sat (p : Int) (xs : List Tm) (ls : List Le) (x : Ch) (K : SV → List AObj → Prop) (hl : xs.length ≤ lenMax) (hl2 : ls.length ≤ lenMax)
    (hK : K (iv (applyQ (xs, ls, p) x).1) [qC 3 4 (applyQ (xs, ls, p) x).2.2.2, .dead, .dead, tR (applyQ (xs, ls, p) x).2.1, lR (applyQ (xs, ls, p) x).2.2.1]) : Sat Try.prog 13 [pv 0, cv x] [qC 1 2 p, tR xs, lR ls] K := by
  refine Sat.settled [1, 2] (fn_sat (N := {}) hm tab4 Try.func13 (Eq.mp (nf13 p xs ls x _) ?_))
  have e : checkQ (xs, ls, p) (x.1, x.2.1, x.2.2.1, x.2.2.2.1, x.2.2.2.2.1, x.2.2.2.2.2.1, x.2.2.2.2.2.2.1, x.2.2.2.2.2.2.2) = checkQ (xs, ls, p) x := rfl
  rw [e]
  have h1 := idxE_lq (fun w : Tm => w.1 == x.2.2.2.2.2.1) xs
  have h2 := idxE_lq (fun w : Le => w.1 == x.2.2.2.2.2.1) ls
  have h1 : -1 ≤ atQ xs x.2.2.2.2.2.1 ∧ atQ xs x.2.2.2.2.2.1 < xs.length := h1
  have h2 : -1 ≤ leaseQ ls x.2.2.2.2.2.1 ∧ leaseQ ls x.2.2.2.2.2.1 < ls.length := h2
  have hc4 : checkQ (xs, ls, p) x = 0 → x.2.2.1 = 4 → ¬ atQ xs x.2.2.2.2.2.1 < 0 := by
    intro h h4 hlt
    unfold checkQ at h
    split at h
    · cases h
    · split at h
      · cases h
      · split at h
        · cases h
        · rw [if_pos ⟨h4, hlt⟩] at h; cases h
  unfold lenMax at hl hl2
  simp only [beq_iff_eq, bne_iff_ne, ne_eq, beq_eq_false_iff_ne, bne_eq_false_iff_eq, decide_eq_true_eq, decide_eq_false_iff_not, List.length_singleton]
  unfold applyQ at hK
  refine ⟨hl, fun h => ?_, fun h => ⟨fun h3 => ⟨by omega, by omega, ?_⟩, fun h3 => ⟨fun h4 => ⟨hl, ?_, ?_, h1.2, hl, hl2, fun h5 => ⟨?_, h5, h2.2, hl2, ?_⟩, fun h5 => ?_⟩, fun h4 => ?_⟩⟩⟩
  · rw [if_pos h] at hK
    refine Eq.mp ?_ hK
    kernel_rfl
  · rw [if_neg (fun q => q h), if_pos h3] at hK
    refine Eq.mp ?_ hK
    kernel_rfl
  · exact wr_eq (by omega) (by omega)
  · have := hc4 h h4; omega
  · exact wr_eq (by omega) (by omega)
  · rw [if_neg (fun q => q h), if_neg h3, if_pos h4] at hK
    have h6 := hc4 h h4
    unfold dropAt at hK
    dsimp only at hK
    rw [if_neg h6, if_neg (by omega)] at hK
    refine Eq.mp ?_ hK
    kernel_rfl
  · rw [if_neg (fun q => q h), if_neg h3, if_pos h4] at hK
    have h6 := hc4 h h4
    unfold dropAt at hK
    dsimp only at hK
    rw [if_neg h6, if_pos (by omega)] at hK
    refine Eq.mp ?_ hK
    kernel_rfl
  · rw [if_neg (fun q => q h), if_neg h3, if_neg h4] at hK
    refine Eq.mp ?_ hK
    kernel_rfl

theorem sat13 : ∀ vs H K, S13.cps vs H K → Sat Try.prog 13 vs H K := by
  intro vs H K h
  unfold S13 at h
  dsimp only at h
  split at h
  · rename_i a b c d e f g i p xs ls
    exact apply_sat p xs ls (a, b, c, d, e, f, g, i) K h.1 h.2.1 h.2.2
  · exact h.elim
theorem tab5 : TabOK Try.prog (look L5) := look_cons (look_cons (look_cons (look_cons (look_cons tab4 sat16) sat15) sat14) sat12) sat13
end Go.Proofs.Ythjogeodclpafaa.AM
end

section
set_option linter.unusedVariables false
set_option maxRecDepth 100000
namespace Go.Proofs.Ythjogeodclpafaa.AM
open Go Go.Proofs.Ythjogeodclpafaa

theorem over76 : OverP Try.prog 76 := ⟨Try.f76, 47, 54, 4, by kernel_rfl, by kernel_rfl, by kernel_rfl, by kernel_rfl, by kernel_rfl, by kernel_rfl, by kernel_rfl⟩

theorem insert_vc (ws : List Lease.D) (v : Lease.D) (i : Nat) (K : SV → List AObj → Prop) (hi : i ≤ ws.length) (hl : ws.length ≤ 1099511627776)
    (hK : K (hv 2) [.dead, lR [v], lR (ws.take i ++ [v] ++ ws.drop i)]) :
    fnVC Try.prog (look []) {} Try.f65 [hv 0, iv i, hv 1] [lR ws, lR [v]] (fun r H => K r (killN [0] H)) := by
  rw [← nf65]
  have w1 : wr ((ws.length : Int) + 1) = ((ws.length + 1 : Nat) : Int) := by rw [wr_eq (by omega) (by omega)]; rfl
  have w2 : wr ((i : Int) + 1) = ((i + 1 : Nat) : Int) := by rw [wr_eq (by omega) (by omega)]; rfl
  have w3 : wr (((ws.length + 1 : Nat) : Int) - (i : Int)) = ((ws.length + 1 - i : Nat) : Int) := by rw [wr_eq (by omega) (by omega)]; omega
  simp only [List.length_singleton, Int.cast_ofNat_Int, w1, w2, w3, Int.toNat_natCast, List.length_append, List.length_replicate, killN, List.set, List.length_take, List.length_drop, len_spl, decide_eq_true_eq, decide_eq_false_iff_not, beq_iff_eq, beq_eq_false_iff_ne]
  repeat' (first | apply And.intro | intro _)
  all_goals try omega
  all_goals try (exfalso; omega)
  all_goals try exact trivial
  all_goals try exact over76
  all_goals refine Eq.mp (congrArg (fun l => K (hv 2) [.dead, lR [v], lR l]) ?_) hK
  · have : i = ws.length := by omega
    subst this; simp
  · exact (ins_new (zs := [v]) hi (by simp; omega) (by rw [List.take_append_of_le_length (by simp; omega), List.take_take, Nat.min_self, List.take_append_of_le_length hi]) (List.take_of_length_le (by simp; omega)) (tail_get (Nat.le_refl _) hi _ (by omega))).symm
  · rw [show ws.length + 1 - i = ws.length - i + 1 by omega, List.take_of_length_le (l := [v]) (by simp)]
    exact (ins_room (zs := [v]) hi (by simp; omega) (by simp) (tail_get (by omega) hi _ (by omega))).symm
  · rw [show ws.length + 1 - i = ws.length - i + 1 by omega, List.take_of_length_le (l := [v]) (by simp)]
    exact (ins_room (zs := [v]) hi (by simp; omega) (by simp) (tail_get (by omega) hi _ (by omega))).symm

theorem sat65 : ∀ vs H K, S65.cps vs H K → Sat Try.prog 65 vs H K := by
  intro vs H K h
  unfold S65 at h
  dsimp only at h
  split at h
  · rename_i i ws v
    obtain ⟨h0, hi, hl, hK⟩ := h
    obtain ⟨k, rfl⟩ := Int.eq_ofNat_of_zero_le h0
    exact Sat.killed [0] (fn_sat (N := {}) hm (look_nil _) Try.func65 (insert_vc ws v k K hi hl hK))
  · exact h.elim

theorem sat50 : ∀ vs H K, S50.cps vs H K → Sat Try.prog 50 vs H K := by
  intro vs H K h
  unfold S50 at h
  dsimp only at h
  split at h
  · exact fn_sat (N := {}) hm (look_nil _) Try.func50 (Eq.mp (nf50 (_, _, _, _) _ _ _) h)
  · exact h.elim
theorem tab6 : TabOK Try.prog (look L6) := look_cons (look_cons tab5 sat65) sat50
end Go.Proofs.Ythjogeodclpafaa.AM
end

section
set_option linter.unusedVariables false
set_option maxRecDepth 100000
namespace Go.Proofs.Ythjogeodclpafaa.AM
open Go Go.Proofs.Ythjogeodclpafaa

theorem posL_le (ls : List Le) (n : Int) : posL ls n ≤ ls.length := tw_le _ _

theorem give_sat (p : Int) (xs : List Tm) (ls : List Le) (l : Le) (K : SV → List AObj → Prop) (hl : ls.length ≤ lenMax) (hK : K (.tup []) [qC 1 3 p, tR xs, .dead, lR (giveQ ls l)]) : Sat Try.prog 51 [pv 0, lv l] [qC 1 2 p, tR xs, lR ls] K := by
  refine Sat.settled [2] (fn_sat (N := N51 ls l.1) hm tab6 Try.func51 (Eq.mp (nf51 p xs ls l _) ?_))
  have h1 := idxE_lq (fun w : Le => w.1 == l.1) ls
  have h1 : -1 ≤ leaseQ ls l.1 ∧ leaseQ ls l.1 < ls.length := h1
  have hp := posL_le ls l.1
  have hl' := hl
  unfold lenMax at hl'
  unfold giveQ at hK
  simp only [true_and, and_true, decide_eq_true_eq, decide_eq_false_iff_not, sgnB, Bool.and_eq_true, Bool.and_eq_false_imp]
  refine ⟨hl, fun h => ⟨⟨h, h1.2⟩, by omega, ?_⟩, fun h => ⟨⟨0, rfl, Nat.zero_le _⟩, fun x hx => ⟨fun q => by omega, fun q => (by show x < ls.length; omega), fun q => ?_, fun q => ⟨by omega, by omega, hl, ?_⟩⟩⟩⟩
  · rw [if_pos h] at hK
    refine Eq.mp ?_ hK
    kernel_rfl
  · have hlt : x < ls.length := by omega
    have := tw_succ (p := fun y : Le => decide (y.1 < l.1)) (Ty.zero Lease) ls x hx hlt (decide_eq_true q.2)
    exact ⟨x + 1, by rw [wr_eq (by omega) (by omega)]; rfl, this, by omega⟩
  · rw [if_neg h] at hK
    have hx2 : x = posL ls l.1 := tw_stop (p := fun y : Le => decide (y.1 < l.1)) (Ty.zero Lease) ls x hx fun hlt => decide_eq_false (q (by omega))
    rw [← hx2] at hK
    refine Eq.mp ?_ hK
    kernel_rfl

theorem sat51 : ∀ vs H K, S51.cps vs H K → Sat Try.prog 51 vs H K := by
  intro vs H K h
  unfold S51 at h
  dsimp only at h
  split at h
  · rename_i a b c d p xs ls
    exact give_sat p xs ls (a, b, c, d) K h.1 h.2
  · exact h.elim
theorem tab7 : TabOK Try.prog (look L7) := look_cons tab6 sat51
end Go.Proofs.Ythjogeodclpafaa.AM
end

section
set_option linter.unusedVariables false
set_option maxRecDepth 100000
namespace Go.Proofs.Ythjogeodclpafaa.AM
open Go Go.Proofs.Ythjogeodclpafaa

theorem find_at {α : Type} {p : α → Bool} (z : α) : ∀ (l : List α) (x : Nat), x ≤ l.findIdx p → x < l.length → p (l.getD x z) = true → l.find? p = some (l.getD x z)
  | [], x, _, h, _ => by simp at h
  | a :: l, 0, _, _, h => by
    have : p a = true := by simpa using h
    simp [this]
  | a :: l, x + 1, h0, h1, h2 => by
    rw [List.findIdx_cons] at h0
    cases q : p a with
    | true => rw [q] at h0; simp at h0
    | false =>
      rw [q] at h0
      have := find_at z l x (by simpa using h0) (by simpa using h1) (by simpa using h2)
      simp only [List.find?_cons, q]
      rw [this]; simp

theorem find_end {α : Type} {p : α → Bool} (l : List α) (h : l.length ≤ l.findIdx p) : l.find? p = none := by
  have := fi_end l h
  rw [List.any_eq_false] at this
  rw [List.find?_eq_none]; exact this

theorem take_sat (p c e t h : Int) (xs : List Tm) (ls : List Le) (K : SV → List AObj → Prop) (hl1 : xs.length ≤ lenMax) (hl2 : ls.length ≤ lenMax)
    (hK : K (tkV (takeQ (xs, ls, p) c e t h).1) [qC 1 3 p, tR xs, .dead, lR (takeQ (xs, ls, p) c e t h).2.2.1]) : Sat Try.prog 23 [pv 0, iv c, iv e, iv t, iv h] [qC 1 2 p, tR xs, lR ls] K := by
  refine Sat.settled [2] (fn_sat (N := N23 xs ls e t) hm tab7 Try.func23 (Eq.mp (nf23 p c e t h xs ls _) ?_))
  unfold takeQ at hK
  have hl1' := hl1
  have hl2' := hl2
  unfold lenMax at hl1' hl2'
  refine ⟨fun q => ?_, fun q => ?_⟩
  · rw [if_pos (show badT c e t h = true from q)] at hK
    refine Eq.mp ?_ hK
    kernel_rfl
  · have q' : badT c e t h = false := q
    rw [if_neg (by rw [q']; simp)] at hK
    have hw : wr (t + h) = t + h := by
      unfold badT at q'
      simp only [Bool.or_eq_false_iff, decide_eq_false_iff_not] at q'
      exact wr_eq (by omega) (by omega)
    simp only [true_and, and_true]
    refine ⟨⟨0, rfl, Nat.zero_le _⟩, fun x hx => ⟨fun q2 => ?_, fun q2 => ?_⟩⟩
    · have hx' : x < xs.length := by simp only [decide_eq_true_eq] at q2; omega
      have ex : wr ((x : Int) + 1) = ((x + 1 : Nat) : Int) := by rw [wr_eq (by omega) (by omega)]; rfl
      refine ⟨by omega, hx', ⟨0, rfl, Nat.zero_le _⟩, fun k hk => ⟨fun q3 => ?_, fun q3 => ?_⟩⟩
      · have hk' : k < ls.length := by simp only [decide_eq_true_eq] at q3; omega
        have ek : wr ((k : Int) + 1) = ((k + 1 : Nat) : Int) := by rw [wr_eq (by omega) (by omega)]; rfl
        refine ⟨by omega, hk', fun q4 => ⟨fun q5 => ?_, fun q5 => ?_⟩, fun q4 => ?_⟩
        · have hit : hitL e t (xs.getD x (Ty.zero Item)).1 (ls.getD k (Ty.zero Lease)) = true := by unfold hitL; rw [q4]; exact q5
          have hf : freeQ ls e t (xs.getD x (Ty.zero Item)) = false := by
            unfold freeQ
            rw [List.any_eq_true.2 ⟨_, getD_mem _ hk', hit⟩]; rfl
          exact ⟨x + 1, ex, fi_succ (Ty.zero Item) _ x hx hx' hf, by omega⟩
        · have hit : hitL e t (xs.getD x (Ty.zero Item)).1 (ls.getD k (Ty.zero Lease)) = false := by unfold hitL; rw [q4]; exact q5
          exact ⟨k + 1, ek, fi_succ (Ty.zero Lease) _ k hk hk' hit, by omega⟩
        · have q6 : ((ls.getD k (Ty.zero Lease)).1 == (xs.getD x (Ty.zero Item)).1) = false := q4
          have hit : hitL e t (xs.getD x (Ty.zero Item)).1 (ls.getD k (Ty.zero Lease)) = false := by unfold hitL; rw [q6]; rfl
          exact ⟨k + 1, ek, fi_succ (Ty.zero Lease) _ k hk hk' hit, by omega⟩
      · have hk' : ls.length ≤ k := by simp only [decide_eq_false_iff_not] at q3; omega
        have hf : freeQ ls e t (xs.getD x (Ty.zero Item)) = true := by
          unfold freeQ
          rw [fi_end ls (Nat.le_trans hk' hk)]; rfl
        have hfind := find_at (p := freeQ ls e t) (Ty.zero Item) xs x hx hx' hf
        dsimp only at hK
        rw [hfind] at hK
        refine ⟨hl2, ?_⟩
        rw [hw]
        refine Eq.mp ?_ hK
        kernel_rfl
    · have hx' : xs.length ≤ x := by simp only [decide_eq_false_iff_not] at q2; omega
      have hfind := find_end (p := freeQ ls e t) xs (Nat.le_trans hx' hx)
      dsimp only at hK
      rw [hfind] at hK
      refine Eq.mp ?_ hK
      kernel_rfl

theorem sat23 : ∀ vs H K, S23.cps vs H K → Sat Try.prog 23 vs H K := by
  intro vs H K h
  unfold S23 at h
  dsimp only at h
  split at h
  · exact take_sat _ _ _ _ _ _ _ K h.1 h.2.1 h.2.2
  · exact h.elim
theorem tab8 : TabOK Try.prog (look L8) := look_cons tab7 sat23
end Go.Proofs.Ythjogeodclpafaa.AM
end

section
set_option linter.unusedVariables false
set_option linter.unusedSimpArgs false
set_option maxRecDepth 100000
namespace Go.Proofs.Ythjogeodclpafaa.AM
open Go Go.Proofs.Ythjogeodclpafaa

theorem tabd : TabOK Try.prog (look Ld) := look_cons tab8 (fun _ _ _ h => h.elim)

theorem sat10 : ∀ vs H K, S10.cps vs H K → Sat Try.prog 10 vs H K := by
  intro vs H K h
  unfold S10 at h
  dsimp only at h
  split at h
  · refine fn_sat (N := {}) hm tabd Try.func10 (Eq.mp (nf10 _) ?_)
    unfold lenMax
    exact ⟨by omega, by omega, by omega, by omega, by omega, by omega, by omega, by omega, by omega, by omega, by omega, by omega, h⟩
  · exact h.elim

theorem sat11 : ∀ vs H K, S11.cps vs H K → Sat Try.prog 11 vs H K := by
  intro vs H K h
  unfold S11 at h
  dsimp only at h
  split at h
  · rename_i a b
    obtain ⟨h1, h2, hK⟩ := h
    refine fn_sat (N := {}) hm (look_nil _) Try.func11 ?_
    rw [← nf11]
    have e1 := Int.tmod_add_mul_tdiv a b
    have hb : b ≠ 0 := by omega
    have key : a % b = if a.tmod b < 0 then a.tmod b + b else a.tmod b := by
      rw [Int.tmod_eq_emod]
      have h3 := Int.emod_nonneg a hb
      have h4 := Int.emod_lt_of_pos a h1
      split <;> split <;> omega
    refine ⟨hb, fun h3 => ?_, fun h3 => ?_⟩
    · simp only [decide_eq_true_eq] at h3
      rw [if_pos h3] at key
      have h4 := Int.emod_nonneg a hb
      have h5 := Int.emod_lt_of_pos a h1
      rw [show wr (Int.tmod a b + b) = a % b by rw [← key]; exact wr_eq (by omega) (by omega)]
      exact hK
    · simp only [decide_eq_false_iff_not] at h3
      rw [if_neg h3] at key
      rw [← key]; exact hK
  · exact h.elim

theorem sat13n : ∀ vs H K, S13n.cps vs H K → Sat Try.prog 13 vs H K := by
  intro vs H K h
  unfold S13n at h
  dsimp only at h
  split at h
  · exact sat13 _ _ _ ⟨h.1, h.2.1, h.2.2 _ rfl⟩
  · exact h.elim
theorem sat23n : ∀ vs H K, S23n.cps vs H K → Sat Try.prog 23 vs H K := by
  intro vs H K h
  unfold S23n at h
  dsimp only at h
  split at h
  · exact sat23 _ _ _ ⟨h.1, h.2.1, h.2.2 _ rfl⟩
  · exact h.elim
theorem tab9 : TabOK Try.prog (look L9) := look_cons (look_cons (look_cons (look_cons tab8 sat23n) sat13n) sat11) sat10

theorem empty_nil : emptyB ⟨#[]⟩ = true := beq_self_eq_true _

theorem valid_push {n : Int} {v : ByteArray} (h1 : 1 ≤ n) (h2 : n ≤ 4096) (hv : v.size ≤ 64) : validC (1, n, 3, 1, n, 0, ⟨#[]⟩, v) = true := by
  have e : valueB v = true := decide_eq_true (by omega)
  have d1 : decide (n < 1) = false := decide_eq_false (by omega)
  have d2 : decide (n > 4096) = false := decide_eq_false (by omega)
  have d3 : decide (n > 1048576) = false := decide_eq_false (by omega)
  simp [validC, e, d1, d2, d3, empty_nil]

theorem valid_done {n m : Int} (h1 : 1 ≤ n) (h2 : n ≤ 4096) (h3 : 1 ≤ m) (h4 : m < n) : validC (1, n, 4, 1, n, m, ⟨#[]⟩, ⟨#[]⟩) = true := by
  have d1 : decide (n < 1) = false := decide_eq_false (by omega)
  have d2 : decide (n > 4096) = false := decide_eq_false (by omega)
  have d3 : decide (n > 1048576) = false := decide_eq_false (by omega)
  simp [validC, d1, d2, d3, empty_nil, h3, h4]

theorem push_ok {q : Q} {n : Int} {v : ByteArray} (h1 : 1 ≤ n) (h2 : n ≤ 4096) (hv : v.size ≤ 64) (hp : q.2.2 < n) (hl : q.1.length < 16) : applyQ q (1, n, 3, 1, n, 0, ⟨#[]⟩, v) = (0, (q.1 ++ [(n, v)], q.2.1, n)) := by
  have hc : checkQ q (1, n, 3, 1, n, 0, ⟨#[]⟩, v) = 0 := by
    unfold checkQ
    rw [if_neg (by rw [valid_push h1 h2 hv]; simp), if_neg (by simp; omega), if_neg (by simp; omega), if_neg (by simp)]
  unfold applyQ
  rw [if_neg (by rw [hc]; simp), if_pos rfl]

theorem push_full {q : Q} {n : Int} {v : ByteArray} (h1 : 1 ≤ n) (h2 : n ≤ 4096) (hv : v.size ≤ 64) (hp : q.2.2 < n) (hl : 16 ≤ q.1.length) : applyQ q (1, n, 3, 1, n, 0, ⟨#[]⟩, v) = (33, q) := by
  have hc : checkQ q (1, n, 3, 1, n, 0, ⟨#[]⟩, v) = 33 := by
    unfold checkQ
    rw [if_neg (by rw [valid_push h1 h2 hv]; simp), if_neg (by simp; omega), if_pos (by simp; omega)]
  unfold applyQ
  rw [if_pos (by rw [hc]; simp), hc]

theorem push_gap {q : Q} {n : Int} {v : ByteArray} (h1 : 1 ≤ n) (h2 : n ≤ 4096) (hv : v.size ≤ 64) (hp : n ≤ q.2.2) : applyQ q (1, n, 3, 1, n, 0, ⟨#[]⟩, v) = (36, q) := by
  have hc : checkQ q (1, n, 3, 1, n, 0, ⟨#[]⟩, v) = 36 := by
    unfold checkQ
    rw [if_neg (by rw [valid_push h1 h2 hv]; simp), if_pos ⟨rfl, hp⟩]
  unfold applyQ
  rw [if_pos (by rw [hc]; simp), hc]

theorem done_ok {q : Q} {n m : Int} (h1 : 1 ≤ n) (h2 : n ≤ 4096) (h3 : 1 ≤ m) (h4 : m < n) (ha : 0 ≤ atQ q.1 m) : applyQ q (1, n, 4, 1, n, m, ⟨#[]⟩, ⟨#[]⟩) = (0, (dropAt q.1 (atQ q.1 m), dropAt q.2.1 (leaseQ q.2.1 m), q.2.2)) := by
  have hc : checkQ q (1, n, 4, 1, n, m, ⟨#[]⟩, ⟨#[]⟩) = 0 := by
    unfold checkQ
    rw [if_neg (by rw [valid_done h1 h2 h3 h4]; simp), if_neg (by simp), if_neg (by simp), if_neg (by simp; omega)]
  unfold applyQ
  rw [if_neg (by rw [hc]; simp), if_neg (by simp), if_pos rfl]

theorem done_none {q : Q} {n m : Int} (h1 : 1 ≤ n) (h2 : n ≤ 4096) (h3 : 1 ≤ m) (h4 : m < n) (ha : atQ q.1 m < 0) : applyQ q (1, n, 4, 1, n, m, ⟨#[]⟩, ⟨#[]⟩) = (34, q) := by
  have hc : checkQ q (1, n, 4, 1, n, m, ⟨#[]⟩, ⟨#[]⟩) = 34 := by
    unfold checkQ
    rw [if_neg (by rw [valid_done h1 h2 h3 h4]; simp), if_neg (by simp), if_neg (by simp), if_pos ⟨rfl, ha⟩]
  unfold applyQ
  rw [if_pos (by rw [hc]; simp), hc]

theorem room_succ (m : Int) (v : ByteArray) (k : Nat) : roomX m v k ++ [(m + ((k : Int) + 1), v)] = roomX m v (k + 1) := by
  unfold roomX
  rw [List.range_succ, List.map_append]; rfl

theorem room_len (m : Int) (v : ByteArray) (k : Nat) : (roomX m v k).length = k := by simp [roomX]

theorem room16 (m : Int) (v : ByteArray) : roomX m v 16 = [(m + 1, v), (m + 2, v), (m + 3, v), (m + 4, v), (m + 5, v), (m + 6, v), (m + 7, v), (m + 8, v), (m + 9, v), (m + 10, v), (m + 11, v), (m + 12, v), (m + 13, v), (m + 14, v), (m + 15, v), (m + 16, v)] := by
  simp [roomX, List.range, List.range.loop]

theorem room_at (m : Int) (v : ByteArray) : atQ (roomX m v 16) (m + 2) = 1 := by
  rw [room16]
  have e1 : (m + 1 == m + 2) = false := by rw [beq_eq_false_iff_ne]; omega
  simp [atQ, idxE, List.findIdx_cons, e1]

theorem room_gone (m : Int) (v : ByteArray) : atQ (dropAt (roomX m v 16) 1) (m + 2) = -1 := by
  rw [room16]
  have ne : ∀ k : Int, k ≠ 2 → (m + k == m + 2) = false := fun k hk => by rw [beq_eq_false_iff_ne]; omega
  simp [atQ, idxE, dropAt, ne]

theorem room_sat (s : Int) (v : ByteArray) (K : SV → List AObj → Prop) (hK : K (bv true) []) : Sat Try.prog 3 [iv s, sv v] [] K := by
  refine fn_sat (N := N3 (s % 1000) v) hm tab9 Try.func3 (Eq.mp (nf3 s v K) ?_)
  have h1 := Int.emod_nonneg s (b := 1000) (by omega)
  have h2 := Int.emod_lt_of_pos s (b := 1000) (by omega)
  generalize s % 1000 = m at h1 h2 ⊢
  refine ⟨fun h => (by cases h), fun _ => ⟨fun _ => hK, fun hv => ⟨by omega, by omega, ⟨0, ⟨rfl, rfl, rfl, rfl, rfl, rfl, trivial⟩, by omega⟩, fun x hx => ⟨fun hlt => ?_, fun hge => ?_⟩⟩⟩⟩
  · have hv : v.size ≤ 64 := by simp only [decide_eq_false_iff_not] at hv; omega
    simp only [decide_eq_true_eq] at hlt
    have e1 : wr (m + ((x : Int) + 1)) = m + ((x : Int) + 1) := wr_eq (by omega) (by omega)
    have e2 : wr ((x : Int) + 1 + 1) = ((x + 1 : Nat) : Int) + 1 := by rw [wr_eq (by omega) (by omega)]; omega
    rw [e1, e2]
    refine ⟨by rw [room_len]; unfold lenMax; omega, by omega, fun r hr => ?_⟩
    have hp : roomP m x < m + ((x : Int) + 1) := by unfold roomP; split <;> omega
    rw [push_ok (q := (roomX m v x, [], roomP m x)) (n := m + ((x : Int) + 1)) (by omega) (by omega) hv hp (by show (roomX m v x).length < 16; rw [room_len]; omega)] at hr
    subst hr
    refine ⟨fun h => (by simp at h), fun _ => ⟨x + 1, ⟨rfl, rfl, rfl, ?_, room_succ m v x, rfl, trivial⟩, by omega, by omega⟩⟩
    unfold roomP
    rw [if_neg (Nat.succ_ne_zero x)]
    show m + ((x : Int) + 1) = _
    omega
  · have hv : v.size ≤ 64 := by simp only [decide_eq_false_iff_not] at hv; omega
    simp only [decide_eq_false_iff_not] at hge
    have hx16 : x = 16 := by omega
    subst hx16
    have e0 : wr (m + 16) = m + 16 := wr_eq (by omega) (by omega)
    rw [e0]
    have e1 : wr (m + 16 + 1) = m + 17 := by rw [wr_eq (by omega) (by omega)]; omega
    have e2 : wr (m + 16 + 2) = m + 18 := by rw [wr_eq (by omega) (by omega)]; omega
    have e3 : wr (m + 16 + 3) = m + 19 := by rw [wr_eq (by omega) (by omega)]; omega
    have e4 : wr (m + 2) = m + 2 := wr_eq (by omega) (by omega)
    rw [e1, e2, e3, e4]
    have hP : roomP m 16 = m + 16 := rfl
    rw [hP]
    have hlen := room_len m v 16
    have h16 : (roomX m v 16).length ≤ lenMax := by rw [hlen]; unfold lenMax; omega
    refine ⟨h16, Nat.zero_le _, fun r hr => ?_⟩
    rw [push_full (q := (roomX m v 16, [], m + 16)) (n := m + 17) (by omega) (by omega) hv (by show m + 16 < m + 17; omega) (by show 16 ≤ (roomX m v 16).length; omega)] at hr
    subst hr
    refine ⟨fun _ => ⟨h16, Nat.zero_le _, fun r hr => ?_⟩, fun h => (by simp at h)⟩
    rw [push_gap (q := (roomX m v 16, [], m + 16)) (n := m + 16) (by omega) (by omega) hv (by show m + 16 ≤ m + 16; omega)] at hr
    subst hr
    refine ⟨fun _ => ⟨h16, Nat.zero_le _, fun r hr => ?_⟩, fun h => (by simp at h)⟩
    rw [done_ok (q := (roomX m v 16, [], m + 16)) (n := m + 17) (m := m + 2) (by omega) (by omega) (by omega) (by omega) (by show 0 ≤ atQ (roomX m v 16) (m + 2); rw [room_at]; omega)] at hr
    have hr2 : r = (0, (dropAt (roomX m v 16) 1, [], m + 16)) := by rw [hr]; show (0, dropAt (roomX m v 16) (atQ (roomX m v 16) (m + 2)), _, _) = _; rw [room_at]; rfl
    clear hr
    subst hr2
    have hl15 : (dropAt (roomX m v 16) 1).length = 15 := by rw [room16]; rfl
    have h15 : (dropAt (roomX m v 16) 1).length ≤ lenMax := by rw [hl15]; unfold lenMax; omega
    refine ⟨fun _ => ⟨h15, Nat.zero_le _, fun r hr => ?_⟩, fun h => (by simp at h)⟩
    rw [done_none (q := (dropAt (roomX m v 16) 1, [], m + 16)) (n := m + 18) (m := m + 2) (by omega) (by omega) (by omega) (by omega) (by show atQ (dropAt (roomX m v 16) 1) (m + 2) < 0; rw [room_gone]; omega)] at hr
    subst hr
    refine ⟨fun _ => ⟨h15, Nat.zero_le _, fun r hr => ?_⟩, fun h => (by simp at h)⟩
    rw [push_ok (q := (dropAt (roomX m v 16) 1, [], m + 16)) (n := m + 19) (by omega) (by omega) hv (by show m + 16 < m + 19; omega) (by show (dropAt (roomX m v 16) 1).length < 16; omega)] at hr
    subst hr
    have hfin : (dropAt (roomX m v 16) 1 ++ [(m + 19, v)]).length = 16 := by rw [List.length_append, hl15]; rfl
    refine ⟨fun _ => ⟨by show (dropAt (roomX m v 16) 1 ++ [(m + 19, v)]).length ≤ lenMax; rw [hfin]; unfold lenMax; omega, ?_⟩, fun h => (by simp at h)⟩
    have : ((((dropAt (roomX m v 16) 1 ++ [(m + 19, v)]).length : Nat) : Int) == (16 : Int)) = true := by rw [hfin]; rfl
    show K (.b (.bool ((((dropAt (roomX m v 16) 1 ++ [(m + 19, v)]).length : Nat) : Int) == (16 : Int)))) []
    rw [this]; exact hK
end Go.Proofs.Ythjogeodclpafaa.AM
end
