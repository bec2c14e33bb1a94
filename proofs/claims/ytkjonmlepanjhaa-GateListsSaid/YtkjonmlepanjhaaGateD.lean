/- The gate chapter: the types of its data, and what its functions compute. -/
import Derived.Test.YtkjonmlepanjhaaAmL
import Derived.Test.YtkjonmlepanjhaaChecked
import Derived.KernelRfl
namespace Go.Proofs.Ytkjonmlepanjhaa.AM
open Go Go.Proofs.Ytkjonmlepanjhaa

abbrev I : Ty := .int .i64
abbrev Win : Ty := .pair I (.pair I (.pair I (.pair I I)))
abbrev Act : Ty := .pair I (.pair I Win)
/-- A window: cell, epoch, version, from, until. -/
abbrev W := Win.D
abbrev A := Act.D

abbrev iv (n : Int) : SV := .t (.one (.int .i64 n))
abbrev bv (b : Bool) : SV := .t (.one (.bool b))
abbrev pv (n : Nat) : SV := .t (.one (.ptr n 0))
abbrev hv (n : Nat) : SV := .t (.one (.hd n))
abbrev wv (w : W) : SV := .t (.agg [.int .i64 w.1, .int .i64 w.2.1, .int .i64 w.2.2.1, .int .i64 w.2.2.2.1, .int .i64 w.2.2.2.2])
abbrev av (a : A) : SV := .t (.agg [.int .i64 a.1, .int .i64 a.2.1, .int .i64 a.2.2.1, .int .i64 a.2.2.2.1, .int .i64 a.2.2.2.2.1, .int .i64 a.2.2.2.2.2.1, .int .i64 a.2.2.2.2.2.2])
abbrev fs (xs : List W) : SV := .t (.one (.fsl 35 Win xs))
abbrev fi (xs : List Int) : SV := .t (.one (.fsl 3 I xs))
/-- A gate of the program, one of the reference; a tape. -/
abbrev gC (c cl : Int) (n : Nat) : AObj := .cells 55 [.int .i64 c, .int .i64 cl, .hd n]
abbrev rC (c cl : Int) (n : Nat) : AObj := .cells 31 [.int .i64 c, .int .i64 cl, .hd n]
abbrev tC (l : List Int) (k : Int) : AObj := .cells 67 [.fsl 3 I l, .int .i64 k]
abbrev wR (ws : List W) : AObj := .row 35 Win ws
abbrev aR (xs : List A) : AObj := .row 37 Act xs

def validW (w : W) : Bool :=
  decide (w.2.1 ≥ 1) && decide (w.2.1 ≤ 1048576) && decide (w.2.2.1 ≥ 0) && decide (w.2.2.1 < 30) && decide (w.2.2.2.1 ≥ 0) && decide (w.2.2.2.1 ≤ 1073741824) && decide (w.2.2.2.2 > w.2.2.2.1) && decide (w.2.2.2.2 ≤ 1073743824)

def beforeW (a b : W) : Bool :=
  if a.2.2.2.1 ≠ b.2.2.2.1 then decide (a.2.2.2.1 < b.2.2.2.1)
  else if a.2.1 ≠ b.2.1 then decide (a.2.1 < b.2.1)
  else if a.2.2.2.2 ≠ b.2.2.2.2 then decide (a.2.2.2.2 < b.2.2.2.2)
  else decide (a.2.2.1 < b.2.2.1)

/-- The window is on at a tick. -/
def onW (v t : Int) (w : W) : Bool := (w.2.2.1 == v) && decide (w.2.2.2.1 ≤ t) && decide (t < w.2.2.2.2)
def accE (ws : List W) (v t : Int) : Int := ws.foldl (fun e w => if onW v t w then max e w.2.1 else e) 0
def accR (cl : Int) (ws : List W) (v t : Int) : Int := ws.foldl (fun e w => if decide (w.2.1 > cl) && onW v t w then max e w.2.1 else e) 0

/-- Where writes are accepted to without interruption. -/
def Until (ws : List W) (v t u : Int) : Prop :=
  t ≤ u ∧ (u = t ∨ ∃ w ∈ ws, u = w.2.2.2.2) ∧ (∀ s, t ≤ s → s < u → ∃ w ∈ ws, onW v s w = true) ∧ ∀ w ∈ ws, onW v u w = false

def posW (ws : List W) (w : W) : Nat := (ws.takeWhile fun x => beforeW x w).length
def insW (ws : List W) (w : W) : List W := if ws[posW ws w]? = some w then ws else ws.take (posW ws w) ++ [w] ++ ws.drop (posW ws w)

abbrev G := Int × Int × List W
def giveG (g : G) (w : W) : Int × G :=
  if validW w = false then (1, g) else if w.1 ≠ g.1 then (5, g) else if w.2.1 ≤ g.2.1 then (7, g) else (0, (g.1, g.2.1, insW g.2.2 w))
def giveR (g : G) (w : W) : Int × G :=
  if validW w = false then (1, g) else if w.1 ≠ g.1 then (5, g) else if w.2.1 ≤ g.2.1 then (7, g) else if w ∈ g.2.2 then (0, g) else (0, (g.1, g.2.1, g.2.2 ++ [w]))
def badE (e : Int) : Bool := decide (e < 1) || decide (e > 1048576)
def closeG (g : G) (e : Int) : Int × G := if badE e then (1, g) else (0, (g.1, max g.2.1 e, g.2.2.filter fun w => decide (w.2.1 > max g.2.1 e)))
def closeR (g : G) (e : Int) : Int × G := if badE e then (1, g) else (0, (g.1, max g.2.1 e, g.2.2))
def forgetG (g : G) (t : Int) : G := (g.1, g.2.1, g.2.2.filter fun w => decide (w.2.2.2.2 > t))
def winIns (out : List W) (w : W) : List W := out.take (posW out w) ++ [w] ++ out.drop (posW out w)
def winsR (cl : Int) (xs : List W) : List W := xs.foldl (fun out w => if w.2.1 ≤ cl then out else winIns out w) []

def doG (g : G) (a : A) : Int × G :=
  if a.1 % 8 = 4 then closeG g a.2.1 else if a.1 % 8 = 5 then (0, forgetG g a.2.1) else if a.1 % 8 = 6 then (0, (g.1, g.2.1, [])) else if a.1 % 8 = 7 then (0, g) else giveG g a.2.2
def doR (g : G) (a : A) : Int × G :=
  if a.1 % 8 = 4 then closeR g a.2.1 else if a.1 % 8 = 5 then (0, forgetG g a.2.1) else if a.1 % 8 = 6 then (0, (g.1, g.2.1, [])) else if a.1 % 8 = 7 then (0, g) else giveR g a.2.2

/-- A list is short enough to be worked on. -/
def lenMax : Nat := 1099511627776

/-- The next number of a tape and its place behind. -/
def nextV (l : List Int) (k : Nat) (n : Int) : Int := match l[k]? with | some x => x % n | none => 0
def nextK (l : List Int) (k : Nat) : Nat := if k < l.length then k + 1 else k
def windowV (l : List Int) (k : Nat) (cell : Int) : W :=
  let k1 := nextK l k
  let k2 := nextK l k1
  let k3 := nextK l k2
  (cell, 1 + nextV l k1 5, nextV l k2 2, nextV l k 30, nextV l k 30 + (1 + nextV l k3 15))
def windowK (l : List Int) (k : Nat) : Nat := nextK l (nextK l (nextK l (nextK l k)))
/-- One act of a tape. -/
def actV (l : List Int) (k : Nat) (cell : Int) : A × Nat :=
  let kind := nextV l k 8
  let n := nextV l (nextK l k) 30
  let k2 := nextK l (nextK l k)
  if kind = 4 then ((kind, 1 + nextV l k2 4, windowV l (nextK l k2) cell), windowK l (nextK l k2)) else ((kind, n, windowV l k2 cell), windowK l k2)
def actsGo (l : List Int) (cell : Int) : Nat → Nat → List A → List A
  | 0, _, acc => acc
  | f + 1, k, acc => if k < l.length ∧ acc.length < 40 then actsGo l cell f (actV l k cell).2 (acc ++ [(actV l k cell).1]) else acc
def madeA (l : List Int) (cell : Int) : List A := actsGo l cell (l.length + 1) 0 []

/-! ### What is told of each function -/
def S39 : Spec := ⟨[], fun vs H K => match vs, H with
  | [.t (.agg [.int .i64 a, .int .i64 b, .int .i64 c, .int .i64 d, .int .i64 e])], [] => K (bv (validW (a, b, c, d, e))) []
  | _, _ => False⟩
def S40 : Spec := ⟨[], fun vs H K => match vs, H with
  | [.t (.agg [.int .i64 a, .int .i64 b, .int .i64 c, .int .i64 d, .int .i64 e]), .t (.agg [.int .i64 a', .int .i64 b', .int .i64 c', .int .i64 d', .int .i64 e'])], [] => K (bv (beforeW (a, b, c, d, e) (a', b', c', d', e'))) []
  | _, _ => False⟩
def S41 : Spec := ⟨[], fun vs H K => match vs, H with
  | [(.t (.one (.hd 0))), (.t (.one (.int .i64 i))), (.t (.one (.hd 1)))], [(.row 35 (.pair (.int .i64) (.pair (.int .i64) (.pair (.int .i64) (.pair (.int .i64) (.int .i64))))) ws), (.row 35 (.pair (.int .i64) (.pair (.int .i64) (.pair (.int .i64) (.pair (.int .i64) (.int .i64))))) [v])] => 0 ≤ i ∧ i.toNat ≤ ws.length ∧ ws.length ≤ lenMax ∧ K (hv 2) [.dead, wR [v], wR (ws.take i.toNat ++ [v] ++ ws.drop i.toNat)]
  | _, _ => False⟩
def S38 : Spec := ⟨[true], fun vs H K => match vs, H with
  | [(.t (.one (.fsl 35 (.pair (.int .i64) (.pair (.int .i64) (.pair (.int .i64) (.pair (.int .i64) (.int .i64))))) ws)))], [] => ws.length ≤ lenMax ∧ K (hv 0) [wR ws]
  | _, _ => False⟩
def S10 : Spec := ⟨[], fun vs H K => match vs, H with
  | [(.t (.one (.int .i64 a))), (.t (.one (.int .i64 b)))], [] => 0 < b ∧ b ≤ 1099511627776 ∧ K (iv (a % b)) []
  | _, _ => False⟩
def S9 : Spec := ⟨[true], fun vs H K => match vs, H with
  | [(.t (.one (.fsl 3 (.int .i64) l)))], [] => K (bv (decide (l.length ≤ 150))) []
  | _, _ => False⟩
def S11 : Spec := ⟨[], fun vs H K => match vs, H with
  | [(.t (.one (.int .i64 c)))], [] => K (pv 0) [gC c 0 1, wR []]
  | _, _ => False⟩
def S26 : Spec := ⟨[], fun vs H K => match vs, H with
  | [(.t (.one (.fsl 3 (.int .i64) l)))], [] => K (pv 0) [tC l 0]
  | _, _ => False⟩
def S27 : Spec := ⟨[], fun vs H K => match vs, H with
  | [(.t (.one (.ptr 0 0)))], [(.cells 67 [.fsl 3 (.int .i64) l, .int .i64 k])] => K (bv (decide (k < l.length))) [tC l k]
  | _, _ => False⟩
def S28 : Spec := ⟨[], fun vs H K => match vs, H with
  | [(.t (.one (.ptr 0 0))), (.t (.one (.int .i64 n)))], [(.cells 67 [.fsl 3 (.int .i64) l, .int .i64 (.ofNat k)])] => 0 < n ∧ n ≤ 1099511627776 ∧ l.length ≤ lenMax ∧ K (iv (nextV l k n)) [tC l (.ofNat (nextK l k))]
  | _, _ => False⟩
def S29 : Spec := ⟨[], fun vs H K => match vs, H with
  | [(.t (.one (.ptr 0 0))), (.t (.one (.int .i64 a))), (.t (.one (.int .i64 b)))], [(.cells 67 [.fsl 3 (.int .i64) l, .int .i64 (.ofNat k)])] => 0 ≤ a ∧ a ≤ b ∧ b ≤ 1099511627 ∧ l.length ≤ lenMax ∧ K (iv (a + nextV l k (b - a + 1))) [tC l (.ofNat (nextK l k))]
  | _, _ => False⟩
def S30 : Spec := ⟨[], fun vs H K => match vs, H with
  | [(.t (.one (.ptr 0 0))), (.t (.one (.int .i64 c)))], [(.cells 67 [.fsl 3 (.int .i64) l, .int .i64 (.ofNat k)])] => l.length ≤ lenMax ∧ K (wv (windowV l k c)) [tC l (.ofNat (windowK l k))]
  | _, _ => False⟩
def S12 : Spec := ⟨[], fun vs H K => match vs, H with
  | [(.t (.one (.fsl 3 (.int .i64) l))), (.t (.one (.int .i64 c)))], [] => l.length ≤ lenMax ∧ K (hv 0) [aR (madeA l c)]
  | _, _ => False⟩
def S18 : Spec := ⟨[], fun vs H K => match vs, H with
  | [(.t (.one (.ptr 0 0)))], [(.cells 55 [.int .i64 c, .int .i64 cl, .hd 1]), (.row 35 (.pair (.int .i64) (.pair (.int .i64) (.pair (.int .i64) (.pair (.int .i64) (.int .i64))))) ws)] => K (iv cl) [gC c cl 1, wR ws]
  | _, _ => False⟩
def S33 : Spec := ⟨[], fun vs H K => match vs, H with
  | [(.t (.one (.ptr 0 0)))], [(.cells 55 [.int .i64 c, .int .i64 cl, .hd 1]), (.row 35 (.pair (.int .i64) (.pair (.int .i64) (.pair (.int .i64) (.pair (.int .i64) (.int .i64))))) _)] => K (.tup []) [gC c cl 2, .dead, wR []]
  | _, _ => False⟩
def S34 : Spec := ⟨[], fun vs H K => match vs, H with
  | [(.t (.one (.ptr 0 0)))], [(.cells 31 [.int .i64 c, .int .i64 cl, .hd 1]), (.row 35 (.pair (.int .i64) (.pair (.int .i64) (.pair (.int .i64) (.pair (.int .i64) (.int .i64))))) _)] => K (.tup []) [rC c cl 2, .dead, wR []]
  | _, _ => False⟩
def S17 : Spec := ⟨[], fun vs H K => match vs, H with
  | [(.t (.one (.ptr 0 0))), (.t (.one (.int .i64 e)))], [(.cells 31 [.int .i64 c, .int .i64 cl, .hd 1]), (.row 35 (.pair (.int .i64) (.pair (.int .i64) (.pair (.int .i64) (.pair (.int .i64) (.int .i64))))) ws)] => K (iv (closeR (c, cl, ws) e).1) [rC c (closeR (c, cl, ws) e).2.2.1 2, .dead, wR ws]
  | _, _ => False⟩
def S37 : Spec := ⟨[], fun vs H K => match vs, H with
  | [.t (.agg [.int .i64 _, .int .i64 b, .int .i64 _, .int .i64 _, .int .i64 _]), (.t (.one (.ptr 0 0)))], [.cells 26 [.ptr 1 0], (.cells 55 [.int .i64 c, .int .i64 cl, .hd 2]), (.row 35 (.pair (.int .i64) (.pair (.int .i64) (.pair (.int .i64) (.pair (.int .i64) (.int .i64))))) ws)] => K (bv (decide (b > cl))) [.cells 26 [.ptr 1 0], gC c cl 2, wR ws]
  | _, _ => False⟩
def S43 : Spec := ⟨[], fun vs H K => match vs, H with
  | [.t (.agg [.int .i64 _, .int .i64 _, .int .i64 _, .int .i64 _, .int .i64 e]), (.t (.one (.ptr 0 0)))], [.cells 3 [.int .i64 t]] => K (bv (decide (e > t))) [.cells 3 [.int .i64 t]]
  | _, _ => False⟩
def S46 : Spec := ⟨[], fun vs H K => match vs, H with
  | [.t (.agg [.int .i64 _, .int .i64 b, .int .i64 _, .int .i64 _, .int .i64 _]), (.t (.one (.ptr 0 0)))], [.cells 62 [.fn 37 [1]], .cells 26 [.ptr 2 0], (.cells 55 [.int .i64 c, .int .i64 cl, .hd 3]), (.row 35 (.pair (.int .i64) (.pair (.int .i64) (.pair (.int .i64) (.pair (.int .i64) (.int .i64))))) ws)] =>
    K (bv (!(decide (b > cl)))) [.cells 62 [.fn 37 [1]], .cells 26 [.ptr 2 0], gC c cl 3, wR ws]
  | [.t (.agg [.int .i64 _, .int .i64 _, .int .i64 _, .int .i64 _, .int .i64 e]), (.t (.one (.ptr 0 0)))], [.cells 62 [.fn 43 [1]], .cells 3 [.int .i64 t]] =>
    K (bv (!(decide (e > t)))) [.cells 62 [.fn 43 [1]], .cells 3 [.int .i64 t]]
  | _, _ => False⟩

/-- The place of the first element for which it holds, or -1. -/
def idxE (p : W → Bool) (ws : List W) : Int := if ws.any p then (ws.findIdx p : Nat) else -1
def S49 : Spec := ⟨[], fun vs H K => match vs, H with
  | [(.t (.one (.hd 0))), .t (.one (.fn 46 [1]))], [(.row 35 (.pair (.int .i64) (.pair (.int .i64) (.pair (.int .i64) (.pair (.int .i64) (.int .i64))))) ws), .cells 62 [.fn 37 [2]], .cells 26 [.ptr 3 0], (.cells 55 [.int .i64 c, .int .i64 cl, .hd 0])] =>
    ws.length ≤ lenMax ∧ K (iv (idxE (fun w => !(decide (w.2.1 > cl))) ws)) [wR ws, .cells 62 [.fn 37 [2]], .cells 26 [.ptr 3 0], gC c cl 0]
  | [(.t (.one (.hd 0))), .t (.one (.fn 46 [1]))], [(.row 35 (.pair (.int .i64) (.pair (.int .i64) (.pair (.int .i64) (.pair (.int .i64) (.int .i64))))) ws), .cells 62 [.fn 43 [2]], .cells 3 [.int .i64 t]] =>
    ws.length ≤ lenMax ∧ K (iv (idxE (fun w => !(decide (w.2.2.2.2 > t))) ws)) [wR ws, .cells 62 [.fn 43 [2]], .cells 3 [.int .i64 t]]
  | _, _ => False⟩
def S45 : Spec := ⟨[], fun vs H K => match vs, H with
  | [(.t (.one (.hd 0))), .t (.one (.fn 46 [1]))], [(.row 35 (.pair (.int .i64) (.pair (.int .i64) (.pair (.int .i64) (.pair (.int .i64) (.int .i64))))) ws), .cells 62 [.fn 37 [2]], .cells 26 [.ptr 3 0], (.cells 55 [.int .i64 c, .int .i64 cl, .hd 0])] =>
    ws.length ≤ lenMax ∧ K (hv 4) [.dead, .cells 62 [.fn 37 [2]], .cells 26 [.ptr 3 0], gC c cl 4, wR (ws.filter fun w => decide (w.2.1 > cl))] ∧
      K (hv 4) [.dead, .cells 62 [.fn 37 [2]], .cells 26 [.ptr 3 0], gC c cl 0, wR (ws.filter fun w => decide (w.2.1 > cl))]
  | [(.t (.one (.hd 0))), .t (.one (.fn 46 [1]))], [(.row 35 (.pair (.int .i64) (.pair (.int .i64) (.pair (.int .i64) (.pair (.int .i64) (.int .i64))))) ws), .cells 62 [.fn 43 [2]], .cells 3 [.int .i64 t]] =>
    ws.length ≤ lenMax ∧ K (hv 3) [.dead, .cells 62 [.fn 43 [2]], .cells 3 [.int .i64 t], wR (ws.filter fun w => decide (w.2.2.2.2 > t))]
  | _, _ => False⟩
def S36 : Spec := ⟨[], fun vs H K => match vs, H with
  | [(.t (.one (.ptr 0 0))), .t (.one (.fn 37 [1]))], [(.cells 55 [.int .i64 c, .int .i64 cl, .hd 2]), .cells 26 [.ptr 0 0], (.row 35 (.pair (.int .i64) (.pair (.int .i64) (.pair (.int .i64) (.pair (.int .i64) (.int .i64))))) ws)] =>
    ws.length ≤ lenMax ∧ K (.tup []) [gC c cl 3, .cells 26 [.ptr 0 0], .dead, wR (ws.filter fun w => decide (w.2.1 > cl))]
  | [(.t (.one (.ptr 0 0))), .t (.one (.fn 43 [1]))], [(.cells 55 [.int .i64 c, .int .i64 cl, .hd 2]), .cells 3 [.int .i64 t], (.row 35 (.pair (.int .i64) (.pair (.int .i64) (.pair (.int .i64) (.pair (.int .i64) (.int .i64))))) ws)] =>
    ws.length ≤ lenMax ∧ K (.tup []) [gC c cl 3, .cells 3 [.int .i64 t], .dead, wR (ws.filter fun w => decide (w.2.2.2.2 > t))]
  | _, _ => False⟩
def S16 : Spec := ⟨[], fun vs H K => match vs, H with
  | [(.t (.one (.ptr 0 0))), (.t (.one (.int .i64 e)))], [(.cells 55 [.int .i64 c, .int .i64 cl, .hd 1]), (.row 35 (.pair (.int .i64) (.pair (.int .i64) (.pair (.int .i64) (.pair (.int .i64) (.int .i64))))) ws)] => ws.length ≤ lenMax ∧ K (iv (closeG (c, cl, ws) e).1) [gC c (closeG (c, cl, ws) e).2.2.1 2, .dead, wR (closeG (c, cl, ws) e).2.2.2]
  | _, _ => False⟩
def S31 : Spec := ⟨[], fun vs H K => match vs, H with
  | [(.t (.one (.ptr 0 0))), (.t (.one (.int .i64 t)))], [(.cells 55 [.int .i64 c, .int .i64 cl, .hd 1]), (.row 35 (.pair (.int .i64) (.pair (.int .i64) (.pair (.int .i64) (.pair (.int .i64) (.int .i64))))) ws)] => ws.length ≤ lenMax ∧ K (.tup []) [gC c cl 2, .dead, wR (forgetG (c, cl, ws) t).2.2]
  | _, _ => False⟩
def S32 : Spec := ⟨[], fun vs H K => match vs, H with
  | [(.t (.one (.ptr 0 0))), (.t (.one (.int .i64 t)))], [(.cells 31 [.int .i64 c, .int .i64 cl, .hd 1]), (.row 35 (.pair (.int .i64) (.pair (.int .i64) (.pair (.int .i64) (.pair (.int .i64) (.int .i64))))) ws)] => ws.length ≤ lenMax ∧ K (.tup []) [rC c cl 2, .dead, wR (forgetG (c, cl, ws) t).2.2]
  | _, _ => False⟩
def S21 : Spec := ⟨[], fun vs H K => match vs, H with
  | [(.t (.one (.ptr 0 0))), .t (.agg [.int .i64 a, .int .i64 b, .int .i64 c', .int .i64 d, .int .i64 e])], [(.cells 55 [.int .i64 c, .int .i64 cl, .hd 1]), (.row 35 (.pair (.int .i64) (.pair (.int .i64) (.pair (.int .i64) (.pair (.int .i64) (.int .i64))))) ws)] =>
    ws.length ≤ lenMax ∧ K (iv (giveG (c, cl, ws) (a, b, c', d, e)).1) [gC c cl 2, .dead, wR (giveG (c, cl, ws) (a, b, c', d, e)).2.2.2]
  | _, _ => False⟩
def S35 : Spec := ⟨[], fun vs H K => match vs, H with
  | [(.t (.one (.ptr 0 0))), .t (.agg [.int .i64 a, .int .i64 b, .int .i64 c', .int .i64 d, .int .i64 e])], [(.cells 31 [.int .i64 c, .int .i64 cl, .hd 1]), (.row 35 (.pair (.int .i64) (.pair (.int .i64) (.pair (.int .i64) (.pair (.int .i64) (.int .i64))))) ws)] =>
    ws.length ≤ lenMax ∧ K (iv (giveR (c, cl, ws) (a, b, c', d, e)).1) [rC c cl 2, .dead, wR (giveR (c, cl, ws) (a, b, c', d, e)).2.2.2]
  | _, _ => False⟩
def S19 : Spec := ⟨[], fun vs H K => match vs, H with
  | [(.t (.one (.ptr 0 0)))], [(.cells 55 [.int .i64 c, .int .i64 cl, .hd 1]), (.row 35 (.pair (.int .i64) (.pair (.int .i64) (.pair (.int .i64) (.pair (.int .i64) (.int .i64))))) ws)] => ws.length ≤ lenMax ∧ K (pv 2) [gC c cl 1, wR ws, gC c cl 3, wR ws]
  | _, _ => False⟩
def S24 : Spec := ⟨[], fun vs H K => match vs, H with
  | [(.t (.one (.ptr 0 0)))], [(.cells 31 [.int .i64 c, .int .i64 cl, .hd 1]), (.row 35 (.pair (.int .i64) (.pair (.int .i64) (.pair (.int .i64) (.pair (.int .i64) (.int .i64))))) ws)] => ws.length ≤ lenMax ∧ K (pv 2) [rC c cl 1, wR ws, rC c cl 3, wR ws]
  | _, _ => False⟩
def S20 : Spec := ⟨[], fun vs H K => match vs, H with
  | [(.t (.one (.ptr 0 0)))], [(.cells 55 [.int .i64 c, .int .i64 cl, .hd 1]), (.row 35 (.pair (.int .i64) (.pair (.int .i64) (.pair (.int .i64) (.pair (.int .i64) (.int .i64))))) ws)] => ws.length ≤ lenMax ∧ K (hv 2) [gC c cl 1, wR ws, wR ws]
  | _, _ => False⟩
def S23 : Spec := ⟨[], fun vs H K => match vs, H with
  | [(.t (.one (.ptr 0 0)))], [(.cells 31 [.int .i64 c, .int .i64 cl, .hd 1]), (.row 35 (.pair (.int .i64) (.pair (.int .i64) (.pair (.int .i64) (.pair (.int .i64) (.int .i64))))) ws)] => ws.length ≤ lenMax ∧ K (hv 2) [rC c cl 1, wR ws, wR (winsR cl ws)]
  | _, _ => False⟩
def S15 : Spec := ⟨[], fun vs H K => match vs, H with
  | [(.t (.one (.ptr 0 0))), (.t (.one (.int .i64 v))), (.t (.one (.int .i64 t)))], [(.cells 55 [.int .i64 c, .int .i64 cl, .hd 1]), (.row 35 (.pair (.int .i64) (.pair (.int .i64) (.pair (.int .i64) (.pair (.int .i64) (.int .i64))))) ws)] => ws.length ≤ lenMax ∧ K (.tup [.one (.int .i64 (accE ws v t)), .one (.bool (decide (accE ws v t > 0)))]) [gC c cl 1, wR ws]
  | _, _ => False⟩
def S25 : Spec := ⟨[], fun vs H K => match vs, H with
  | [(.t (.one (.ptr 0 0))), (.t (.one (.int .i64 v))), (.t (.one (.int .i64 t)))], [(.cells 31 [.int .i64 c, .int .i64 cl, .hd 1]), (.row 35 (.pair (.int .i64) (.pair (.int .i64) (.pair (.int .i64) (.pair (.int .i64) (.int .i64))))) ws)] => ws.length ≤ lenMax ∧ K (.tup [.one (.int .i64 (accR cl ws v t)), .one (.bool (decide (accR cl ws v t > 0)))]) [rC c cl 1, wR ws]
  | _, _ => False⟩
def S14 : Spec := ⟨[], fun vs H K => match vs, H with
  | [(.t (.one (.ptr 0 0))), (.t (.one (.int .i64 v))), (.t (.one (.int .i64 t)))], [(.cells 55 [.int .i64 c, .int .i64 cl, .hd 1]), (.row 35 (.pair (.int .i64) (.pair (.int .i64) (.pair (.int .i64) (.pair (.int .i64) (.int .i64))))) ws)] => ws.length ≤ lenMax ∧ ∀ u, Until ws v t u → K (iv u) [gC c cl 1, wR ws]
  | _, _ => False⟩
def S22 : Spec := ⟨[true, true], fun vs H K => match vs, H with
  | [(.t (.one (.fsl 35 (.pair (.int .i64) (.pair (.int .i64) (.pair (.int .i64) (.pair (.int .i64) (.int .i64))))) xs))), (.t (.one (.fsl 35 (.pair (.int .i64) (.pair (.int .i64) (.pair (.int .i64) (.pair (.int .i64) (.int .i64))))) ys)))], [] => xs.length ≤ lenMax ∧ K (bv (decide (xs = ys))) []
  | _, _ => False⟩
def S13 : Spec := ⟨[], fun vs H K => match vs, H with
  | [(.t (.one (.ptr 0 0))), (.t (.one (.ptr 1 0))), .t (.agg [.int .i64 k, .int .i64 n, .int .i64 a, .int .i64 b, .int .i64 c', .int .i64 d, .int .i64 e])], [(.cells 55 [.int .i64 c, .int .i64 cl, .hd 2]), (.cells 31 [.int .i64 c2, .int .i64 cl2, .hd 3]), (.row 35 (.pair (.int .i64) (.pair (.int .i64) (.pair (.int .i64) (.pair (.int .i64) (.int .i64))))) ws), (.row 35 (.pair (.int .i64) (.pair (.int .i64) (.pair (.int .i64) (.pair (.int .i64) (.int .i64))))) xs)] =>
    ws.length ≤ lenMax ∧ xs.length ≤ lenMax ∧
    K (.tup [.one (.ptr 4 0), .one (.ptr 5 0), .one (.bool ((doG (c, cl, ws) (k, n, a, b, c', d, e)).1 == (doR (c2, cl2, xs) (k, n, a, b, c', d, e)).1))])
      [.dead, .dead, .dead, .dead, gC c (doG (c, cl, ws) (k, n, a, b, c', d, e)).2.2.1 6, rC c2 (doR (c2, cl2, xs) (k, n, a, b, c', d, e)).2.2.1 7,
        wR (doG (c, cl, ws) (k, n, a, b, c', d, e)).2.2.2, wR (doR (c2, cl2, xs) (k, n, a, b, c', d, e)).2.2.2]
  | _, _ => False⟩
def S8 : Spec := ⟨[], fun vs H K => match vs, H with
  | [], [] => K (bv true) []
  | _, _ => False⟩

def L1 : List (Nat × Spec) := [(9, S9), (10, S10), (11, S11), (26, S26), (27, S27), (18, S18), (33, S33), (34, S34), (17, S17), (37, S37), (43, S43), (38, S38), (39, S39), (44, S39), (40, S40), (42, S40), (41, S41)]
def L2 : List (Nat × Spec) := (46, S46) :: (28, S28) :: (15, S15) :: (14, S14) :: (21, S21) :: (35, S35) :: (19, S19) :: (24, S24) :: (32, S32) :: L1
def L3 : List (Nat × Spec) := (29, S29) :: (49, S49) :: L2
def L4 : List (Nat × Spec) := (30, S30) :: (45, S45) :: L3
def L5 : List (Nat × Spec) := (12, S12) :: (36, S36) :: L4
def L6 : List (Nat × Spec) := (16, S16) :: (31, S31) :: L5
def L7 : List (Nat × Spec) := (8, S8) :: (13, S13) :: L6

/-! ### Loops -/
def N15 (ws : List W) (v t : Int) : Anns := { loop := fun r s => match r with
  | 3 => annOf (α := Nat) [1, 2, 8, 14, 15, 16] [] s (fun i => [(8, iv (accE (ws.take i) v t)), (16, iv i)]) (fun _ => []) (fun _ i => i ≤ ws.length) (fun i => ws.length - i)
  | _ => none }
def N25 (cl : Int) (ws : List W) (v t : Int) : Anns := { loop := fun r s => match r with
  | 3 => annOf (α := Nat) [0, 1, 2, 8, 14, 15, 16] [] s (fun i => [(8, iv (accR cl (ws.take i) v t)), (16, iv i)]) (fun _ => []) (fun _ i => i ≤ ws.length) (fun i => ws.length - i)
  | _ => none }
def covered (ws : List W) (v t u : Int) : Prop := ∀ s, t ≤ s → s < u → ∃ w ∈ ws, onW v s w = true
def N14 (ws : List W) (v t : Int) : Anns := { loop := fun r s => match r with
  | 2 => annOf (α := Int × Bool) [0, 1, 2, 7] [] s (fun x => [(2, iv x.1), (7, bv x.2)]) (fun _ => [])
      (fun _ x => t ≤ x.1 ∧ (x.1 = t ∨ ∃ w ∈ ws, x.1 = w.2.2.2.2) ∧ covered ws v t x.1 ∧ (x.2 = false → ∀ w ∈ ws, onW v x.1 w = false)) (fun x => 2 * (ws.countP fun w => decide (w.2.2.2.2 > x.1)) + (if x.2 then 1 else 0))
  | 5 => annOf (α := Int × Bool × Nat) [0, 1, 2, 7, 14, 15, 16] [] s (fun x => [(2, iv x.1), (7, bv x.2.1), (16, iv x.2.2)]) (fun _ => [])
      (fun c x => x.2.2 ≤ ws.length ∧ intAt c 2 ≤ x.1 ∧ covered ws v (intAt c 2) x.1 ∧ (x.2.1 = false → x.1 = intAt c 2 ∧ ∀ w ∈ ws.take x.2.2, onW v x.1 w = false) ∧ (x.2.1 = true → intAt c 2 < x.1 ∧ ∃ w ∈ ws, x.1 = w.2.2.2.2)) (fun x => ws.length - x.2.2)
  | _ => none }
def N21 (ws : List W) (w : W) : Anns := { loop := fun r s => match r with
  | 8 => annOf (α := Nat) [0, 3, 5] [] s (fun k => [(5, iv k)]) (fun _ => []) (fun _ k => k ≤ posW ws w) (fun k => ws.length - k)
  | _ => none }
def N22 (xs ys : List W) : Anns := { loop := fun r s => match r with
  | 4 => annOf (α := Nat) [0, 1, 12, 13] [] s (fun k => [(13, iv k)]) (fun _ => []) (fun _ k => k ≤ xs.length ∧ xs.take k = ys.take k) (fun k => xs.length - k)
  | _ => none }
def wAt (s : St) (n : Nat) : W := (cellAt s n 0, cellAt s n 1, cellAt s n 2, cellAt s n 3, cellAt s n 4)
def N23 (cl : Int) (xs : List W) : Anns := { loop := fun r s => match r with
  | 3 => annOf (α := Nat) [0, 3, 10, 11, 12] [(3, 35, Win)] s (fun i => [(3, hv 2), (12, iv i)]) (fun i => [(2, wR (winsR cl (xs.take i)))]) (fun _ i => i ≤ xs.length) (fun i => xs.length - i)
  | 7 => annOf (α := Nat) [0, 3, 5, 6, 10, 11, 12] [] s (fun k => [(6, iv k)]) (fun _ => []) (fun c k => k ≤ posW (rowAt Win c 2) (wAt c 3)) (fun k => xs.length - k)
  | _ => none }
def N32 (xs : List W) (t : Int) : Anns := { loop := fun r s => match r with
  | 2 => annOf (α := Nat) [0, 1, 4, 10, 11, 12] [(4, 35, Win)] s (fun i => [(4, hv 2), (12, iv i)]) (fun i => [(2, wR ((xs.take i).filter fun w => decide (w.2.2.2.2 > t)))]) (fun _ i => i ≤ xs.length) (fun i => xs.length - i)
  | _ => none }
def N35 (xs : List W) (w : W) : Anns := { loop := fun r s => match r with
  | 8 => annOf (α := Nat) [0, 3, 27, 28, 29] [] s (fun k => [(29, iv k)]) (fun _ => []) (fun _ k => k ≤ xs.length ∧ w ∉ xs.take k) (fun k => xs.length - k)
  | _ => none }
def N49 (p : W → Bool) (ws : List W) : Anns := { loop := fun r s => match r with
  | 2 => annOf (α := Nat) [0, 1, 7, 8] [] s (fun k => [(8, iv k)]) (fun _ => []) (fun _ k => k ≤ ws.findIdx p) (fun k => ws.length - k)
  | _ => none }
def N45 (p : W → Bool) (ws : List W) : Anns := { loop := fun r s => match r with
  | 5 => annOf (α := Nat × Nat × List W) [0, 1, 5, 6] [] s (fun x => [(5, iv x.1), (6, iv x.2.1)]) (fun x => [(0, wR x.2.2)])
      (fun _ x => x.1 < x.2.1 ∧ x.2.1 ≤ ws.length ∧ x.2.2.length = ws.length ∧ x.2.2.take x.1 = (ws.take x.2.1).filter (fun w => !p w) ∧ x.2.2.drop x.2.1 = ws.drop x.2.1) (fun x => ws.length - x.2.1)
  | _ => none }
def N12 (l : List Int) (cell : Int) : Anns := { loop := fun r s => match r with
  | 3 => annOf (α := Nat × List A) [1, 5, 6] [(6, 37, Act)] s (fun _ => [(6, hv 1)]) (fun x => [(0, tC l (.ofNat x.1)), (1, aR x.2)])
      (fun _ x => x.1 ≤ l.length ∧ x.2.length ≤ 40 ∧ actsGo l cell (l.length + 1 - x.1) x.1 x.2 = madeA l cell) (fun x => l.length - x.1)
  | _ => none }

def runG (l : List A) (g : G) : G := l.foldl (fun g a => (doG g a).2) g
def runR (l : List A) (g : G) : G := l.foldl (fun g a => (doR g a).2) g
/-- The law GateScans. -/
def NS (l : List Int) : Anns := { loop := fun r s => match r with
  | 9 => annOf (α := Nat) [1, 2, 7, 8, 30, 31, 32] [] s (fun i => [(32, iv i)])
      (fun i => [(0, gC 1 (runG ((madeA l 1).take i) (1, 0, [])).2.1 3), (1, rC 1 (runR ((madeA l 1).take i) (1, 0, [])).2.1 4), (3, wR (runG ((madeA l 1).take i) (1, 0, [])).2.2), (4, wR (runR ((madeA l 1).take i) (1, 0, [])).2.2)])
      (fun _ i => i ≤ (madeA l 1).length) (fun i => (madeA l 1).length - i)
  | 17 => annOf (α := Int × Int) [1, 7, 11, 12] [] s (fun x => [(12, iv x.1), (11, iv x.2)]) (fun _ => [])
      (fun c x => intAt c 12 ≤ x.1 ∧ x.1 ≤ intAt c 11 ∧ x.2 = intAt c 11) (fun x => (x.2 - x.1).toNat)
  | _ => none }
end Go.Proofs.Ytkjonmlepanjhaa.AM
