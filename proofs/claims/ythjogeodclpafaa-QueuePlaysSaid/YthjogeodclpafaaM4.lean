/- Parts of the proof. The types of the data that several chapters share, and small plain functions. Tapes and changes: what is told of the functions that make histories. Conditions of functions in normal form, as printed by a program of this seat. Conditions of functions in normal form, as printed by a program of this seat. Conditions of functions in normal form, as printed by a program of this seat. Tapes and changes: small functions do what is told of them. Tapes and changes: texts, and what a change makes of the reference's store, queue and table. Tapes and changes: the reference's queue and table, new copies. Tapes and changes: a change is applied to a copy of the reference. Tapes and changes: the next change of a tape. Histories. -/
import Derived.Test.YthjogeodclpafaaM3
import Derived.Test.YthjogeodclpafaaChecked
import Derived.KernelRfl
set_option linter.unusedVariables false
set_option linter.unusedSimpArgs false

section
namespace Go.Proofs.Ythjogeodclpafaa.AM
open Go Go.Proofs.Ythjogeodclpafaa

abbrev I : Ty := .int .i64
abbrev Item : Ty := .pair I .str
abbrev Lease : Ty := .pair I (.pair I (.pair I I))
abbrev Change : Ty := .pair I (.pair I (.pair I (.pair I (.pair I (.pair I (.pair .str .str))))))
/-- An item: number, value. A lease: item, client, epoch, until. A change: epoch, number, kind, client, the client's number, item, key, value. -/
abbrev Tm := Item.D
abbrev Le := Lease.D
abbrev Ch := Change.D
abbrev CellT : Ty := .pair .str (.pair .str I)
abbrev ReplyT : Ty := .pair I (.pair I (.pair I .str))
abbrev Win : Ty := .pair I (.pair I (.pair I (.pair I I)))
/-- A key with its value and the number of the change; a reply: error, number, item, value; a window: cell, epoch, version, from, until. -/
abbrev Ce := CellT.D
abbrev Rp := ReplyT.D
abbrev W := Win.D

abbrev iv (n : Int) : SV := .t (.one (.int .i64 n))
abbrev bv (b : Bool) : SV := .t (.one (.bool b))
abbrev sv (s : ByteArray) : SV := .t (.one (.str s))
abbrev pv (n : Nat) : SV := .t (.one (.ptr n 0))
abbrev hv (n : Nat) : SV := .t (.one (.hd n))
abbrev tv (x : Tm) : SV := .t (.agg [.int .i64 x.1, .str x.2])
abbrev lv (x : Le) : SV := .t (.agg [.int .i64 x.1, .int .i64 x.2.1, .int .i64 x.2.2.1, .int .i64 x.2.2.2])
abbrev cv (x : Ch) : SV := .t (.agg [.int .i64 x.1, .int .i64 x.2.1, .int .i64 x.2.2.1, .int .i64 x.2.2.2.1, .int .i64 x.2.2.2.2.1, .int .i64 x.2.2.2.2.2.1, .str x.2.2.2.2.2.2.1, .str x.2.2.2.2.2.2.2])
abbrev ft (xs : List Tm) : SV := .t (.one (.fsl 52 Item xs))
abbrev fl (xs : List Le) : SV := .t (.one (.fsl 54 Lease xs))
abbrev fc (xs : List Ch) : SV := .t (.one (.fsl 29 Change xs))
abbrev fi (xs : List Int) : SV := .t (.one (.fsl 3 I xs))
/-- A queue of the reference; a tape. -/
abbrev rC (xs : List Tm) (ls : List Le) (p : Int) : AObj := .cells 49 [.fsl 52 Item xs, .fsl 54 Lease ls, .int .i64 p]
abbrev tC (l : List Int) (k : Int) : AObj := .cells 91 [.fsl 3 I l, .int .i64 k]
abbrev tR (xs : List Tm) : AObj := .row 52 Item xs
abbrev lR (xs : List Le) : AObj := .row 54 Lease xs
abbrev cR (xs : List Ch) : AObj := .row 29 Change xs

/-- A list is short enough to be worked on. -/
def lenMax : Nat := 1099511627776

def keyB (s : ByteArray) : Bool := decide ((s.size : Int) ≥ 1) && decide ((s.size : Int) ≤ 16)
def valueB (s : ByteArray) : Bool := decide ((s.size : Int) ≤ 64)

def emptyB (s : ByteArray) : Bool := s.toList == ByteArray.toList ⟨#[]⟩
def validC (x : Ch) : Bool :=
  !(decide (x.1 < (1 : Int)) || decide (x.1 > (1048576 : Int)) || decide (x.2.1 < (1 : Int)) || decide (x.2.1 > (4096 : Int)) || decide (x.2.2.2.1 < (1 : Int)) || decide (x.2.2.2.1 > (8 : Int)) || decide (x.2.2.2.2.1 < (1 : Int)) || decide (x.2.2.2.2.1 > (1048576 : Int))) &&
  if x.2.2.1 = (1 : Int) then keyB x.2.2.2.2.2.2.1 && valueB x.2.2.2.2.2.2.2 && (x.2.2.2.2.2.1 == (0 : Int))
  else if x.2.2.1 = (2 : Int) then keyB x.2.2.2.2.2.2.1 && emptyB x.2.2.2.2.2.2.2 && (x.2.2.2.2.2.1 == (0 : Int))
  else if x.2.2.1 = (3 : Int) then emptyB x.2.2.2.2.2.2.1 && valueB x.2.2.2.2.2.2.2 && (x.2.2.2.2.2.1 == (0 : Int))
  else if x.2.2.1 = (4 : Int) then emptyB x.2.2.2.2.2.2.1 && emptyB x.2.2.2.2.2.2.2 && decide (x.2.2.2.2.2.1 ≥ (1 : Int)) && decide (x.2.2.2.2.2.1 < x.2.1)
  else false

/-- A store, a table, a gate and a copy of the reference. -/
abbrev rsC (xs : List Ce) : AObj := .cells 102 [.fsl 120 CellT xs]
abbrev rtC (ns : List Int) (rs : List Rp) : AObj := .cells 108 [.arr 8 I ns, .arr 8 ReplyT rs]
abbrev rgC (c cl : Int) (ws : List W) : AObj := .cells 111 [.int .i64 c, .int .i64 cl, .fsl 142 Win ws]
abbrev cpC (c t : Int) (h : List Ch) (s q tb g : Nat) : AObj := .cells 87 [.int .i64 c, .int .i64 t, .fsl 29 Change h, .ptr s 0, .ptr q 0, .ptr tb 0, .ptr g 0]
abbrev chA (a b c d e f : Int) (g h : ByteArray) : SV := .t (.agg [.int .i64 a, .int .i64 b, .int .i64 c, .int .i64 d, .int .i64 e, .int .i64 f, .str g, .str h])
abbrev leT (x : Le) : TV := .agg [.int .i64 x.1, .int .i64 x.2.1, .int .i64 x.2.2.1, .int .i64 x.2.2.2]
abbrev itT (x : Tm) : TV := .agg [.int .i64 x.1, .str x.2]

/-! ### Tapes -/
def nextV (l : List Int) (k : Nat) (n : Int) : Int := match l[k]? with | some x => x % n | none => 0
def nextK (l : List Int) (k : Nat) : Nat := if k < l.length then k + 1 else k
def lettersGo (l : List Int) : Nat → Nat → List Int × Nat
  | 0, k => ([], k)
  | n + 1, k => ((lettersGo l n k).1 ++ [IntKind.u8.wrap (97 + IntKind.u8.wrap (nextV l (lettersGo l n k).2 4))], nextK l (lettersGo l n k).2)
def textN (l : List Int) (k : Nat) (low n : Int) : Int := bif nextV l (nextK l k) 9 == 8 then n else low + nextV l k (min n (low + 2) - low + 1)
def textV (l : List Int) (k : Nat) (low n : Int) : ByteArray × Nat :=
  let r := lettersGo l (textN l k low n).toNat (nextK l (nextK l k))
  (strOfNums r.1, r.2)

/-! ### The store, the queue and the table of the reference -/
def find24 (xs : List Ce) (key : ByteArray) : Nat := (xs.takeWhile fun c => Op.bytesLess c.1.toList key.toList).length
def has24 (xs : List Ce) (key : ByteArray) : Bool := decide (find24 xs key < xs.length) && ((xs.getD (find24 xs key) CellT.zero).1.toList == key.toList)
def apply24 (xs : List Ce) (x : Ch) : Int × List Ce :=
  bif !validC x then (1, xs)
  else bif (x.2.2.1 == 1) && has24 xs x.2.2.2.2.2.2.1 then (0, xs.set (find24 xs x.2.2.2.2.2.2.1) (x.2.2.2.2.2.2.1, x.2.2.2.2.2.2.2, x.2.1))
  else bif x.2.2.1 == 1 then bif decide ((xs.length : Int) ≥ 32) then (33, xs) else (0, xs.take (find24 xs x.2.2.2.2.2.2.1) ++ [(x.2.2.2.2.2.2.1, x.2.2.2.2.2.2.2, x.2.1)] ++ xs.drop (find24 xs x.2.2.2.2.2.2.1))
  else bif x.2.2.1 == 2 then bif !has24 xs x.2.2.2.2.2.2.1 then (34, xs) else (0, xs.take (find24 xs x.2.2.2.2.2.2.1) ++ xs.drop (find24 xs x.2.2.2.2.2.2.1 + 1))
  else (0, xs)

/-- The waiting items, the leases, the greatest number that was pushed. -/
abbrev Q := List Tm × List Le × Int
def atQ (xs : List Tm) (n : Int) : Int := idxE (fun w => w.1 == n) xs
def dropR (ls : List Le) (n : Int) : List Le := ls.filter fun l => l.1 != n
def applyR (q : Q) (x : Ch) : Int × Q :=
  bif !validC x then (1, q)
  else bif x.2.2.1 == 3 then
    bif decide (x.2.1 ≤ q.2.2) then (36, q) else bif decide ((q.1.length : Int) ≥ 16) then (33, q) else (0, (q.1 ++ [(x.2.1, x.2.2.2.2.2.2.2)], q.2.1, x.2.1))
  else bif x.2.2.1 == 4 then
    bif decide (atQ q.1 x.2.2.2.2.2.1 < 0) then (34, q) else (0, (q.1.take (atQ q.1 x.2.2.2.2.2.1).toNat ++ q.1.drop ((atQ q.1 x.2.2.2.2.2.1).toNat + 1), dropR q.2.1 x.2.2.2.2.2.1, q.2.2))
  else (0, q)
def liveR (e n t : Int) (l : Le) : Bool := (l.1 == n) && (l.2.2.1 == e) && decide (t < l.2.2.2)
def findR (ls : List Le) (e n t : Int) : Le × Bool := match ls.find? (liveR e n t) with
  | some l => (l, true)
  | none => ((0, 0, 0, 0), false)
def badT (c e t h : Int) : Bool := decide (c < 1) || decide (c > 8) || decide (e < 1) || decide (e > 1048576) || decide (t < 0) || decide (t > 1073741824) || decide (h < 1) || decide (h > 1000)
def takeR (q : Q) (c e t h : Int) : (Tm × Le × Int) × Q :=
  bif badT c e t h then (((0, ⟨#[]⟩), (0, 0, 0, 0), 1), q)
  else match q.1.find? (fun x => !(findR q.2.1 e x.1 t).2) with
    | some x => ((x, (x.1, c, e, t + h), 0), (q.1, dropR q.2.1 x.1 ++ [(x.1, c, e, t + h)], q.2.2))
    | none => (((0, ⟨#[]⟩), (0, 0, 0, 0), 34), q)
def leasesR (q : Q) (e t : Int) : List Le := (q.1.filter fun x => (findR q.2.1 e x.1 t).2).map fun x => (findR q.2.1 e x.1 t).1

abbrev TB := List Int × List Rp
def apply26 (t : TB) (x : Ch) : Int × TB :=
  bif !validC x then (1, t)
  else bif x.2.2.2.2.1 != wr (t.1.getD (x.2.2.2.1 - 1).toNat 0 + 1) then (32, t)
  else (0, (t.1.set (x.2.2.2.1 - 1).toNat x.2.2.2.2.1, t.2.set (x.2.2.2.1 - 1).toNat (0, x.2.1, (bif x.2.2.1 == 3 then x.2.1 else x.2.2.2.2.2.1), ⟨#[]⟩)))
def last26 (ns : List Int) (c : Int) : Int := bif decide (c < 1) || decide (c > 8) then 0 else ns.getD (c - 1).toNat 0

/-- A copy of the reference: history, store, queue, table. -/
structure CP where
  h : List Ch
  s : List Ce
  q : Q
  t : TB
def epoch28 (h : List Ch) : Int := (h.getD (h.length - 1) Change.zero).1
def ns0 : List Int := List.replicate 8 0
def rs0 : List Rp := List.replicate 8 (0, 0, 0, ⟨#[]⟩)
def new28 : CP := ⟨[], [], ([], [], 0), (ns0, rs0)⟩
def apply28 (s : CP) (x : Ch) : Int × CP :=
  bif !validC x then (1, s)
  else bif (x.2.1 != (s.h.length : Int) + 1) || decide (x.1 < epoch28 s.h) then (36, s)
  else bif (apply26 s.t x).1 != 0 then ((apply26 s.t x).1, s)
  else bif (apply24 s.s x).1 != 0 then ((apply24 s.s x).1, s)
  else bif (applyR s.q x).1 != 0 then ((applyR s.q x).1, s)
  else (0, ⟨s.h ++ [x], (apply24 s.s x).2, (applyR s.q x).2, (apply26 s.t x).2⟩)

/-- What has been drawn of a change: client, number, kind. -/
def chgC (l : List Int) (k : Nat) : Int := 1 + nextV l (nextK l k) 4
def chgN (l : List Int) (k : Nat) (s : CP) : Int := wr (last26 s.t.1 (chgC l k) + 1)
def chg0 (l : List Int) (k : Nat) : Int := 1 + nextV l k 4
def chg1 (l : List Int) (k : Nat) (s : CP) : Int := bif (chg0 l k == 4) && ((s.q.1.length : Int) == 0) then 3 else chg0 l k
def chg2 (l : List Int) (k : Nat) (s : CP) : Int := bif (chg1 l k s == 2) && ((s.s.length : Int) == 0) then 1 else chg1 l k s
/-- The next change of a tape. -/
def changeV (l : List Int) (k : Nat) (s : CP) (e : Int) : Ch × Nat :=
  let k2 := nextK l (nextK l k)
  bif chg2 l k s == 1 then ((e, (s.h.length : Int) + 1, chg2 l k s, chgC l k, chgN l k s, 0, (textV l k2 1 16).1, (textV l (textV l k2 1 16).2 0 64).1), (textV l (textV l k2 1 16).2 0 64).2)
  else bif chg2 l k s == 2 then ((e, (s.h.length : Int) + 1, chg2 l k s, chgC l k, chgN l k s, 0, (s.s.getD (nextV l k2 s.s.length).toNat CellT.zero).1, ⟨#[]⟩), nextK l k2)
  else bif chg2 l k s == 3 then ((e, (s.h.length : Int) + 1, chg2 l k s, chgC l k, chgN l k s, 0, ⟨#[]⟩, (textV l k2 0 64).1), (textV l k2 0 64).2)
  else ((e, (s.h.length : Int) + 1, chg2 l k s, chgC l k, chgN l k s, (s.q.1.getD (nextV l k2 s.q.1.length).toNat Item.zero).1, ⟨#[]⟩, ⟨#[]⟩), nextK l k2)

/-- A tape's place, an epoch, a copy. -/
structure GS where
  k : Nat
  e : Int
  c : CP
def growStep (l : List Int) (g : GS) : GS :=
  bif decide (g.k < l.length) then
    let e := bif nextV l g.k 7 == 6 then g.e + 1 else g.e
    let x := changeV l (nextK l g.k) g.c e
    ⟨x.2, e, (apply28 g.c x.1).2⟩
  else g
def growN (l : List Int) : Nat → GS → GS
  | 0, g => g
  | n + 1, g => growStep l (growN l n g)
def histCP (l : List Int) : CP := (growN l 60 ⟨0, 1, new28⟩).c
def histF (l : List Int) : List Ch := (histCP l).h

/-! ### Specs by the code itself, and what closes tables -/
def inl (fn : Func) (L : List (Nat × Spec)) (N : Anns := {}) : Spec := ⟨[], fun vs H K => fnVC Try.prog (look L) N fn vs H K⟩
theorem hm : Try.prog.follows .mixedOrders = true := by kernel_rfl
/-- With the condition in normal form. -/
theorem fn_satE {f : Nat} {fn : Func} {T : Tab} {N : Anns} {args : List SV} {H : List AObj} {K : SV → List AObj → Prop} {X : Prop} (hT : TabOK Try.prog T) (hf : Try.prog.funcs[f]? = some fn) (e : X = fnVC Try.prog T N fn args H K) (x : X) : Sat Try.prog f args H K :=
  fn_sat hm hT hf (e ▸ x)
theorem inl_sat {f : Nat} {fn : Func} {L : List (Nat × Spec)} {N : Anns} (hL : TabOK Try.prog (look L)) (hf : Try.prog.funcs[f]? = some fn) : ∀ vs H K, (inl fn L N).cps vs H K → Sat Try.prog f vs H K :=
  fun _ _ _ h => fn_sat hm hL hf h

theorem look_append (l1 l2 : List (Nat × Spec)) (f : Nat) : look (l1 ++ l2) f = match look l1 f with
    | some S => some S
    | none => look l2 f := by
  induction l1 with
  | nil => rfl
  | cons p r ih =>
    obtain ⟨g, S⟩ := p
    simp only [List.cons_append, look]
    split
    · rfl
    · exact ih
theorem look_app {l1 l2 : List (Nat × Spec)} (h1 : TabOK Try.prog (look l1)) (h2 : TabOK Try.prog (look l2)) : TabOK Try.prog (look (l1 ++ l2)) := by
  intro f S hf
  rw [look_append] at hf
  split at hf
  · rename_i S' hS
    cases hf
    exact h1 f _ hS
  · exact h2 f S hf

/-! ### Lists are folded, and compared -/
def runF {σ : Type} (f : σ → Ch → Int × σ) (h : List Ch) (q : σ) : σ := h.foldl (fun q x => (f q x).2) q
def foldF {σ : Type} (f : σ → Ch → Int × σ) : List Ch → Nat → σ → Int × Int × σ
  | [], i, q => ((i : Int), 0, q)
  | x :: r, i, q => bif (f q x).1 != 0 then ((i : Int), (f q x).1, q) else foldF f r (i + 1) (f q x).2
def shortC (x : Ch) : Bool := decide ((x.2.2.2.2.2.2.1.size : Int) ≤ 100) && decide ((x.2.2.2.2.2.2.2.size : Int) ≤ 100)
def fewB (l : List Ch) (n : Int) : Bool := decide ((l.length : Int) ≤ n) && l.all shortC

theorem toList_eqb (a b : ByteArray) : (a.toList == b.toList) = decide (a = b) := by
  by_cases h : a = b
  · subst h; simp
  · rw [decide_eq_false h, beq_eq_false_iff_ne]
    intro e
    rw [ByteArray.toList_eq, ByteArray.toList_eq] at e
    exact h (ByteArray.ext (Array.toList_inj.mp e))
theorem eqb_item (a b : Tm) : Ty.eqb Item a b = decide (a = b) := by
  obtain ⟨a1, a2⟩ := a
  obtain ⟨b1, b2⟩ := b
  show ((show Int from a1) == (show Int from b1) && (ByteArray.toList a2 == ByteArray.toList b2)) = _
  rw [toList_eqb]
  simp only [Prod.mk.injEq, Bool.decide_and]
  rfl
theorem eqb_lease (a b : Le) : Ty.eqb Lease a b = decide (a = b) := by
  obtain ⟨a1, a2, a3, a4⟩ := a
  obtain ⟨b1, b2, b3, b4⟩ := b
  show ((show Int from a1) == (show Int from b1) && ((show Int from a2) == (show Int from b2) && ((show Int from a3) == (show Int from b3) && (show Int from a4) == (show Int from b4)))) = _
  simp only [Prod.mk.injEq, Bool.decide_and]
  rfl
/-- What lists have been compared to. -/
theorem take_step {α : Type} (z : α) {a b : List α} {k : Nat} (ha : k < a.length) (hb : k < b.length) (h : a.take k = b.take k) (e : a.getD k z = b.getD k z) : a.take (k + 1) = b.take (k + 1) := by
  rw [take_next z ha, take_next z hb, h, e]
theorem take_ne {α : Type} (z : α) {a b : List α} {k : Nat} (e : a.getD k z ≠ b.getD k z) : a ≠ b := fun h => e (by rw [h])
theorem take_all {α : Type} {a b : List α} {k : Nat} (hl : a.length = b.length) (hk : a.length ≤ k) (h : a.take k = b.take k) : a = b := by
  rwa [List.take_of_length_le hk, List.take_of_length_le (by omega)] at h
end Go.Proofs.Ythjogeodclpafaa.AM
end

section
namespace Go.Proofs.Ythjogeodclpafaa.AM
open Go Go.Proofs.Ythjogeodclpafaa

def S_Mod : Spec := ⟨[], fun vs H K => match vs, H with
  | [(.t (.one (.int .i64 a))), (.t (.one (.int .i64 b)))], [] => 0 < b ∧ b ≤ 1099511627776 ∧ K (iv (a % b)) []
  | _, _ => False⟩
def S_Next : Spec := ⟨[], fun vs H K => match vs, H with
  | [(.t (.one (.ptr 0 0))), (.t (.one (.int .i64 n)))], [(.cells 91 [.fsl 3 (.int .i64) l, .int .i64 (.ofNat k)])] => 0 < n ∧ n ≤ 1099511627776 ∧ l.length ≤ lenMax ∧ K (iv (nextV l k n)) [tC l (.ofNat (nextK l k))]
  | _, _ => False⟩
def S_Range : Spec := ⟨[], fun vs H K => match vs, H with
  | [(.t (.one (.ptr 0 0))), (.t (.one (.int .i64 a))), (.t (.one (.int .i64 b)))], [(.cells 91 [.fsl 3 (.int .i64) l, .int .i64 (.ofNat k)])] => -1099511627 ≤ a ∧ a ≤ b ∧ b ≤ 1099511627 ∧ l.length ≤ lenMax ∧ K (iv (a + nextV l k (b - a + 1))) [tC l (.ofNat (nextK l k))]
  | _, _ => False⟩
def S_Text : Spec := ⟨[], fun vs H K => match vs, H with
  | [(.t (.one (.ptr 0 0))), (.t (.one (.int .i64 a))), (.t (.one (.int .i64 b)))], [(.cells 91 [.fsl 3 (.int .i64) l, .int .i64 (.ofNat k)])] => 0 ≤ a ∧ a ≤ b ∧ b ≤ 1000 ∧ l.length ≤ lenMax ∧ ∀ r : ByteArray × Nat, r = textV l k a b → K (sv r.1) [tC l (.ofNat r.2)]
  | _, _ => False⟩
def S_Valid24 : Spec := ⟨[], fun vs H K => match vs, H with
  | [(.t (.agg [.int .i64 a, .int .i64 b, .int .i64 c, .int .i64 d, .int .i64 e, .int .i64 f, .str g, .str h]))], [] => K (bv (validC (a, b, c, d, e, f, g, h))) []
  | _, _ => False⟩
def S_at25 : Spec := ⟨[], fun vs H K => match vs, H with
  | [(.t (.one (.ptr 0 0))), (.t (.one (.int .i64 n)))], [(.cells 49 [.fsl 52 (.pair (.int .i64) .str) xs, .fsl 54 (.pair (.int .i64) (.pair (.int .i64) (.pair (.int .i64) (.int .i64)))) ls, .int .i64 p])] => xs.length ≤ lenMax ∧ K (iv (atQ xs n)) [rC xs ls p]
  | _, _ => False⟩
def S_drop25 : Spec := ⟨[], fun vs H K => match vs, H with
  | [(.t (.one (.ptr 0 0))), (.t (.one (.int .i64 n)))], [(.cells 49 [.fsl 52 (.pair (.int .i64) .str) xs, .fsl 54 (.pair (.int .i64) (.pair (.int .i64) (.pair (.int .i64) (.int .i64)))) ls, .int .i64 p])] => ls.length ≤ lenMax ∧ K (.tup []) [.cells 49 [.fsl 52 Item xs, .hd 1, .int .i64 p], lR (dropR ls n)]
  | [(.t (.one (.ptr 0 0))), (.t (.one (.int .i64 n)))], [.cells 49 [.hd 1, .fsl 54 (.pair (.int .i64) (.pair (.int .i64) (.pair (.int .i64) (.int .i64)))) ls, .int .i64 p], (.row 52 (.pair (.int .i64) .str) xs)] => ls.length ≤ lenMax ∧ K (.tup []) [.cells 49 [.hd 1, .hd 2, .int .i64 p], tR xs, lR (dropR ls n)]
  | _, _ => False⟩
def S_find24 : Spec := ⟨[], fun vs H K => match vs, H with
  | [(.t (.one (.ptr 0 0))), (.t (.one (.str s)))], [(.cells 102 [.fsl 120 (.pair .str (.pair .str (.int .i64))) xs])] => xs.length ≤ lenMax ∧ K (.tup [.one (.int .i64 (find24 xs s : Nat)), .one (.bool (has24 xs s))]) [rsC xs]
  | _, _ => False⟩

def S_Epoch : Spec := ⟨[], fun vs H K => match vs, H with
  | [(.t (.one (.ptr 0 0)))], [(.cells 87 [.int .i64 cc, .int .i64 ct, .fsl 29 (.pair (.int .i64) (.pair (.int .i64) (.pair (.int .i64) (.pair (.int .i64) (.pair (.int .i64) (.pair (.int .i64) (.pair .str .str))))))) hs, .ptr 1 0, .ptr 2 0, .ptr 3 0, .ptr 4 0]), (.cells 102 [.fsl 120 (.pair .str (.pair .str (.int .i64))) xs]), (.cells 49 [.fsl 52 (.pair (.int .i64) .str) its, .fsl 54 (.pair (.int .i64) (.pair (.int .i64) (.pair (.int .i64) (.int .i64)))) ls, .int .i64 p]), (.cells 108 [.arr 8 (.int .i64) ns, .arr 8 (.pair (.int .i64) (.pair (.int .i64) (.pair (.int .i64) .str))) rs]), (.cells 111 [.int .i64 gc, .int .i64 gl, .fsl 142 (.pair (.int .i64) (.pair (.int .i64) (.pair (.int .i64) (.pair (.int .i64) (.int .i64))))) ws])] => hs.length ≤ lenMax ∧ K (iv (epoch28 hs)) [cpC cc ct hs 1 2 3 4, rsC xs, rC its ls p, rtC ns rs, rgC gc gl ws]
  | _, _ => False⟩
def LB0 : List (Nat × Spec) := [(66, inl Try.f66 []), (11, S_Mod), (25, inl Try.f25 []), (26, inl Try.f26 []), (18, inl Try.f18 []), (39, inl Try.f39 []), (68, inl Try.f68 []), (74, inl Try.f74 [])]
def LB1 : List (Nat × Spec) := (67, inl Try.f67 LB0) :: (28, S_Next) :: LB0
def LB2 : List (Nat × Spec) := (27, S_Range) :: (52, S_Valid24) :: (53, S_at25) :: (54, S_drop25) :: (78, S_find24) :: LB1

def N_at25 (xs : List Tm) (n : Int) : Anns := { loop := fun r s => match r with
  | 2 => annOf (α := Nat) [1, 10, 11, 12] [] s (fun k => [(12, iv k)]) (fun _ => []) (fun _ k => k ≤ xs.findIdx (fun w => w.1 == n)) (fun k => xs.length - k)
  | _ => none }
def N_drop25 (m : Nat) (ls : List Le) (n : Int) : Anns := { loop := fun r s => match r with
  | 2 => annOf (α := Nat) [0, 1, 4, 10, 11, 12] [(4, 54, Lease)] s (fun k => [(12, iv k), (4, hv m)]) (fun k => [(m, lR (dropR (ls.take k) n))]) (fun _ k => k ≤ ls.length) (fun k => ls.length - k)
  | _ => none }
def N_find24 (xs : List Ce) (s : ByteArray) : Anns := { loop := fun r s' => match r with
  | 2 => annOf (α := Nat) [0, 1, 6] [] s' (fun k => [(6, iv k)]) (fun _ => []) (fun _ k => k ≤ find24 xs s) (fun k => xs.length - k)
  | _ => none }
def N_Text (l : List Int) (k : Nat) (n : Int) : Anns := { loop := fun r s => match r with
  | 6 => annOf (α := Nat) [0, 8, 24, 25] [] s (fun i => [(25, iv i)]) (fun i => [(0, tC l (.ofNat (lettersGo l i k).2)), (1, .row 5 (.int .u8) ((lettersGo l i k).1 ++ List.replicate (n.toNat - i) 0))]) (fun _ i => i ≤ n.toNat) (fun i => n.toNat - i)
  | _ => none }

/-! ### Applying a change -/
def S_apply24 : Spec := ⟨[], fun vs H K => match vs, H with
  | [(.t (.one (.ptr 0 0))), (.t (.agg [.int .i64 a, .int .i64 b, .int .i64 c, .int .i64 d, .int .i64 e, .int .i64 f, .str g, .str h]))], [(.cells 102 [.fsl 120 (.pair .str (.pair .str (.int .i64))) xs])] => xs.length ≤ lenMax ∧ ∀ r : Int × List Ce, r = apply24 xs (a, b, c, d, e, f, g, h) → K (iv r.1) [rsC r.2]
  | _, _ => False⟩
def S_apply25 : Spec := ⟨[], fun vs H K => match vs, H with
  | [(.t (.one (.ptr 0 0))), (.t (.agg [.int .i64 a, .int .i64 b, .int .i64 c, .int .i64 d, .int .i64 e, .int .i64 f, .str g, .str h]))], [(.cells 49 [.fsl 52 (.pair (.int .i64) .str) xs, .fsl 54 (.pair (.int .i64) (.pair (.int .i64) (.pair (.int .i64) (.int .i64)))) ls, .int .i64 p])] => xs.length ≤ lenMax ∧ ls.length ≤ lenMax ∧ ∀ r : Int × Q, r = applyR (xs, ls, p) (a, b, c, d, e, f, g, h) → K (iv r.1) [rC r.2.1 r.2.2.1 r.2.2.2]
  | _, _ => False⟩
def S_copy25 : Spec := ⟨[], fun vs H K => match vs, H with
  | [(.t (.one (.ptr 0 0)))], [(.cells 49 [.fsl 52 (.pair (.int .i64) .str) xs, .fsl 54 (.pair (.int .i64) (.pair (.int .i64) (.pair (.int .i64) (.int .i64)))) ls, .int .i64 p])] => xs.length ≤ lenMax ∧ ls.length ≤ lenMax ∧ K (pv 1) [rC xs ls p, rC xs ls p]
  | _, _ => False⟩
def S_apply26 : Spec := ⟨[], fun vs H K => match vs, H with
  | [(.t (.one (.ptr 0 0))), (.t (.agg [.int .i64 a, .int .i64 b, .int .i64 c, .int .i64 d, .int .i64 e, .int .i64 f, .str g, .str h]))], [(.cells 108 [.arr 8 (.int .i64) ns, .arr 8 (.pair (.int .i64) (.pair (.int .i64) (.pair (.int .i64) .str))) rs])] => ∀ r : Int × TB, r = apply26 (ns, rs) (a, b, c, d, e, f, g, h) → K (iv r.1) [rtC r.2.1 r.2.2]
  | _, _ => False⟩
def S_new28 : Spec := ⟨[], fun vs H K => match vs, H with
  | [(.t (.one (.int .i64 c))), (.t (.one (.int .i64 t)))], [] => K (pv 0) [cpC c t [] 1 2 3 4, rsC [], rC [] [] 0, rtC ns0 rs0, rgC c 0 []]
  | _, _ => False⟩
def LB3 : List (Nat × Spec) := (75, S_Text) :: (73, S_apply24) :: (31, S_apply25) :: (34, S_copy25) :: (72, S_apply26) :: (48, S_new28) :: (71, S_Epoch) :: LB2
def S_apply28 : Spec := ⟨[], fun vs H K => match vs, H with
  | [(.t (.one (.ptr 0 0))), (.t (.agg [.int .i64 a, .int .i64 b, .int .i64 c, .int .i64 d, .int .i64 e, .int .i64 f, .str g, .str h]))], [(.cells 87 [.int .i64 cc, .int .i64 ct, .fsl 29 (.pair (.int .i64) (.pair (.int .i64) (.pair (.int .i64) (.pair (.int .i64) (.pair (.int .i64) (.pair (.int .i64) (.pair .str .str))))))) hs, .ptr 1 0, .ptr 2 0, .ptr 3 0, .ptr 4 0]), (.cells 102 [.fsl 120 (.pair .str (.pair .str (.int .i64))) xs]), (.cells 49 [.fsl 52 (.pair (.int .i64) .str) its, .fsl 54 (.pair (.int .i64) (.pair (.int .i64) (.pair (.int .i64) (.int .i64)))) ls, .int .i64 p]), (.cells 108 [.arr 8 (.int .i64) ns, .arr 8 (.pair (.int .i64) (.pair (.int .i64) (.pair (.int .i64) .str))) rs]), (.cells 111 [.int .i64 gc, .int .i64 gl, .fsl 142 (.pair (.int .i64) (.pair (.int .i64) (.pair (.int .i64) (.pair (.int .i64) (.int .i64))))) ws])] => hs.length ≤ lenMax ∧ xs.length ≤ lenMax ∧ its.length ≤ lenMax ∧ ls.length ≤ lenMax ∧
    ∀ r : Int × CP, r = apply28 ⟨hs, xs, (its, ls, p), (ns, rs)⟩ (a, b, c, d, e, f, g, h) → K (iv r.1) [cpC cc ct r.2.h 5 6 7 4, .dead, .dead, .dead, rgC gc gl ws, rsC r.2.s, rC r.2.q.1 r.2.q.2.1 r.2.q.2.2, rtC r.2.t.1 r.2.t.2]
  | _, _ => False⟩
def S_Change : Spec := ⟨[], fun vs H K => match vs, H with
  | [(.t (.one (.ptr 0 0))), (.t (.one (.ptr 1 0))), (.t (.one (.int .i64 e)))], [(.cells 91 [.fsl 3 (.int .i64) l, .int .i64 (.ofNat k)]), (.cells 87 [.int .i64 cc, .int .i64 ct, .fsl 29 (.pair (.int .i64) (.pair (.int .i64) (.pair (.int .i64) (.pair (.int .i64) (.pair (.int .i64) (.pair (.int .i64) (.pair .str .str))))))) hs, .ptr 2 0, .ptr 3 0, .ptr 4 0, .ptr 5 0]), (.cells 102 [.fsl 120 (.pair .str (.pair .str (.int .i64))) xs]), (.cells 49 [.fsl 52 (.pair (.int .i64) .str) its, .fsl 54 (.pair (.int .i64) (.pair (.int .i64) (.pair (.int .i64) (.int .i64)))) ls, .int .i64 p]), (.cells 108 [.arr 8 (.int .i64) ns, .arr 8 (.pair (.int .i64) (.pair (.int .i64) (.pair (.int .i64) .str))) rs]), (.cells 111 [.int .i64 gc, .int .i64 gl, .fsl 142 (.pair (.int .i64) (.pair (.int .i64) (.pair (.int .i64) (.pair (.int .i64) (.int .i64))))) ws])] => l.length ≤ lenMax ∧ hs.length ≤ lenMax ∧ xs.length ≤ lenMax ∧ its.length ≤ lenMax ∧
    ∀ r : Ch × Nat, r = changeV l k ⟨hs, xs, (its, ls, p), (ns, rs)⟩ e → K (cv r.1) [tC l (.ofNat r.2), cpC cc ct hs 2 3 4 5, rsC xs, rC its ls p, rtC ns rs, rgC gc gl ws]
  | _, _ => False⟩
abbrev chC (a b c d e f : Int) (g h : ByteArray) : AObj := .cells 29 [.int .i64 a, .int .i64 b, .int .i64 c, .int .i64 d, .int .i64 e, .int .i64 f, .str g, .str h]
/-- A state with these slots and this heap. -/
def annS {α : Type} (keep : List Nat) (s : St) (U : α → List (Nat × SV)) (H : α → List AObj) (I : α → Prop) : Option Ann :=
  some { α := α, S := fun x => { s with sl := U x, H := H x }, I := I, keep := keep }
def N_apply28 (cc ct : Int) (hs : List Ch) (xs : List Ce) (q : Q) (t : TB) (gc gl : Int) (ws : List W) (x : Ch) : Anns := {
  loop := fun r s => match r with
  | 7 => annOf (α := Nat) [0, 3, 5, 6, 7, 57, 58, 59] [] s (fun k => [(59, iv k)]) (fun _ => []) (fun c k => k ≤ 3 ∧ ∀ j : Nat, j < k → (rowAt I c 9).getD j 0 = 0) (fun k => 3 - k)
  | _ => none
  seq := fun r s => match r with
  | 6 => annS (α := Unit) [0, 3, 5, 6, 7] s (fun _ => [(0, pv 0), (3, pv 5), (5, pv 6), (6, pv 7), (7, pv 8)])
      (fun _ => [cpC cc ct hs 1 2 3 4, rsC xs, rC q.1 q.2.1 q.2.2, rtC t.1 t.2, rgC gc gl ws, chC x.1 x.2.1 x.2.2.1 x.2.2.2.1 x.2.2.2.2.1 x.2.2.2.2.2.1 x.2.2.2.2.2.2.1 x.2.2.2.2.2.2.2, rtC t.1 t.2, rsC xs, rC q.1 q.2.1 q.2.2]) (fun _ => True)
  | _ => none }
def N_Change (l : List Int) (k : Nat) (e cc ct : Int) (c : CP) (gc gl : Int) (ws : List W) : Anns :=
  let H (d n : Int) : List AObj := [tC l (.ofNat (nextK l (nextK l k))), cpC cc ct c.h 2 3 4 5, rsC c.s, rC c.q.1 c.q.2.1 c.q.2.2, rtC c.t.1 c.t.2, rgC gc gl ws, chC 0 0 0 0 0 0 ⟨#[]⟩ ⟨#[]⟩, chC e ((c.h.length : Int) + 1) d (chgC l k) n 0 ⟨#[]⟩ ⟨#[]⟩]
  { seq := fun r s => match r with
  | 2 => annS (α := Unit) [0, 1, 6, 7] s (fun _ => [(0, pv 0), (1, pv 1), (6, pv 6), (7, pv 7)]) (fun _ => H (chg0 l k) 0) (fun _ => True)
  | 5 => annS (α := Unit) [0, 1, 6, 7] s (fun _ => [(0, pv 0), (1, pv 1), (6, pv 6), (7, pv 7)]) (fun _ => H (chg1 l k c) (chgN l k c)) (fun _ => True)
  | 7 => annS (α := Unit) [0, 1, 6, 7] s (fun _ => [(0, pv 0), (1, pv 1), (6, pv 6), (7, pv 7)]) (fun _ => H (chg2 l k c) (chgN l k c)) (fun _ => True)
  | _ => none }
def LB4 : List (Nat × Spec) := (63, S_apply28) :: (64, S_Change) :: LB3

/-! ### Histories -/
def S_History : Spec := ⟨[true], fun vs H K => match vs, H with
  | [(.t (.one (.fsl 3 (.int .i64) l)))], [] => l.length ≤ lenMax ∧ K (fc (histF l)) []
  | _, _ => False⟩
def N_Grow (l : List Int) (g : GS) (cc ct : Int) (gc gl : Int) (ws : List W) : Anns := { loop := fun r s => match r with
  | 1 => annOf (α := Nat) [0, 1, 2, 3, 8] [(1000002, 0, .bool), (1000003, 0, .bool), (1000004, 0, .bool)] s (fun i => [(8, iv i), (2, iv (growN l i g).e)])
      (fun i => [(0, tC l (.ofNat (growN l i g).k)), (1, cpC cc ct (growN l i g).c.h 6 7 8 5), (6, rsC (growN l i g).c.s), (7, rC (growN l i g).c.q.1 (growN l i g).c.q.2.1 (growN l i g).c.q.2.2), (8, rtC (growN l i g).c.t.1 (growN l i g).c.t.2)])
      (fun c i => i ≤ (intAt c 3).toNat) (fun i => 4096 - i)
  | _ => none }
def S_Grow : Spec := ⟨[], fun vs H K => match vs, H with
  | [(.t (.one (.ptr 0 0))), (.t (.one (.ptr 1 0))), (.t (.one (.int .i64 e))), (.t (.one (.int .i64 m)))], [(.cells 91 [.fsl 3 (.int .i64) l, .int .i64 (.ofNat k)]), (.cells 87 [.int .i64 cc, .int .i64 ct, .fsl 29 (.pair (.int .i64) (.pair (.int .i64) (.pair (.int .i64) (.pair (.int .i64) (.pair (.int .i64) (.pair (.int .i64) (.pair .str .str))))))) hs, .ptr 2 0, .ptr 3 0, .ptr 4 0, .ptr 5 0]), (.cells 102 [.fsl 120 (.pair .str (.pair .str (.int .i64))) xs]), (.cells 49 [.fsl 52 (.pair (.int .i64) .str) its, .fsl 54 (.pair (.int .i64) (.pair (.int .i64) (.pair (.int .i64) (.int .i64)))) ls, .int .i64 p]), (.cells 108 [.arr 8 (.int .i64) ns, .arr 8 (.pair (.int .i64) (.pair (.int .i64) (.pair (.int .i64) .str))) rs]), (.cells 111 [.int .i64 gc, .int .i64 gl, .fsl 142 (.pair (.int .i64) (.pair (.int .i64) (.pair (.int .i64) (.pair (.int .i64) (.int .i64))))) ws])] => l.length ≤ lenMax ∧ hs.length ≤ 10000 ∧ xs.length ≤ 10000 ∧ its.length ≤ 10000 ∧ ls.length ≤ 10000 ∧ 0 ≤ e ∧ e ≤ 1099511627776 ∧ 0 ≤ m ∧ m ≤ 100 ∧
    ∀ r : GS, r = growN l m.toNat ⟨k, e, ⟨hs, xs, (its, ls, p), (ns, rs)⟩⟩ → K (.tup []) [tC l (.ofNat r.k), cpC cc ct r.c.h 6 7 8 5, .dead, .dead, .dead, rgC gc gl ws, rsC r.c.s, rC r.c.q.1 r.c.q.2.1 r.c.q.2.2, rtC r.c.t.1 r.c.t.2]
  | _, _ => False⟩
def LB5 : List (Nat × Spec) := (49, S_Grow) :: LB4
def LB6 : List (Nat × Spec) := (19, S_History) :: LB5
end Go.Proofs.Ythjogeodclpafaa.AM
end

section
set_option linter.unusedVariables false
namespace Go.Proofs.Ythjogeodclpafaa.AM
open Go Go.Proofs.Ythjogeodclpafaa

theorem nfMod (a b : Int) (K : SV → List AObj → Prop) :
 (b ≠ (0 : Int) ∧ (decide (Int.tmod a b < (0 : Int)) = true → K (SV.b ((BV.int IntKind.i64 (wr (Int.tmod a b + b))))) []) ∧ (decide (Int.tmod a b < (0 : Int)) = false → K (SV.b ((BV.int IntKind.i64 (Int.tmod a b)))) []))
 = fnVC Try.prog (look []) {} Try.f11 [iv a, iv b] [] K := by kernel_rfl

theorem nfNext (l : List Int) (k : Nat) (n : Int) (K : SV → List AObj → Prop) :
 ((decide (Int.ofNat k ≥ (List.length l : Int)) = true → K (SV.b ((BV.int IntKind.i64 (0 : Int)))) [AObj.cells 91 [BV.fsl 3 I l, BV.int IntKind.i64 (Int.ofNat k)]]) ∧ (decide (Int.ofNat k ≥ (List.length l : Int)) = false → ((0 : Int) ≤ wr (wr (Int.ofNat k + (1 : Int)) - (1 : Int)) ∧ wr (wr (Int.ofNat k + (1 : Int)) - (1 : Int)) < (List.length l : Int)) ∧ (0 : Int) < n ∧ n ≤ (1099511627776 : Int) ∧ K (SV.b ((BV.int IntKind.i64 (List.getD l (Int.toNat (wr (wr (Int.ofNat k + (1 : Int)) - (1 : Int)))) (Ty.zero I) % n)))) [AObj.cells 91 [BV.fsl 3 I l, BV.int IntKind.i64 (wr (Int.ofNat k + (1 : Int)))]]))
 = fnVC Try.prog (look LB0) {} Try.f28 [pv 0, iv n] [tC l (.ofNat k)] K := by kernel_rfl

theorem nfRange (l : List Int) (k : Nat) (a b : Int) (K : SV → List AObj → Prop) :
 ((0 : Int) < wr (wr (b - a) + (1 : Int)) ∧ wr (wr (b - a) + (1 : Int)) ≤ (1099511627776 : Int) ∧ List.length l ≤ lenMax ∧ K (SV.b ((BV.int IntKind.i64 (wr (a + nextV l k (wr (wr (b - a) + (1 : Int)))))))) [AObj.cells 91 [BV.fsl 3 I l, BV.int IntKind.i64 (Int.ofNat (nextK l k))]])
 = fnVC Try.prog (look LB1) {} Try.f27 [pv 0, iv a, iv b] [tC l (.ofNat k)] K := by kernel_rfl

theorem nfValid24 (x : Ch) (K : SV → List AObj → Prop) :
 (((!(decide (x.fst ≥ (1 : Int)) && decide (x.fst ≤ (1048576 : Int)))) = true → K (SV.b ((BV.bool false))) []) ∧ ((!(decide (x.fst ≥ (1 : Int)) && decide (x.fst ≤ (1048576 : Int)))) = false → ((!(decide (x.snd.fst ≥ (1 : Int)) && decide (x.snd.fst ≤ (4096 : Int)))) = true → K (SV.b ((BV.bool false))) []) ∧ ((!(decide (x.snd.fst ≥ (1 : Int)) && decide (x.snd.fst ≤ (4096 : Int)))) = false → ((!(decide (x.snd.snd.snd.fst ≥ (1 : Int)) && decide (x.snd.snd.snd.fst ≤ (8 : Int)))) = true → K (SV.b ((BV.bool false))) []) ∧ ((!(decide (x.snd.snd.snd.fst ≥ (1 : Int)) && decide (x.snd.snd.snd.fst ≤ (8 : Int)))) = false → ((!(decide (x.snd.snd.snd.snd.fst ≥ (1 : Int)) && decide (x.snd.snd.snd.snd.fst ≤ (1048576 : Int)))) = true → K (SV.b ((BV.bool false))) []) ∧ ((!(decide (x.snd.snd.snd.snd.fst ≥ (1 : Int)) && decide (x.snd.snd.snd.snd.fst ≤ (1048576 : Int)))) = false → ((x.snd.snd.fst == (1 : Int)) = true → ((decide ((↑(ByteArray.size x.snd.snd.snd.snd.snd.snd.fst) : Int) ≥ (1 : Int)) && decide ((↑(ByteArray.size x.snd.snd.snd.snd.snd.snd.fst) : Int) ≤ (16 : Int))) = true → K (SV.b ((BV.bool (decide ((↑(ByteArray.size x.snd.snd.snd.snd.snd.snd.snd) : Int) ≤ (64 : Int)) && x.snd.snd.snd.snd.snd.fst == (0 : Int))))) []) ∧ ((decide ((↑(ByteArray.size x.snd.snd.snd.snd.snd.snd.fst) : Int) ≥ (1 : Int)) && decide ((↑(ByteArray.size x.snd.snd.snd.snd.snd.snd.fst) : Int) ≤ (16 : Int))) = false → K (SV.b ((BV.bool false))) [])) ∧ ((x.snd.snd.fst == (1 : Int)) = false → ((x.snd.snd.fst == (2 : Int)) = true → K (SV.b ((BV.bool (decide ((↑(ByteArray.size x.snd.snd.snd.snd.snd.snd.fst) : Int) ≥ (1 : Int)) && decide ((↑(ByteArray.size x.snd.snd.snd.snd.snd.snd.fst) : Int) ≤ (16 : Int)) && ByteArray.toList x.snd.snd.snd.snd.snd.snd.snd == ByteArray.toList (⟨#[]⟩ : ByteArray) && x.snd.snd.snd.snd.snd.fst == (0 : Int))))) []) ∧ ((x.snd.snd.fst == (2 : Int)) = false → ((x.snd.snd.fst == (3 : Int)) = true → ((ByteArray.toList x.snd.snd.snd.snd.snd.snd.fst == ByteArray.toList (⟨#[]⟩ : ByteArray)) = true → K (SV.b ((BV.bool (decide ((↑(ByteArray.size x.snd.snd.snd.snd.snd.snd.snd) : Int) ≤ (64 : Int)) && x.snd.snd.snd.snd.snd.fst == (0 : Int))))) []) ∧ ((ByteArray.toList x.snd.snd.snd.snd.snd.snd.fst == ByteArray.toList (⟨#[]⟩ : ByteArray)) = false → K (SV.b ((BV.bool false))) [])) ∧ ((x.snd.snd.fst == (3 : Int)) = false → ((x.snd.snd.fst == (4 : Int)) = true → ((ByteArray.toList x.snd.snd.snd.snd.snd.snd.fst == ByteArray.toList (⟨#[]⟩ : ByteArray) && ByteArray.toList x.snd.snd.snd.snd.snd.snd.snd == ByteArray.toList (⟨#[]⟩ : ByteArray)) = true → K (SV.b ((BV.bool (decide (x.snd.snd.snd.snd.snd.fst ≥ (1 : Int)) && decide (x.snd.snd.snd.snd.snd.fst ≤ wr (x.snd.fst - (1 : Int))))))) []) ∧ ((ByteArray.toList x.snd.snd.snd.snd.snd.snd.fst == ByteArray.toList (⟨#[]⟩ : ByteArray) && ByteArray.toList x.snd.snd.snd.snd.snd.snd.snd == ByteArray.toList (⟨#[]⟩ : ByteArray)) = false → K (SV.b ((BV.bool false))) [])) ∧ ((x.snd.snd.fst == (4 : Int)) = false → K (SV.b ((BV.bool false))) [])))))))))
 = fnVC Try.prog (look LB1) {} Try.f52 [cv x] [] K := by kernel_rfl

theorem nfAt25 (xs : List Tm) (ls : List Le) (p n : Int) (K : SV → List AObj → Prop) :
 ((∃ (y : Nat), (n = n ∧ xs = xs ∧ (List.length xs : Int) = (List.length xs : Int) ∧ (0 : Int) = (↑y : Int) ∧ xs = xs ∧ ls = ls ∧ p = p ∧ True) ∧ y ≤ List.findIdx (fun (w : Tm) => w.fst == n) xs) ∧ ∀ (x : Nat), x ≤ List.findIdx (fun (w : Tm) => w.fst == n) xs → (decide ((↑x : Int) < (List.length xs : Int)) = true → ((0 : Int) ≤ (↑x : Int) ∧ (↑x : Int) < (List.length xs : Int)) ∧ (((List.getD xs x (Ty.zero Item)).fst == n) = true → K (SV.b ((BV.int IntKind.i64 (↑x : Int)))) [AObj.cells 49 [BV.fsl 52 Item xs, BV.fsl 54 Lease ls, BV.int IntKind.i64 p]]) ∧ (((List.getD xs x (Ty.zero Item)).fst == n) = false → ∃ (y : Nat), (n = n ∧ xs = xs ∧ (List.length xs : Int) = (List.length xs : Int) ∧ wr ((↑x : Int) + (1 : Int)) = (↑y : Int) ∧ xs = xs ∧ ls = ls ∧ p = p ∧ True) ∧ y ≤ List.findIdx (fun (w : Tm) => w.fst == n) xs ∧ List.length xs - y < List.length xs - x)) ∧ (decide ((↑x : Int) < (List.length xs : Int)) = false → K (SV.b ((BV.int IntKind.i64 (-1 : Int)))) [AObj.cells 49 [BV.fsl 52 Item xs, BV.fsl 54 Lease ls, BV.int IntKind.i64 p]]))
 = fnVC Try.prog (look LB1) (N_at25 xs n) Try.f53 [pv 0, iv n] [rC xs ls p] K := by kernel_rfl

theorem nfDrop25 (xs : List Tm) (ls : List Le) (p n : Int) (K : SV → List AObj → Prop) :
 ((∃ (y : Nat), (n = n ∧ ls = ls ∧ (List.length ls : Int) = (List.length ls : Int) ∧ (0 : Int) = (↑y : Int) ∧ xs = xs ∧ ls = ls ∧ p = p ∧ [] = dropR (List.take y ls) n ∧ True) ∧ y ≤ List.length ls) ∧ ∀ (x : Nat), x ≤ List.length ls → (decide ((↑x : Int) < (List.length ls : Int)) = true → ((0 : Int) ≤ (↑x : Int) ∧ (↑x : Int) < (List.length ls : Int)) ∧ (((List.getD ls x (Ty.zero Lease)).fst != n) = true → (↑(List.length (dropR (List.take x ls) n) + List.length [((List.getD ls x (Ty.zero Lease)).fst, (List.getD ls x (Ty.zero Lease)).snd.fst, (List.getD ls x (Ty.zero Lease)).snd.snd.fst, (List.getD ls x (Ty.zero Lease)).snd.snd.snd)]) : Int) * (32 : Int) ≤ (140737488355328 : Int) ∧ (↑(List.length (dropR (List.take x ls) n) + List.length [((List.getD ls x (Ty.zero Lease)).fst, (List.getD ls x (Ty.zero Lease)).snd.fst, (List.getD ls x (Ty.zero Lease)).snd.snd.fst, (List.getD ls x (Ty.zero Lease)).snd.snd.snd)]) : Int) ≤ (140737488355328 : Int) ∧ ∃ (y : Nat), (n = n ∧ ls = ls ∧ (List.length ls : Int) = (List.length ls : Int) ∧ wr ((↑x : Int) + (1 : Int)) = (↑y : Int) ∧ xs = xs ∧ ls = ls ∧ p = p ∧ dropR (List.take x ls) n ++ [((List.getD ls x (Ty.zero Lease)).fst, (List.getD ls x (Ty.zero Lease)).snd.fst, (List.getD ls x (Ty.zero Lease)).snd.snd.fst, (List.getD ls x (Ty.zero Lease)).snd.snd.snd)] = dropR (List.take y ls) n ∧ True) ∧ y ≤ List.length ls ∧ List.length ls - y < List.length ls - x) ∧ (((List.getD ls x (Ty.zero Lease)).fst != n) = false → ∃ (y : Nat), (n = n ∧ ls = ls ∧ (List.length ls : Int) = (List.length ls : Int) ∧ wr ((↑x : Int) + (1 : Int)) = (↑y : Int) ∧ xs = xs ∧ ls = ls ∧ p = p ∧ dropR (List.take x ls) n = dropR (List.take y ls) n ∧ True) ∧ y ≤ List.length ls ∧ List.length ls - y < List.length ls - x)) ∧ (decide ((↑x : Int) < (List.length ls : Int)) = false → K (SV.tup []) [AObj.cells 49 [BV.fsl 52 Item xs, BV.hd 1, BV.int IntKind.i64 p], AObj.row 54 Lease (dropR (List.take x ls) n)]))
 = fnVC Try.prog (look LB1) (N_drop25 1 ls n) Try.f54 [pv 0, iv n] [rC xs ls p] K := by kernel_rfl

theorem nfDrop25b (xs : List Tm) (ls : List Le) (p n : Int) (K : SV → List AObj → Prop) :
 ((∃ (y : Nat), (n = n ∧ ls = ls ∧ (List.length ls : Int) = (List.length ls : Int) ∧ (0 : Int) = (↑y : Int) ∧ ls = ls ∧ p = p ∧ xs = xs ∧ [] = dropR (List.take y ls) n ∧ True) ∧ y ≤ List.length ls) ∧ ∀ (x : Nat), x ≤ List.length ls → (decide ((↑x : Int) < (List.length ls : Int)) = true → ((0 : Int) ≤ (↑x : Int) ∧ (↑x : Int) < (List.length ls : Int)) ∧ (((List.getD ls x (Ty.zero Lease)).fst != n) = true → (↑(List.length (dropR (List.take x ls) n) + List.length [((List.getD ls x (Ty.zero Lease)).fst, (List.getD ls x (Ty.zero Lease)).snd.fst, (List.getD ls x (Ty.zero Lease)).snd.snd.fst, (List.getD ls x (Ty.zero Lease)).snd.snd.snd)]) : Int) * (32 : Int) ≤ (140737488355328 : Int) ∧ (↑(List.length (dropR (List.take x ls) n) + List.length [((List.getD ls x (Ty.zero Lease)).fst, (List.getD ls x (Ty.zero Lease)).snd.fst, (List.getD ls x (Ty.zero Lease)).snd.snd.fst, (List.getD ls x (Ty.zero Lease)).snd.snd.snd)]) : Int) ≤ (140737488355328 : Int) ∧ ∃ (y : Nat), (n = n ∧ ls = ls ∧ (List.length ls : Int) = (List.length ls : Int) ∧ wr ((↑x : Int) + (1 : Int)) = (↑y : Int) ∧ ls = ls ∧ p = p ∧ xs = xs ∧ dropR (List.take x ls) n ++ [((List.getD ls x (Ty.zero Lease)).fst, (List.getD ls x (Ty.zero Lease)).snd.fst, (List.getD ls x (Ty.zero Lease)).snd.snd.fst, (List.getD ls x (Ty.zero Lease)).snd.snd.snd)] = dropR (List.take y ls) n ∧ True) ∧ y ≤ List.length ls ∧ List.length ls - y < List.length ls - x) ∧ (((List.getD ls x (Ty.zero Lease)).fst != n) = false → ∃ (y : Nat), (n = n ∧ ls = ls ∧ (List.length ls : Int) = (List.length ls : Int) ∧ wr ((↑x : Int) + (1 : Int)) = (↑y : Int) ∧ ls = ls ∧ p = p ∧ xs = xs ∧ dropR (List.take x ls) n = dropR (List.take y ls) n ∧ True) ∧ y ≤ List.length ls ∧ List.length ls - y < List.length ls - x)) ∧ (decide ((↑x : Int) < (List.length ls : Int)) = false → K (SV.tup []) [AObj.cells 49 [BV.hd 1, BV.hd 2, BV.int IntKind.i64 p], AObj.row 52 Item xs, AObj.row 54 Lease (dropR (List.take x ls) n)]))
 = fnVC Try.prog (look LB1) (N_drop25 2 ls n) Try.f54 [pv 0, iv n] [.cells 49 [.hd 1, .fsl 54 Lease ls, .int .i64 p], tR xs] K := by kernel_rfl

theorem nfFind24 (xs : List Ce) (s : ByteArray) (K : SV → List AObj → Prop) :
 ((∃ (y : Nat), (s = s ∧ (0 : Int) = (↑y : Int) ∧ xs = xs ∧ True) ∧ y ≤ find24 xs s) ∧ ∀ (x : Nat), x ≤ find24 xs s → (sgnB true (decide ((↑x : Int) < (List.length xs : Int))) = true → (0 : Int) ≤ (↑x : Int) ∧ (↑x : Int) < (List.length xs : Int)) ∧ ((decide ((↑x : Int) < (List.length xs : Int)) && Op.bytesLess (ByteArray.toList (List.getD xs x (Ty.zero CellT)).fst) (ByteArray.toList s)) = true → ∃ (y : Nat), (s = s ∧ wr ((↑x : Int) + (1 : Int)) = (↑y : Int) ∧ xs = xs ∧ True) ∧ y ≤ find24 xs s ∧ List.length xs - y < List.length xs - x) ∧ ((decide ((↑x : Int) < (List.length xs : Int)) && Op.bytesLess (ByteArray.toList (List.getD xs x (Ty.zero CellT)).fst) (ByteArray.toList s)) = false → (sgnB true (decide ((↑x : Int) < (List.length xs : Int))) = true → (0 : Int) ≤ (↑x : Int) ∧ (↑x : Int) < (List.length xs : Int)) ∧ K (SV.tup [TV.one (BV.int IntKind.i64 (↑x : Int)), TV.one (BV.bool (decide ((↑x : Int) < (List.length xs : Int)) && ByteArray.toList (List.getD xs x (Ty.zero CellT)).fst == ByteArray.toList s))]) [AObj.cells 102 [BV.fsl 120 CellT xs]]))
 = fnVC Try.prog (look LB1) (N_find24 xs s) Try.f78 [pv 0, sv s] [rsC xs] K := by kernel_rfl

theorem nfText (l : List Int) (k : Nat) (a b : Int) (K : SV → List AObj → Prop) :
 ((-1099511627 : Int) ≤ a ∧
 a ≤ min b (wr (a + (2 : Int))) ∧
 min b (wr (a + (2 : Int))) ≤ (1099511627 : Int) ∧
 List.length l ≤ lenMax ∧
 (0 : Int) < (9 : Int) ∧
 (9 : Int) ≤ (1099511627776 : Int) ∧
 List.length l ≤ lenMax ∧
 ((nextV l (nextK l k) (9 : Int) == (8 : Int)) = true → (0 : Int) ≤ b ∧ b = b ∧ (1 : Int) * b ≤ (140737488355328 : Int) ∧ b ≤ (140737488355328 : Int) ∧ (∃ (y : Nat), ((↑(List.length (List.replicate (Int.toNat b) (Ty.zero (Ty.int IntKind.u8)))) : Int) = (↑(List.length (List.replicate (Int.toNat b) (Ty.zero (Ty.int IntKind.u8)))) : Int) ∧ (0 : Int) = (↑y : Int) ∧ l = l ∧ Int.ofNat (nextK l (nextK l k)) = Int.ofNat (lettersGo l y (nextK l (nextK l k))).snd ∧ List.replicate (Int.toNat b) (Ty.zero (Ty.int IntKind.u8)) = (lettersGo l y (nextK l (nextK l k))).fst ++ List.replicate (Int.toNat (textN l k a b) - y) (0 : Int) ∧ True) ∧ y ≤ Int.toNat (textN l k a b)) ∧ ∀ (x : Nat), x ≤ Int.toNat (textN l k a b) → (decide ((↑x : Int) < (↑(List.length (List.replicate (Int.toNat b) (Ty.zero (Ty.int IntKind.u8)))) : Int)) = true → (0 : Int) < (4 : Int) ∧ (4 : Int) ≤ (1099511627776 : Int) ∧ List.length l ≤ lenMax ∧ ((0 : Int) ≤ (↑x : Int) ∧ (↑x : Int) < (↑(List.length ((lettersGo l x (nextK l (nextK l k))).fst ++ List.replicate (Int.toNat (textN l k a b) - x) (0 : Int))) : Int)) ∧ x < List.length ((lettersGo l x (nextK l (nextK l k))).fst ++ List.replicate (Int.toNat (textN l k a b) - x) (0 : Int)) ∧ ∃ (y : Nat), ((↑(List.length (List.replicate (Int.toNat b) (Ty.zero (Ty.int IntKind.u8)))) : Int) = (↑(List.length (List.replicate (Int.toNat b) (Ty.zero (Ty.int IntKind.u8)))) : Int) ∧ wr ((↑x : Int) + (1 : Int)) = (↑y : Int) ∧ l = l ∧ Int.ofNat (nextK l (lettersGo l x (nextK l (nextK l k))).snd) = Int.ofNat (lettersGo l y (nextK l (nextK l k))).snd ∧ List.set ((lettersGo l x (nextK l (nextK l k))).fst ++ List.replicate (Int.toNat (textN l k a b) - x) (0 : Int)) x (IntKind.wrap IntKind.u8 ((97 : Int) + IntKind.wrap IntKind.u8 (nextV l (lettersGo l x (nextK l (nextK l k))).snd (4 : Int)))) = (lettersGo l y (nextK l (nextK l k))).fst ++ List.replicate (Int.toNat (textN l k a b) - y) (0 : Int) ∧ True) ∧ y ≤ Int.toNat (textN l k a b) ∧ Int.toNat (textN l k a b) - y < Int.toNat (textN l k a b) - x) ∧ (decide ((↑x : Int) < (↑(List.length (List.replicate (Int.toNat b) (Ty.zero (Ty.int IntKind.u8)))) : Int)) = false → K (SV.b ((BV.str (strOfNums ((lettersGo l x (nextK l (nextK l k))).fst ++ List.replicate (Int.toNat (textN l k a b) - x) (0 : Int)))))) [AObj.cells 91 [BV.fsl 3 I l, BV.int IntKind.i64 (Int.ofNat (lettersGo l x (nextK l (nextK l k))).snd)]])) ∧
 ((nextV l (nextK l k) (9 : Int) == (8 : Int)) = false → (0 : Int) ≤ a + nextV l k (min b (wr (a + (2 : Int))) - a + (1 : Int)) ∧ a + nextV l k (min b (wr (a + (2 : Int))) - a + (1 : Int)) = a + nextV l k (min b (wr (a + (2 : Int))) - a + (1 : Int)) ∧ (1 : Int) * (a + nextV l k (min b (wr (a + (2 : Int))) - a + (1 : Int))) ≤ (140737488355328 : Int) ∧ a + nextV l k (min b (wr (a + (2 : Int))) - a + (1 : Int)) ≤ (140737488355328 : Int) ∧ (∃ (y : Nat), ((↑(List.length (List.replicate (Int.toNat (a + nextV l k (min b (wr (a + (2 : Int))) - a + (1 : Int)))) (Ty.zero (Ty.int IntKind.u8)))) : Int) = (↑(List.length (List.replicate (Int.toNat (a + nextV l k (min b (wr (a + (2 : Int))) - a + (1 : Int)))) (Ty.zero (Ty.int IntKind.u8)))) : Int) ∧ (0 : Int) = (↑y : Int) ∧ l = l ∧ Int.ofNat (nextK l (nextK l k)) = Int.ofNat (lettersGo l y (nextK l (nextK l k))).snd ∧ List.replicate (Int.toNat (a + nextV l k (min b (wr (a + (2 : Int))) - a + (1 : Int)))) (Ty.zero (Ty.int IntKind.u8)) = (lettersGo l y (nextK l (nextK l k))).fst ++ List.replicate (Int.toNat (textN l k a b) - y) (0 : Int) ∧ True) ∧ y ≤ Int.toNat (textN l k a b)) ∧ ∀ (x : Nat), x ≤ Int.toNat (textN l k a b) → (decide ((↑x : Int) < (↑(List.length (List.replicate (Int.toNat (a + nextV l k (min b (wr (a + (2 : Int))) - a + (1 : Int)))) (Ty.zero (Ty.int IntKind.u8)))) : Int)) = true → (0 : Int) < (4 : Int) ∧ (4 : Int) ≤ (1099511627776 : Int) ∧ List.length l ≤ lenMax ∧ ((0 : Int) ≤ (↑x : Int) ∧ (↑x : Int) < (↑(List.length ((lettersGo l x (nextK l (nextK l k))).fst ++ List.replicate (Int.toNat (textN l k a b) - x) (0 : Int))) : Int)) ∧ x < List.length ((lettersGo l x (nextK l (nextK l k))).fst ++ List.replicate (Int.toNat (textN l k a b) - x) (0 : Int)) ∧ ∃ (y : Nat), ((↑(List.length (List.replicate (Int.toNat (a + nextV l k (min b (wr (a + (2 : Int))) - a + (1 : Int)))) (Ty.zero (Ty.int IntKind.u8)))) : Int) = (↑(List.length (List.replicate (Int.toNat (a + nextV l k (min b (wr (a + (2 : Int))) - a + (1 : Int)))) (Ty.zero (Ty.int IntKind.u8)))) : Int) ∧ wr ((↑x : Int) + (1 : Int)) = (↑y : Int) ∧ l = l ∧ Int.ofNat (nextK l (lettersGo l x (nextK l (nextK l k))).snd) = Int.ofNat (lettersGo l y (nextK l (nextK l k))).snd ∧ List.set ((lettersGo l x (nextK l (nextK l k))).fst ++ List.replicate (Int.toNat (textN l k a b) - x) (0 : Int)) x (IntKind.wrap IntKind.u8 ((97 : Int) + IntKind.wrap IntKind.u8 (nextV l (lettersGo l x (nextK l (nextK l k))).snd (4 : Int)))) = (lettersGo l y (nextK l (nextK l k))).fst ++ List.replicate (Int.toNat (textN l k a b) - y) (0 : Int) ∧ True) ∧ y ≤ Int.toNat (textN l k a b) ∧ Int.toNat (textN l k a b) - y < Int.toNat (textN l k a b) - x) ∧ (decide ((↑x : Int) < (↑(List.length (List.replicate (Int.toNat (a + nextV l k (min b (wr (a + (2 : Int))) - a + (1 : Int)))) (Ty.zero (Ty.int IntKind.u8)))) : Int)) = false → K (SV.b ((BV.str (strOfNums ((lettersGo l x (nextK l (nextK l k))).fst ++ List.replicate (Int.toNat (textN l k a b) - x) (0 : Int)))))) [AObj.cells 91 [BV.fsl 3 I l, BV.int IntKind.i64 (Int.ofNat (lettersGo l x (nextK l (nextK l k))).snd)]])))
 = fnVC Try.prog (look LB2) (N_Text l (nextK l (nextK l k)) (textN l k a b)) Try.f75 [pv 0, iv a, iv b] [tC l (.ofNat k)] K := by kernel_rfl

theorem nfApply24 (xs : List Ce) (x : Ch) (K : SV → List AObj → Prop) :
 (((!validC (x.fst, x.snd.fst, x.snd.snd.fst, x.snd.snd.snd.fst, x.snd.snd.snd.snd.fst, x.snd.snd.snd.snd.snd.fst, x.snd.snd.snd.snd.snd.snd.fst, x.snd.snd.snd.snd.snd.snd.snd)) = true → K (SV.b ((BV.int IntKind.i64 (1 : Int)))) [AObj.cells 102 [BV.fsl 120 CellT xs]]) ∧
 ((!validC (x.fst, x.snd.fst, x.snd.snd.fst, x.snd.snd.snd.fst, x.snd.snd.snd.snd.fst, x.snd.snd.snd.snd.snd.fst, x.snd.snd.snd.snd.snd.snd.fst, x.snd.snd.snd.snd.snd.snd.snd)) = false →
 List.length xs ≤ lenMax ∧
 ((x.snd.snd.fst == (1 : Int) && has24 xs x.snd.snd.snd.snd.snd.snd.fst) = true → (↑(0 + List.length xs) : Int) * (40 : Int) ≤ (140737488355328 : Int) ∧ (↑(0 + List.length xs) : Int) ≤ (140737488355328 : Int) ∧ ((0 : Int) ≤ (↑(find24 xs x.snd.snd.snd.snd.snd.snd.fst) : Int) ∧ (↑(find24 xs x.snd.snd.snd.snd.snd.snd.fst) : Int) < (↑(List.length ([] ++ xs)) : Int)) ∧ find24 xs x.snd.snd.snd.snd.snd.snd.fst < List.length ([] ++ xs) ∧ K (SV.b ((BV.int IntKind.i64 (0 : Int)))) [AObj.cells 102 [BV.hd 1], AObj.row 120 CellT (List.set ([] ++ xs) (find24 xs x.snd.snd.snd.snd.snd.snd.fst) (x.snd.snd.snd.snd.snd.snd.fst, x.snd.snd.snd.snd.snd.snd.snd, x.snd.fst))]) ∧
 ((x.snd.snd.fst == (1 : Int) && has24 xs x.snd.snd.snd.snd.snd.snd.fst) = false →
 ((x.snd.snd.fst == (1 : Int)) = true →
 (decide ((List.length xs : Int) ≥ (32 : Int)) = true → K (SV.b ((BV.int IntKind.i64 (33 : Int)))) [AObj.cells 102 [BV.fsl 120 CellT xs]]) ∧
 (decide ((List.length xs : Int) ≥ (32 : Int)) = false →
 ((0 : Int) ≤ (↑(find24 xs x.snd.snd.snd.snd.snd.snd.fst) : Int) ∧ (↑(find24 xs x.snd.snd.snd.snd.snd.snd.fst) : Int) ≤ (List.length xs : Int)) ∧
 ((0 : Int) ≤ (0 : Int) ∧ (0 : Int) ≤ (↑(find24 xs x.snd.snd.snd.snd.snd.snd.fst) : Int)) ∧
 ((0 : Int) ≤ (List.length xs : Int) ∧ (List.length xs : Int) ≤ (List.length xs : Int)) ∧
 ((0 : Int) ≤ (↑(find24 xs x.snd.snd.snd.snd.snd.snd.fst) : Int) ∧ (↑(find24 xs x.snd.snd.snd.snd.snd.snd.fst) : Int) ≤ (List.length xs : Int)) ∧
 (((0 : Int) ≤ (List.length xs : Int) ∧ (List.length xs : Int) ≤ (List.length xs : Int)) ∧
 ((0 : Int) ≤ (↑(find24 xs x.snd.snd.snd.snd.snd.snd.fst) : Int) ∧ (↑(find24 xs x.snd.snd.snd.snd.snd.snd.fst) : Int) ≤ (List.length xs : Int)) ∧
 List.take (List.length xs - find24 xs x.snd.snd.snd.snd.snd.snd.fst) (List.drop (find24 xs x.snd.snd.snd.snd.snd.snd.fst) xs) = List.take (List.length xs - find24 xs x.snd.snd.snd.snd.snd.snd.fst) (List.drop (find24 xs x.snd.snd.snd.snd.snd.snd.fst) xs) ∧
 xs = xs ∧
 x.snd.snd.snd.snd.snd.snd.fst = x.snd.snd.snd.snd.snd.snd.fst ∧
 x.snd.snd.snd.snd.snd.snd.snd = x.snd.snd.snd.snd.snd.snd.snd ∧
 x.snd.fst = x.snd.fst ∧
 x.snd.fst = x.snd.fst ∧
 x.snd.snd.snd.snd.snd.snd.snd = x.snd.snd.snd.snd.snd.snd.snd ∧
 x.snd.snd.snd.snd.snd.snd.fst = x.snd.snd.snd.snd.snd.snd.fst ∧
 ((0 : Int) ≤ (↑(find24 xs x.snd.snd.snd.snd.snd.snd.fst) : Int) ∧ (↑(find24 xs x.snd.snd.snd.snd.snd.snd.fst) : Int) ≤ (List.length xs : Int)) ∧
 ((0 : Int) ≤ (0 : Int) ∧ (0 : Int) ≤ (↑(find24 xs x.snd.snd.snd.snd.snd.snd.fst) : Int)) ∧
 List.take (find24 xs x.snd.snd.snd.snd.snd.snd.fst - 0) (List.drop 0 xs) = List.take (find24 xs x.snd.snd.snd.snd.snd.snd.fst - 0) (List.drop 0 xs) ∧
 xs = xs ∧
 ((↑(0 + List.length (List.take (find24 xs x.snd.snd.snd.snd.snd.snd.fst - 0) (List.drop 0 xs))) : Int) * (40 : Int) ≤ (140737488355328 : Int) ∧ (↑(0 + List.length (List.take (find24 xs x.snd.snd.snd.snd.snd.snd.fst - 0) (List.drop 0 xs))) : Int) ≤ (140737488355328 : Int) ∧ ((0 : Int) ≤ (List.length xs : Int) ∧ (List.length xs : Int) ≤ (List.length xs : Int)) ∧ ((0 : Int) ≤ (↑(find24 xs x.snd.snd.snd.snd.snd.snd.fst) : Int) ∧ (↑(find24 xs x.snd.snd.snd.snd.snd.snd.fst) : Int) ≤ (List.length xs : Int)) ∧ List.take (List.length xs - find24 xs x.snd.snd.snd.snd.snd.snd.fst) (List.drop (find24 xs x.snd.snd.snd.snd.snd.snd.fst) xs) = List.take (List.length xs - find24 xs x.snd.snd.snd.snd.snd.snd.fst) (List.drop (find24 xs x.snd.snd.snd.snd.snd.snd.fst) xs) ∧ xs = xs ∧ x.snd.snd.snd.snd.snd.snd.fst = x.snd.snd.snd.snd.snd.snd.fst ∧ x.snd.snd.snd.snd.snd.snd.snd = x.snd.snd.snd.snd.snd.snd.snd ∧ x.snd.fst = x.snd.fst ∧ x.snd.fst = x.snd.fst ∧ x.snd.snd.snd.snd.snd.snd.snd = x.snd.snd.snd.snd.snd.snd.snd ∧ x.snd.snd.snd.snd.snd.snd.fst = x.snd.snd.snd.snd.snd.snd.fst ∧ ((0 : Int) ≤ (List.length xs : Int) ∧ (List.length xs : Int) ≤ (List.length xs : Int)) ∧ ((0 : Int) ≤ (↑(find24 xs x.snd.snd.snd.snd.snd.snd.fst) : Int) ∧ (↑(find24 xs x.snd.snd.snd.snd.snd.snd.fst) : Int) ≤ (List.length xs : Int)) ∧ List.take (List.length xs - find24 xs x.snd.snd.snd.snd.snd.snd.fst) (List.drop (find24 xs x.snd.snd.snd.snd.snd.snd.fst) xs) = List.take (List.length xs - find24 xs x.snd.snd.snd.snd.snd.snd.fst) (List.drop (find24 xs x.snd.snd.snd.snd.snd.snd.fst) xs) ∧ xs = xs ∧ (↑(List.length ([] ++ List.take (find24 xs x.snd.snd.snd.snd.snd.snd.fst - 0) (List.drop 0 xs)) + List.length [(x.snd.snd.snd.snd.snd.snd.fst, x.snd.snd.snd.snd.snd.snd.snd, x.snd.fst)]) : Int) * (40 : Int) ≤ (140737488355328 : Int) ∧ (↑(List.length ([] ++ List.take (find24 xs x.snd.snd.snd.snd.snd.snd.fst - 0) (List.drop 0 xs)) + List.length [(x.snd.snd.snd.snd.snd.snd.fst, x.snd.snd.snd.snd.snd.snd.snd, x.snd.fst)]) : Int) ≤ (140737488355328 : Int) ∧ ((0 : Int) ≤ (List.length xs : Int) ∧ (List.length xs : Int) ≤ (List.length xs : Int)) ∧ ((0 : Int) ≤ (↑(find24 xs x.snd.snd.snd.snd.snd.snd.fst) : Int) ∧ (↑(find24 xs x.snd.snd.snd.snd.snd.snd.fst) : Int) ≤ (List.length xs : Int)) ∧ List.take (List.length xs - find24 xs x.snd.snd.snd.snd.snd.snd.fst) (List.drop (find24 xs x.snd.snd.snd.snd.snd.snd.fst) xs) = List.take (List.length xs - find24 xs x.snd.snd.snd.snd.snd.snd.fst) (List.drop (find24 xs x.snd.snd.snd.snd.snd.snd.fst) xs) ∧ xs = xs ∧ (↑(List.length ([] ++ List.take (find24 xs x.snd.snd.snd.snd.snd.snd.fst - 0) (List.drop 0 xs) ++ [(x.snd.snd.snd.snd.snd.snd.fst, x.snd.snd.snd.snd.snd.snd.snd, x.snd.fst)]) + List.length (List.take (List.length xs - find24 xs x.snd.snd.snd.snd.snd.snd.fst) (List.drop (find24 xs x.snd.snd.snd.snd.snd.snd.fst) xs))) : Int) * (40 : Int) ≤ (140737488355328 : Int) ∧ (↑(List.length ([] ++ List.take (find24 xs x.snd.snd.snd.snd.snd.snd.fst - 0) (List.drop 0 xs) ++ [(x.snd.snd.snd.snd.snd.snd.fst, x.snd.snd.snd.snd.snd.snd.snd, x.snd.fst)]) + List.length (List.take (List.length xs - find24 xs x.snd.snd.snd.snd.snd.snd.fst) (List.drop (find24 xs x.snd.snd.snd.snd.snd.snd.fst) xs))) : Int) ≤ (140737488355328 : Int) ∧ K (SV.b ((BV.int IntKind.i64 (0 : Int)))) [AObj.cells 102 [BV.hd 1], AObj.row 120 CellT ([] ++ List.take (find24 xs x.snd.snd.snd.snd.snd.snd.fst - 0) (List.drop 0 xs) ++ [(x.snd.snd.snd.snd.snd.snd.fst, x.snd.snd.snd.snd.snd.snd.snd, x.snd.fst)] ++ List.take (List.length xs - find24 xs x.snd.snd.snd.snd.snd.snd.fst) (List.drop (find24 xs x.snd.snd.snd.snd.snd.snd.fst) xs))]) ∧
 ((0 : Int) ≤ (List.length xs : Int) ∧ (List.length xs : Int) ≤ (List.length xs : Int)) ∧
 ((0 : Int) ≤ (↑(find24 xs x.snd.snd.snd.snd.snd.snd.fst) : Int) ∧ (↑(find24 xs x.snd.snd.snd.snd.snd.snd.fst) : Int) ≤ (List.length xs : Int)) ∧ List.take (List.length xs - find24 xs x.snd.snd.snd.snd.snd.snd.fst) (List.drop (find24 xs x.snd.snd.snd.snd.snd.snd.fst) xs) = List.take (List.length xs - find24 xs x.snd.snd.snd.snd.snd.snd.fst) (List.drop (find24 xs x.snd.snd.snd.snd.snd.snd.fst) xs) ∧ xs = xs ∧ ((0 : Int) ≤ (↑(find24 xs x.snd.snd.snd.snd.snd.snd.fst) : Int) ∧ (↑(find24 xs x.snd.snd.snd.snd.snd.snd.fst) : Int) ≤ (List.length xs : Int)) ∧ ((0 : Int) ≤ (0 : Int) ∧ (0 : Int) ≤ (↑(find24 xs x.snd.snd.snd.snd.snd.snd.fst) : Int)) ∧ List.take (find24 xs x.snd.snd.snd.snd.snd.snd.fst - 0) (List.drop 0 xs) = List.take (find24 xs x.snd.snd.snd.snd.snd.snd.fst - 0) (List.drop 0 xs) ∧ xs = xs ∧ (↑(0 + List.length (List.take (find24 xs x.snd.snd.snd.snd.snd.snd.fst - 0) (List.drop 0 xs))) : Int) * (40 : Int) ≤ (140737488355328 : Int) ∧ (↑(0 + List.length (List.take (find24 xs x.snd.snd.snd.snd.snd.snd.fst - 0) (List.drop 0 xs))) : Int) ≤ (140737488355328 : Int) ∧ ((0 : Int) ≤ (List.length xs : Int) ∧ (List.length xs : Int) ≤ (List.length xs : Int)) ∧ ((0 : Int) ≤ (↑(find24 xs x.snd.snd.snd.snd.snd.snd.fst) : Int) ∧ (↑(find24 xs x.snd.snd.snd.snd.snd.snd.fst) : Int) ≤ (List.length xs : Int)) ∧ List.take (List.length xs - find24 xs x.snd.snd.snd.snd.snd.snd.fst) (List.drop (find24 xs x.snd.snd.snd.snd.snd.snd.fst) xs) = List.take (List.length xs - find24 xs x.snd.snd.snd.snd.snd.snd.fst) (List.drop (find24 xs x.snd.snd.snd.snd.snd.snd.fst) xs) ∧ xs = xs ∧ (↑(List.length ([] ++ List.take (find24 xs x.snd.snd.snd.snd.snd.snd.fst - 0) (List.drop 0 xs)) + List.length [(x.snd.snd.snd.snd.snd.snd.fst, x.snd.snd.snd.snd.snd.snd.snd, x.snd.fst)]) : Int) * (40 : Int) ≤ (140737488355328 : Int) ∧ (↑(List.length ([] ++ List.take (find24 xs x.snd.snd.snd.snd.snd.snd.fst - 0) (List.drop 0 xs)) + List.length [(x.snd.snd.snd.snd.snd.snd.fst, x.snd.snd.snd.snd.snd.snd.snd, x.snd.fst)]) : Int) ≤ (140737488355328 : Int) ∧ ((0 : Int) ≤ (List.length xs : Int) ∧ (List.length xs : Int) ≤ (List.length xs : Int)) ∧ ((0 : Int) ≤ (↑(find24 xs x.snd.snd.snd.snd.snd.snd.fst) : Int) ∧ (↑(find24 xs x.snd.snd.snd.snd.snd.snd.fst) : Int) ≤ (List.length xs : Int)) ∧ List.take (List.length xs - find24 xs x.snd.snd.snd.snd.snd.snd.fst) (List.drop (find24 xs x.snd.snd.snd.snd.snd.snd.fst) xs) = List.take (List.length xs - find24 xs x.snd.snd.snd.snd.snd.snd.fst) (List.drop (find24 xs x.snd.snd.snd.snd.snd.snd.fst) xs) ∧ xs = xs ∧ (↑(List.length ([] ++ List.take (find24 xs x.snd.snd.snd.snd.snd.snd.fst - 0) (List.drop 0 xs) ++ [(x.snd.snd.snd.snd.snd.snd.fst, x.snd.snd.snd.snd.snd.snd.snd, x.snd.fst)]) + List.length (List.take (List.length xs - find24 xs x.snd.snd.snd.snd.snd.snd.fst) (List.drop (find24 xs x.snd.snd.snd.snd.snd.snd.fst) xs))) : Int) * (40 : Int) ≤ (140737488355328 : Int) ∧ (↑(List.length ([] ++ List.take (find24 xs x.snd.snd.snd.snd.snd.snd.fst - 0) (List.drop 0 xs) ++ [(x.snd.snd.snd.snd.snd.snd.fst, x.snd.snd.snd.snd.snd.snd.snd, x.snd.fst)]) + List.length (List.take (List.length xs - find24 xs x.snd.snd.snd.snd.snd.snd.fst) (List.drop (find24 xs x.snd.snd.snd.snd.snd.snd.fst) xs))) : Int) ≤ (140737488355328 : Int) ∧ K (SV.b ((BV.int IntKind.i64 (0 : Int)))) [AObj.cells 102 [BV.hd 1], AObj.row 120 CellT ([] ++ List.take (find24 xs x.snd.snd.snd.snd.snd.snd.fst - 0) (List.drop 0 xs) ++ [(x.snd.snd.snd.snd.snd.snd.fst, x.snd.snd.snd.snd.snd.snd.snd, x.snd.fst)] ++ List.take (List.length xs - find24 xs x.snd.snd.snd.snd.snd.snd.fst) (List.drop (find24 xs x.snd.snd.snd.snd.snd.snd.fst) xs))]) ∧
 ((0 : Int) ≤ (List.length xs : Int) ∧ (List.length xs : Int) ≤ (List.length xs : Int)) ∧
 ((0 : Int) ≤ (↑(find24 xs x.snd.snd.snd.snd.snd.snd.fst) : Int) ∧ (↑(find24 xs x.snd.snd.snd.snd.snd.snd.fst) : Int) ≤ (List.length xs : Int)) ∧
 List.take (List.length xs - find24 xs x.snd.snd.snd.snd.snd.snd.fst) (List.drop (find24 xs x.snd.snd.snd.snd.snd.snd.fst) xs) = List.take (List.length xs - find24 xs x.snd.snd.snd.snd.snd.snd.fst) (List.drop (find24 xs x.snd.snd.snd.snd.snd.snd.fst) xs) ∧
 xs = xs ∧
 ((0 : Int) ≤ (↑(find24 xs x.snd.snd.snd.snd.snd.snd.fst) : Int) ∧ (↑(find24 xs x.snd.snd.snd.snd.snd.snd.fst) : Int) ≤ (List.length xs : Int)) ∧
 ((0 : Int) ≤ (0 : Int) ∧ (0 : Int) ≤ (↑(find24 xs x.snd.snd.snd.snd.snd.snd.fst) : Int)) ∧
 List.take (find24 xs x.snd.snd.snd.snd.snd.snd.fst - 0) (List.drop 0 xs) = List.take (find24 xs x.snd.snd.snd.snd.snd.snd.fst - 0) (List.drop 0 xs) ∧
 xs = xs ∧
 ((0 : Int) ≤ (List.length xs : Int) ∧ (List.length xs : Int) ≤ (List.length xs : Int)) ∧
 ((0 : Int) ≤ (↑(find24 xs x.snd.snd.snd.snd.snd.snd.fst) : Int) ∧ (↑(find24 xs x.snd.snd.snd.snd.snd.snd.fst) : Int) ≤ (List.length xs : Int)) ∧ List.take (List.length xs - find24 xs x.snd.snd.snd.snd.snd.snd.fst) (List.drop (find24 xs x.snd.snd.snd.snd.snd.snd.fst) xs) = List.take (List.length xs - find24 xs x.snd.snd.snd.snd.snd.snd.fst) (List.drop (find24 xs x.snd.snd.snd.snd.snd.snd.fst) xs) ∧ xs = xs ∧ ((0 : Int) ≤ (↑(find24 xs x.snd.snd.snd.snd.snd.snd.fst) : Int) ∧ (↑(find24 xs x.snd.snd.snd.snd.snd.snd.fst) : Int) ≤ (List.length xs : Int)) ∧ ((0 : Int) ≤ (0 : Int) ∧ (0 : Int) ≤ (↑(find24 xs x.snd.snd.snd.snd.snd.snd.fst) : Int)) ∧ List.take (find24 xs x.snd.snd.snd.snd.snd.snd.fst - 0) (List.drop 0 xs) = List.take (find24 xs x.snd.snd.snd.snd.snd.snd.fst - 0) (List.drop 0 xs) ∧ xs = xs ∧ (↑(0 + List.length (List.take (find24 xs x.snd.snd.snd.snd.snd.snd.fst - 0) (List.drop 0 xs))) : Int) * (40 : Int) ≤ (140737488355328 : Int) ∧ (↑(0 + List.length (List.take (find24 xs x.snd.snd.snd.snd.snd.snd.fst - 0) (List.drop 0 xs))) : Int) ≤ (140737488355328 : Int) ∧ ((0 : Int) ≤ (List.length xs : Int) ∧ (List.length xs : Int) ≤ (List.length xs : Int)) ∧ ((0 : Int) ≤ (↑(find24 xs x.snd.snd.snd.snd.snd.snd.fst) : Int) ∧ (↑(find24 xs x.snd.snd.snd.snd.snd.snd.fst) : Int) ≤ (List.length xs : Int)) ∧ List.take (List.length xs - find24 xs x.snd.snd.snd.snd.snd.snd.fst) (List.drop (find24 xs x.snd.snd.snd.snd.snd.snd.fst) xs) = List.take (List.length xs - find24 xs x.snd.snd.snd.snd.snd.snd.fst) (List.drop (find24 xs x.snd.snd.snd.snd.snd.snd.fst) xs) ∧ xs = xs ∧ (↑(List.length ([] ++ List.take (find24 xs x.snd.snd.snd.snd.snd.snd.fst - 0) (List.drop 0 xs)) + List.length [(x.snd.snd.snd.snd.snd.snd.fst, x.snd.snd.snd.snd.snd.snd.snd, x.snd.fst)]) : Int) * (40 : Int) ≤ (140737488355328 : Int) ∧ (↑(List.length ([] ++ List.take (find24 xs x.snd.snd.snd.snd.snd.snd.fst - 0) (List.drop 0 xs)) + List.length [(x.snd.snd.snd.snd.snd.snd.fst, x.snd.snd.snd.snd.snd.snd.snd, x.snd.fst)]) : Int) ≤ (140737488355328 : Int) ∧ ((0 : Int) ≤ (List.length xs : Int) ∧ (List.length xs : Int) ≤ (List.length xs : Int)) ∧ ((0 : Int) ≤ (↑(find24 xs x.snd.snd.snd.snd.snd.snd.fst) : Int) ∧ (↑(find24 xs x.snd.snd.snd.snd.snd.snd.fst) : Int) ≤ (List.length xs : Int)) ∧ List.take (List.length xs - find24 xs x.snd.snd.snd.snd.snd.snd.fst) (List.drop (find24 xs x.snd.snd.snd.snd.snd.snd.fst) xs) = List.take (List.length xs - find24 xs x.snd.snd.snd.snd.snd.snd.fst) (List.drop (find24 xs x.snd.snd.snd.snd.snd.snd.fst) xs) ∧ xs = xs ∧ (↑(List.length ([] ++ List.take (find24 xs x.snd.snd.snd.snd.snd.snd.fst - 0) (List.drop 0 xs) ++ [(x.snd.snd.snd.snd.snd.snd.fst, x.snd.snd.snd.snd.snd.snd.snd, x.snd.fst)]) + List.length (List.take (List.length xs - find24 xs x.snd.snd.snd.snd.snd.snd.fst) (List.drop (find24 xs x.snd.snd.snd.snd.snd.snd.fst) xs))) : Int) * (40 : Int) ≤ (140737488355328 : Int) ∧ (↑(List.length ([] ++ List.take (find24 xs x.snd.snd.snd.snd.snd.snd.fst - 0) (List.drop 0 xs) ++ [(x.snd.snd.snd.snd.snd.snd.fst, x.snd.snd.snd.snd.snd.snd.snd, x.snd.fst)]) + List.length (List.take (List.length xs - find24 xs x.snd.snd.snd.snd.snd.snd.fst) (List.drop (find24 xs x.snd.snd.snd.snd.snd.snd.fst) xs))) : Int) ≤ (140737488355328 : Int) ∧ K (SV.b ((BV.int IntKind.i64 (0 : Int)))) [AObj.cells 102 [BV.hd 1], AObj.row 120 CellT ([] ++ List.take (find24 xs x.snd.snd.snd.snd.snd.snd.fst - 0) (List.drop 0 xs) ++ [(x.snd.snd.snd.snd.snd.snd.fst, x.snd.snd.snd.snd.snd.snd.snd, x.snd.fst)] ++ List.take (List.length xs - find24 xs x.snd.snd.snd.snd.snd.snd.fst) (List.drop (find24 xs x.snd.snd.snd.snd.snd.snd.fst) xs))])) ∧
 ((x.snd.snd.fst == (1 : Int)) = false →
 ((x.snd.snd.fst == (2 : Int)) = true →
 ((!has24 xs x.snd.snd.snd.snd.snd.snd.fst) = true → K (SV.b ((BV.int IntKind.i64 (34 : Int)))) [AObj.cells 102 [BV.fsl 120 CellT xs]]) ∧
 ((!has24 xs x.snd.snd.snd.snd.snd.snd.fst) = false →
 ((0 : Int) ≤ (↑(find24 xs x.snd.snd.snd.snd.snd.snd.fst) : Int) ∧ (↑(find24 xs x.snd.snd.snd.snd.snd.snd.fst) : Int) ≤ (List.length xs : Int)) ∧
 ((0 : Int) ≤ (0 : Int) ∧ (0 : Int) ≤ (↑(find24 xs x.snd.snd.snd.snd.snd.snd.fst) : Int)) ∧
 ((0 : Int) ≤ (List.length xs : Int) ∧ (List.length xs : Int) ≤ (List.length xs : Int)) ∧
 ((0 : Int) ≤ wr ((↑(find24 xs x.snd.snd.snd.snd.snd.snd.fst) : Int) + (1 : Int)) ∧ wr ((↑(find24 xs x.snd.snd.snd.snd.snd.snd.fst) : Int) + (1 : Int)) ≤ (List.length xs : Int)) ∧ ((0 : Int) ≤ (List.length xs : Int) ∧ (List.length xs : Int) ≤ (List.length xs : Int)) ∧ ((0 : Int) ≤ wr ((↑(find24 xs x.snd.snd.snd.snd.snd.snd.fst) : Int) + (1 : Int)) ∧ wr ((↑(find24 xs x.snd.snd.snd.snd.snd.snd.fst) : Int) + (1 : Int)) ≤ (List.length xs : Int)) ∧ List.take (List.length xs - Int.toNat (wr ((↑(find24 xs x.snd.snd.snd.snd.snd.snd.fst) : Int) + (1 : Int)))) (List.drop (Int.toNat (wr ((↑(find24 xs x.snd.snd.snd.snd.snd.snd.fst) : Int) + (1 : Int)))) xs) = List.take (List.length xs - Int.toNat (wr ((↑(find24 xs x.snd.snd.snd.snd.snd.snd.fst) : Int) + (1 : Int)))) (List.drop (Int.toNat (wr ((↑(find24 xs x.snd.snd.snd.snd.snd.snd.fst) : Int) + (1 : Int)))) xs) ∧ xs = xs ∧ ((0 : Int) ≤ (↑(find24 xs x.snd.snd.snd.snd.snd.snd.fst) : Int) ∧ (↑(find24 xs x.snd.snd.snd.snd.snd.snd.fst) : Int) ≤ (List.length xs : Int)) ∧ ((0 : Int) ≤ (0 : Int) ∧ (0 : Int) ≤ (↑(find24 xs x.snd.snd.snd.snd.snd.snd.fst) : Int)) ∧ List.take (find24 xs x.snd.snd.snd.snd.snd.snd.fst - 0) (List.drop 0 xs) = List.take (find24 xs x.snd.snd.snd.snd.snd.snd.fst - 0) (List.drop 0 xs) ∧ xs = xs ∧ (↑(0 + List.length (List.take (find24 xs x.snd.snd.snd.snd.snd.snd.fst - 0) (List.drop 0 xs))) : Int) * (40 : Int) ≤ (140737488355328 : Int) ∧ (↑(0 + List.length (List.take (find24 xs x.snd.snd.snd.snd.snd.snd.fst - 0) (List.drop 0 xs))) : Int) ≤ (140737488355328 : Int) ∧ ((0 : Int) ≤ (List.length xs : Int) ∧ (List.length xs : Int) ≤ (List.length xs : Int)) ∧ ((0 : Int) ≤ wr ((↑(find24 xs x.snd.snd.snd.snd.snd.snd.fst) : Int) + (1 : Int)) ∧ wr ((↑(find24 xs x.snd.snd.snd.snd.snd.snd.fst) : Int) + (1 : Int)) ≤ (List.length xs : Int)) ∧ List.take (List.length xs - Int.toNat (wr ((↑(find24 xs x.snd.snd.snd.snd.snd.snd.fst) : Int) + (1 : Int)))) (List.drop (Int.toNat (wr ((↑(find24 xs x.snd.snd.snd.snd.snd.snd.fst) : Int) + (1 : Int)))) xs) = List.take (List.length xs - Int.toNat (wr ((↑(find24 xs x.snd.snd.snd.snd.snd.snd.fst) : Int) + (1 : Int)))) (List.drop (Int.toNat (wr ((↑(find24 xs x.snd.snd.snd.snd.snd.snd.fst) : Int) + (1 : Int)))) xs) ∧ xs = xs ∧ (↑(List.length ([] ++ List.take (find24 xs x.snd.snd.snd.snd.snd.snd.fst - 0) (List.drop 0 xs)) + List.length (List.take (List.length xs - Int.toNat (wr ((↑(find24 xs x.snd.snd.snd.snd.snd.snd.fst) : Int) + (1 : Int)))) (List.drop (Int.toNat (wr ((↑(find24 xs x.snd.snd.snd.snd.snd.snd.fst) : Int) + (1 : Int)))) xs))) : Int) * (40 : Int) ≤ (140737488355328 : Int) ∧ (↑(List.length ([] ++ List.take (find24 xs x.snd.snd.snd.snd.snd.snd.fst - 0) (List.drop 0 xs)) + List.length (List.take (List.length xs - Int.toNat (wr ((↑(find24 xs x.snd.snd.snd.snd.snd.snd.fst) : Int) + (1 : Int)))) (List.drop (Int.toNat (wr ((↑(find24 xs x.snd.snd.snd.snd.snd.snd.fst) : Int) + (1 : Int)))) xs))) : Int) ≤ (140737488355328 : Int) ∧ K (SV.b ((BV.int IntKind.i64 (0 : Int)))) [AObj.cells 102 [BV.hd 1], AObj.row 120 CellT ([] ++ List.take (find24 xs x.snd.snd.snd.snd.snd.snd.fst - 0) (List.drop 0 xs) ++ List.take (List.length xs - Int.toNat (wr ((↑(find24 xs x.snd.snd.snd.snd.snd.snd.fst) : Int) + (1 : Int)))) (List.drop (Int.toNat (wr ((↑(find24 xs x.snd.snd.snd.snd.snd.snd.fst) : Int) + (1 : Int)))) xs))])) ∧
 ((x.snd.snd.fst == (2 : Int)) = false → K (SV.b ((BV.int IntKind.i64 (0 : Int)))) [AObj.cells 102 [BV.fsl 120 CellT xs]])))))
 = fnVC Try.prog (look LB2) {} Try.f73 [pv 0, cv x] [rsC xs] K := by kernel_rfl

theorem nfApply25 (xs : List Tm) (ls : List Le) (p : Int) (x : Ch) (K : SV → List AObj → Prop) :
 (((!validC (x.fst, x.snd.fst, x.snd.snd.fst, x.snd.snd.snd.fst, x.snd.snd.snd.snd.fst, x.snd.snd.snd.snd.snd.fst, x.snd.snd.snd.snd.snd.snd.fst, x.snd.snd.snd.snd.snd.snd.snd)) = true → K (SV.b ((BV.int IntKind.i64 (1 : Int)))) [AObj.cells 49 [BV.fsl 52 Item xs, BV.fsl 54 Lease ls, BV.int IntKind.i64 p]]) ∧
 ((!validC (x.fst, x.snd.fst, x.snd.snd.fst, x.snd.snd.snd.fst, x.snd.snd.snd.snd.fst, x.snd.snd.snd.snd.snd.fst, x.snd.snd.snd.snd.snd.snd.fst, x.snd.snd.snd.snd.snd.snd.snd)) = false →
 ((x.snd.snd.fst == (3 : Int)) = true → (decide (x.snd.fst ≤ p) = true → K (SV.b ((BV.int IntKind.i64 (36 : Int)))) [AObj.cells 49 [BV.fsl 52 Item xs, BV.fsl 54 Lease ls, BV.int IntKind.i64 p]]) ∧ (decide (x.snd.fst ≤ p) = false → (decide ((List.length xs : Int) ≥ (16 : Int)) = true → K (SV.b ((BV.int IntKind.i64 (33 : Int)))) [AObj.cells 49 [BV.fsl 52 Item xs, BV.fsl 54 Lease ls, BV.int IntKind.i64 p]]) ∧ (decide ((List.length xs : Int) ≥ (16 : Int)) = false → (x.snd.fst = x.snd.fst ∧ x.snd.snd.snd.snd.snd.snd.snd = x.snd.snd.snd.snd.snd.snd.snd ∧ x.snd.snd.snd.snd.snd.snd.snd = x.snd.snd.snd.snd.snd.snd.snd ∧ x.snd.fst = x.snd.fst ∧ xs = xs ∧ ((↑(0 + List.length xs) : Int) * (24 : Int) ≤ (140737488355328 : Int) ∧ (↑(0 + List.length xs) : Int) ≤ (140737488355328 : Int) ∧ x.snd.fst = x.snd.fst ∧ x.snd.snd.snd.snd.snd.snd.snd = x.snd.snd.snd.snd.snd.snd.snd ∧ x.snd.snd.snd.snd.snd.snd.snd = x.snd.snd.snd.snd.snd.snd.snd ∧ x.snd.fst = x.snd.fst ∧ (↑(List.length ([] ++ xs) + List.length [(x.snd.fst, x.snd.snd.snd.snd.snd.snd.snd)]) : Int) * (24 : Int) ≤ (140737488355328 : Int) ∧ (↑(List.length ([] ++ xs) + List.length [(x.snd.fst, x.snd.snd.snd.snd.snd.snd.snd)]) : Int) ≤ (140737488355328 : Int) ∧ K (SV.b ((BV.int IntKind.i64 (0 : Int)))) [AObj.cells 49 [BV.hd 1, BV.fsl 54 Lease ls, BV.int IntKind.i64 x.snd.fst], AObj.row 52 Item ([] ++ xs ++ [(x.snd.fst, x.snd.snd.snd.snd.snd.snd.snd)])]) ∧ xs = xs ∧ (↑(0 + List.length xs) : Int) * (24 : Int) ≤ (140737488355328 : Int) ∧ (↑(0 + List.length xs) : Int) ≤ (140737488355328 : Int) ∧ (↑(List.length ([] ++ xs) + List.length [(x.snd.fst, x.snd.snd.snd.snd.snd.snd.snd)]) : Int) * (24 : Int) ≤ (140737488355328 : Int) ∧ (↑(List.length ([] ++ xs) + List.length [(x.snd.fst, x.snd.snd.snd.snd.snd.snd.snd)]) : Int) ≤ (140737488355328 : Int) ∧ K (SV.b ((BV.int IntKind.i64 (0 : Int)))) [AObj.cells 49 [BV.hd 1, BV.fsl 54 Lease ls, BV.int IntKind.i64 x.snd.fst], AObj.row 52 Item ([] ++ xs ++ [(x.snd.fst, x.snd.snd.snd.snd.snd.snd.snd)])]) ∧ xs = xs ∧ xs = xs ∧ (↑(0 + List.length xs) : Int) * (24 : Int) ≤ (140737488355328 : Int) ∧ (↑(0 + List.length xs) : Int) ≤ (140737488355328 : Int) ∧ (↑(List.length ([] ++ xs) + List.length [(x.snd.fst, x.snd.snd.snd.snd.snd.snd.snd)]) : Int) * (24 : Int) ≤ (140737488355328 : Int) ∧ (↑(List.length ([] ++ xs) + List.length [(x.snd.fst, x.snd.snd.snd.snd.snd.snd.snd)]) : Int) ≤ (140737488355328 : Int) ∧ K (SV.b ((BV.int IntKind.i64 (0 : Int)))) [AObj.cells 49 [BV.hd 1, BV.fsl 54 Lease ls, BV.int IntKind.i64 x.snd.fst], AObj.row 52 Item ([] ++ xs ++ [(x.snd.fst, x.snd.snd.snd.snd.snd.snd.snd)])]))) ∧
 ((x.snd.snd.fst == (3 : Int)) = false →
 ((x.snd.snd.fst == (4 : Int)) = true →
 List.length xs ≤ lenMax ∧
 (decide (atQ xs x.snd.snd.snd.snd.snd.fst < (0 : Int)) = true → K (SV.b ((BV.int IntKind.i64 (34 : Int)))) [AObj.cells 49 [BV.fsl 52 Item xs, BV.fsl 54 Lease ls, BV.int IntKind.i64 p]]) ∧
 (decide (atQ xs x.snd.snd.snd.snd.snd.fst < (0 : Int)) = false →
 ((0 : Int) ≤ atQ xs x.snd.snd.snd.snd.snd.fst ∧ atQ xs x.snd.snd.snd.snd.snd.fst ≤ (List.length xs : Int)) ∧
 ((0 : Int) ≤ (0 : Int) ∧ (0 : Int) ≤ atQ xs x.snd.snd.snd.snd.snd.fst) ∧ ((0 : Int) ≤ (List.length xs : Int) ∧ (List.length xs : Int) ≤ (List.length xs : Int)) ∧ ((0 : Int) ≤ wr (atQ xs x.snd.snd.snd.snd.snd.fst + (1 : Int)) ∧ wr (atQ xs x.snd.snd.snd.snd.snd.fst + (1 : Int)) ≤ (List.length xs : Int)) ∧ ((0 : Int) ≤ (List.length xs : Int) ∧ (List.length xs : Int) ≤ (List.length xs : Int)) ∧ ((0 : Int) ≤ wr (atQ xs x.snd.snd.snd.snd.snd.fst + (1 : Int)) ∧ wr (atQ xs x.snd.snd.snd.snd.snd.fst + (1 : Int)) ≤ (List.length xs : Int)) ∧ List.take (List.length xs - Int.toNat (wr (atQ xs x.snd.snd.snd.snd.snd.fst + (1 : Int)))) (List.drop (Int.toNat (wr (atQ xs x.snd.snd.snd.snd.snd.fst + (1 : Int)))) xs) = List.take (List.length xs - Int.toNat (wr (atQ xs x.snd.snd.snd.snd.snd.fst + (1 : Int)))) (List.drop (Int.toNat (wr (atQ xs x.snd.snd.snd.snd.snd.fst + (1 : Int)))) xs) ∧ xs = xs ∧ ((0 : Int) ≤ atQ xs x.snd.snd.snd.snd.snd.fst ∧ atQ xs x.snd.snd.snd.snd.snd.fst ≤ (List.length xs : Int)) ∧ ((0 : Int) ≤ (0 : Int) ∧ (0 : Int) ≤ atQ xs x.snd.snd.snd.snd.snd.fst) ∧ List.take (Int.toNat (atQ xs x.snd.snd.snd.snd.snd.fst) - 0) (List.drop 0 xs) = List.take (Int.toNat (atQ xs x.snd.snd.snd.snd.snd.fst) - 0) (List.drop 0 xs) ∧ xs = xs ∧ (↑(0 + List.length (List.take (Int.toNat (atQ xs x.snd.snd.snd.snd.snd.fst) - 0) (List.drop 0 xs))) : Int) * (24 : Int) ≤ (140737488355328 : Int) ∧ (↑(0 + List.length (List.take (Int.toNat (atQ xs x.snd.snd.snd.snd.snd.fst) - 0) (List.drop 0 xs))) : Int) ≤ (140737488355328 : Int) ∧ ((0 : Int) ≤ (List.length xs : Int) ∧ (List.length xs : Int) ≤ (List.length xs : Int)) ∧ ((0 : Int) ≤ wr (atQ xs x.snd.snd.snd.snd.snd.fst + (1 : Int)) ∧ wr (atQ xs x.snd.snd.snd.snd.snd.fst + (1 : Int)) ≤ (List.length xs : Int)) ∧ List.take (List.length xs - Int.toNat (wr (atQ xs x.snd.snd.snd.snd.snd.fst + (1 : Int)))) (List.drop (Int.toNat (wr (atQ xs x.snd.snd.snd.snd.snd.fst + (1 : Int)))) xs) = List.take (List.length xs - Int.toNat (wr (atQ xs x.snd.snd.snd.snd.snd.fst + (1 : Int)))) (List.drop (Int.toNat (wr (atQ xs x.snd.snd.snd.snd.snd.fst + (1 : Int)))) xs) ∧ xs = xs ∧ (↑(List.length ([] ++ List.take (Int.toNat (atQ xs x.snd.snd.snd.snd.snd.fst) - 0) (List.drop 0 xs)) + List.length (List.take (List.length xs - Int.toNat (wr (atQ xs x.snd.snd.snd.snd.snd.fst + (1 : Int)))) (List.drop (Int.toNat (wr (atQ xs x.snd.snd.snd.snd.snd.fst + (1 : Int)))) xs))) : Int) * (24 : Int) ≤ (140737488355328 : Int) ∧ (↑(List.length ([] ++ List.take (Int.toNat (atQ xs x.snd.snd.snd.snd.snd.fst) - 0) (List.drop 0 xs)) + List.length (List.take (List.length xs - Int.toNat (wr (atQ xs x.snd.snd.snd.snd.snd.fst + (1 : Int)))) (List.drop (Int.toNat (wr (atQ xs x.snd.snd.snd.snd.snd.fst + (1 : Int)))) xs))) : Int) ≤ (140737488355328 : Int) ∧ List.length ls ≤ lenMax ∧ K (SV.b ((BV.int IntKind.i64 (0 : Int)))) [AObj.cells 49 [BV.hd 1, BV.hd 2, BV.int IntKind.i64 p], AObj.row 52 Item ([] ++ List.take (Int.toNat (atQ xs x.snd.snd.snd.snd.snd.fst) - 0) (List.drop 0 xs) ++ List.take (List.length xs - Int.toNat (wr (atQ xs x.snd.snd.snd.snd.snd.fst + (1 : Int)))) (List.drop (Int.toNat (wr (atQ xs x.snd.snd.snd.snd.snd.fst + (1 : Int)))) xs)), AObj.row 54 Lease (dropR ls x.snd.snd.snd.snd.snd.fst)])) ∧
 ((x.snd.snd.fst == (4 : Int)) = false → K (SV.b ((BV.int IntKind.i64 (0 : Int)))) [AObj.cells 49 [BV.fsl 52 Item xs, BV.fsl 54 Lease ls, BV.int IntKind.i64 p]]))))
 = fnVC Try.prog (look LB2) {} Try.f31 [pv 0, cv x] [rC xs ls p] K := by kernel_rfl

theorem nfCopy25 (xs : List Tm) (ls : List Le) (p : Int) (K : SV → List AObj → Prop) :
 ((p = p ∧ ls = ls ∧ xs = xs ∧ ((↑(0 + List.length xs) : Int) * (24 : Int) ≤ (140737488355328 : Int) ∧ (↑(0 + List.length xs) : Int) ≤ (140737488355328 : Int) ∧ p = p ∧ ls = ls ∧ p = p ∧ ls = ls ∧ (↑(0 + List.length ls) : Int) * (32 : Int) ≤ (140737488355328 : Int) ∧ (↑(0 + List.length ls) : Int) ≤ (140737488355328 : Int) ∧ p = p ∧ K (SV.b ((BV.ptr 1 0))) [AObj.cells 49 [BV.fsl 52 Item xs, BV.fsl 54 Lease ls, BV.int IntKind.i64 p], AObj.cells 49 [BV.hd 2, BV.hd 3, BV.int IntKind.i64 p], AObj.row 52 Item ([] ++ xs), AObj.row 54 Lease ([] ++ ls)]) ∧ p = p ∧ ls = ls ∧ xs = xs ∧ (↑(0 + List.length xs) : Int) * (24 : Int) ≤ (140737488355328 : Int) ∧ (↑(0 + List.length xs) : Int) ≤ (140737488355328 : Int) ∧ p = p ∧ ls = ls ∧ (↑(0 + List.length ls) : Int) * (32 : Int) ≤ (140737488355328 : Int) ∧ (↑(0 + List.length ls) : Int) ≤ (140737488355328 : Int) ∧ p = p ∧ K (SV.b ((BV.ptr 1 0))) [AObj.cells 49 [BV.fsl 52 Item xs, BV.fsl 54 Lease ls, BV.int IntKind.i64 p], AObj.cells 49 [BV.hd 2, BV.hd 3, BV.int IntKind.i64 p], AObj.row 52 Item ([] ++ xs), AObj.row 54 Lease ([] ++ ls)]) ∧ p = p ∧ ls = ls ∧ xs = xs ∧ p = p ∧ ls = ls ∧ xs = xs ∧ (↑(0 + List.length xs) : Int) * (24 : Int) ≤ (140737488355328 : Int) ∧ (↑(0 + List.length xs) : Int) ≤ (140737488355328 : Int) ∧ p = p ∧ ls = ls ∧ (↑(0 + List.length ls) : Int) * (32 : Int) ≤ (140737488355328 : Int) ∧ (↑(0 + List.length ls) : Int) ≤ (140737488355328 : Int) ∧ p = p ∧ K (SV.b ((BV.ptr 1 0))) [AObj.cells 49 [BV.fsl 52 Item xs, BV.fsl 54 Lease ls, BV.int IntKind.i64 p], AObj.cells 49 [BV.hd 2, BV.hd 3, BV.int IntKind.i64 p], AObj.row 52 Item ([] ++ xs), AObj.row 54 Lease ([] ++ ls)])
 = fnVC Try.prog (look LB2) {} Try.f34 [pv 0] [rC xs ls p] K := by kernel_rfl

theorem nfApply26 (ns : List Int) (rs : List Rp) (x : Ch) (K : SV → List AObj → Prop) :
 (((!validC (x.fst, x.snd.fst, x.snd.snd.fst, x.snd.snd.snd.fst, x.snd.snd.snd.snd.fst, x.snd.snd.snd.snd.snd.fst, x.snd.snd.snd.snd.snd.snd.fst, x.snd.snd.snd.snd.snd.snd.snd)) = true → K (SV.b ((BV.int IntKind.i64 (1 : Int)))) [AObj.cells 108 [BV.arr 8 I ns, BV.arr 8 ReplyT rs]]) ∧ ((!validC (x.fst, x.snd.fst, x.snd.snd.fst, x.snd.snd.snd.fst, x.snd.snd.snd.snd.fst, x.snd.snd.snd.snd.snd.fst, x.snd.snd.snd.snd.snd.snd.fst, x.snd.snd.snd.snd.snd.snd.snd)) = false → ((0 : Int) ≤ wr (x.snd.snd.snd.fst - (1 : Int)) ∧ wr (x.snd.snd.snd.fst - (1 : Int)) < (8 : Int)) ∧ Int.toNat (wr (x.snd.snd.snd.fst - (1 : Int))) < 8 ∧ ((x.snd.snd.snd.snd.fst != wr (List.getD ns (Int.toNat (wr (x.snd.snd.snd.fst - (1 : Int)))) (Ty.zero I) + (1 : Int))) = true → K (SV.b ((BV.int IntKind.i64 (32 : Int)))) [AObj.cells 108 [BV.arr 8 I ns, BV.arr 8 ReplyT rs]]) ∧ ((x.snd.snd.snd.snd.fst != wr (List.getD ns (Int.toNat (wr (x.snd.snd.snd.fst - (1 : Int)))) (Ty.zero I) + (1 : Int))) = false → ((0 : Int) ≤ wr (x.snd.snd.snd.fst - (1 : Int)) ∧ wr (x.snd.snd.snd.fst - (1 : Int)) < (8 : Int)) ∧ Int.toNat (wr (x.snd.snd.snd.fst - (1 : Int))) < 8 ∧ ((0 : Int) ≤ wr (x.snd.snd.snd.fst - (1 : Int)) ∧ wr (x.snd.snd.snd.fst - (1 : Int)) < (8 : Int)) ∧ Int.toNat (wr (x.snd.snd.snd.fst - (1 : Int))) < 8 ∧ ((x.snd.snd.fst == (3 : Int)) = true → ((0 : Int) ≤ wr (x.snd.snd.snd.fst - (1 : Int)) ∧ wr (x.snd.snd.snd.fst - (1 : Int)) < (8 : Int)) ∧ Int.toNat (wr (x.snd.snd.snd.fst - (1 : Int))) < 8 ∧ K (SV.b ((BV.int IntKind.i64 (0 : Int)))) [AObj.cells 108 [BV.arr 8 I (List.set ns (Int.toNat (wr (x.snd.snd.snd.fst - (1 : Int)))) x.snd.snd.snd.snd.fst), BV.arr 8 ReplyT (List.set (List.set rs (Int.toNat (wr (x.snd.snd.snd.fst - (1 : Int)))) ((0 : Int), x.snd.fst, x.snd.snd.snd.snd.snd.fst, (⟨#[]⟩ : ByteArray))) (Int.toNat (wr (x.snd.snd.snd.fst - (1 : Int)))) ((List.getD (List.set rs (Int.toNat (wr (x.snd.snd.snd.fst - (1 : Int)))) ((0 : Int), x.snd.fst, x.snd.snd.snd.snd.snd.fst, (⟨#[]⟩ : ByteArray))) (Int.toNat (wr (x.snd.snd.snd.fst - (1 : Int)))) (Ty.zero ReplyT)).fst, (List.getD (List.set rs (Int.toNat (wr (x.snd.snd.snd.fst - (1 : Int)))) ((0 : Int), x.snd.fst, x.snd.snd.snd.snd.snd.fst, (⟨#[]⟩ : ByteArray))) (Int.toNat (wr (x.snd.snd.snd.fst - (1 : Int)))) (Ty.zero ReplyT)).snd.fst, x.snd.fst, (List.getD (List.set rs (Int.toNat (wr (x.snd.snd.snd.fst - (1 : Int)))) ((0 : Int), x.snd.fst, x.snd.snd.snd.snd.snd.fst, (⟨#[]⟩ : ByteArray))) (Int.toNat (wr (x.snd.snd.snd.fst - (1 : Int)))) (Ty.zero ReplyT)).snd.snd.snd))]]) ∧ ((x.snd.snd.fst == (3 : Int)) = false → K (SV.b ((BV.int IntKind.i64 (0 : Int)))) [AObj.cells 108 [BV.arr 8 I (List.set ns (Int.toNat (wr (x.snd.snd.snd.fst - (1 : Int)))) x.snd.snd.snd.snd.fst), BV.arr 8 ReplyT (List.set rs (Int.toNat (wr (x.snd.snd.snd.fst - (1 : Int)))) ((0 : Int), x.snd.fst, x.snd.snd.snd.snd.snd.fst, (⟨#[]⟩ : ByteArray)))]]))))
 = fnVC Try.prog (look LB2) {} Try.f72 [pv 0, cv x] [rtC ns rs] K := by kernel_rfl

theorem nfNew28 (c t : Int) (K : SV → List AObj → Prop) :
 (K (SV.b ((BV.ptr 0 0))) [AObj.cells 87 [BV.int IntKind.i64 c, BV.int IntKind.i64 t, BV.hd 1, BV.ptr 2 0, BV.ptr 3 0, BV.ptr 4 0, BV.ptr 5 0], AObj.row 29 Change [], AObj.cells 102 [BV.hd 6], AObj.cells 49 [BV.hd 7, BV.hd 8, BV.int IntKind.i64 (0 : Int)], AObj.cells 108 [BV.arr 8 I [(0 : Int), (0 : Int), (0 : Int), (0 : Int), (0 : Int), (0 : Int), (0 : Int), (0 : Int)], BV.arr 8 ReplyT [((0 : Int), (0 : Int), (0 : Int), (⟨#[]⟩ : ByteArray)), ((0 : Int), (0 : Int), (0 : Int), (⟨#[]⟩ : ByteArray)), ((0 : Int), (0 : Int), (0 : Int), (⟨#[]⟩ : ByteArray)), ((0 : Int), (0 : Int), (0 : Int), (⟨#[]⟩ : ByteArray)), ((0 : Int), (0 : Int), (0 : Int), (⟨#[]⟩ : ByteArray)), ((0 : Int), (0 : Int), (0 : Int), (⟨#[]⟩ : ByteArray)), ((0 : Int), (0 : Int), (0 : Int), (⟨#[]⟩ : ByteArray)), ((0 : Int), (0 : Int), (0 : Int), (⟨#[]⟩ : ByteArray))]], AObj.cells 111 [BV.int IntKind.i64 c, BV.int IntKind.i64 (0 : Int), BV.hd 9], AObj.row 120 CellT [], AObj.row 52 Item [], AObj.row 54 Lease [], AObj.row 142 Win []])
 = fnVC Try.prog (look LB2) {} Try.f48 [iv c, iv t] [] K := by kernel_rfl

theorem nfEpoch (cc ct : Int) (hs : List Ch) (xs : List Ce) (q : Q) (t : TB) (gc gl : Int) (ws : List W) (K : SV → List AObj → Prop) :
 ((((List.length hs : Int) == (0 : Int)) = true → K (SV.b ((BV.int IntKind.i64 (0 : Int)))) [AObj.cells 87 [BV.int IntKind.i64 cc, BV.int IntKind.i64 ct, BV.fsl 29 Change hs, BV.ptr 1 0, BV.ptr 2 0, BV.ptr 3 0, BV.ptr 4 0], AObj.cells 102 [BV.fsl 120 CellT xs], AObj.cells 49 [BV.fsl 52 Item q.fst, BV.fsl 54 Lease q.snd.fst, BV.int IntKind.i64 q.snd.snd], AObj.cells 108 [BV.arr 8 I t.fst, BV.arr 8 ReplyT t.snd], AObj.cells 111 [BV.int IntKind.i64 gc, BV.int IntKind.i64 gl, BV.fsl 142 Win ws]]) ∧ (((List.length hs : Int) == (0 : Int)) = false → ((0 : Int) ≤ wr ((List.length hs : Int) - (1 : Int)) ∧ wr ((List.length hs : Int) - (1 : Int)) < (List.length hs : Int)) ∧ K (SV.b ((BV.int IntKind.i64 (List.getD hs (Int.toNat (wr ((List.length hs : Int) - (1 : Int)))) (Ty.zero Change)).fst))) [AObj.cells 87 [BV.int IntKind.i64 cc, BV.int IntKind.i64 ct, BV.fsl 29 Change hs, BV.ptr 1 0, BV.ptr 2 0, BV.ptr 3 0, BV.ptr 4 0], AObj.cells 102 [BV.fsl 120 CellT xs], AObj.cells 49 [BV.fsl 52 Item q.fst, BV.fsl 54 Lease q.snd.fst, BV.int IntKind.i64 q.snd.snd], AObj.cells 108 [BV.arr 8 I t.fst, BV.arr 8 ReplyT t.snd], AObj.cells 111 [BV.int IntKind.i64 gc, BV.int IntKind.i64 gl, BV.fsl 142 Win ws]]))
 = fnVC Try.prog (look LB2) {} Try.f71 [pv 0] [cpC cc ct hs 1 2 3 4, rsC xs, rC q.1 q.2.1 q.2.2, rtC t.1 t.2, rgC gc gl ws] K := by kernel_rfl

end Go.Proofs.Ythjogeodclpafaa.AM
end

section
set_option linter.unusedVariables false
namespace Go.Proofs.Ythjogeodclpafaa.AM
open Go Go.Proofs.Ythjogeodclpafaa

theorem nfApply28 (cc ct : Int) (hs : List Ch) (xs : List Ce) (its : List Tm) (ls : List Le) (p : Int) (ns : List Int) (rs : List Rp) (gc gl : Int) (ws : List W) (x : Ch) (K : SV → List AObj → Prop) :
 (((!validC (x.fst, x.snd.fst, x.snd.snd.fst, x.snd.snd.snd.fst, x.snd.snd.snd.snd.fst, x.snd.snd.snd.snd.snd.fst, x.snd.snd.snd.snd.snd.snd.fst, x.snd.snd.snd.snd.snd.snd.snd)) = true → K (SV.b ((BV.int IntKind.i64 (1 : Int)))) [AObj.cells 87 [BV.int IntKind.i64 cc, BV.int IntKind.i64 ct, BV.fsl 29 Change hs, BV.ptr 1 0, BV.ptr 2 0, BV.ptr 3 0, BV.ptr 4 0], AObj.cells 102 [BV.fsl 120 CellT xs], AObj.cells 49 [BV.fsl 52 Item its, BV.fsl 54 Lease ls, BV.int IntKind.i64 p], AObj.cells 108 [BV.arr 8 I ns, BV.arr 8 ReplyT rs], AObj.cells 111 [BV.int IntKind.i64 gc, BV.int IntKind.i64 gl, BV.fsl 142 Win ws]]) ∧
 ((!validC (x.fst, x.snd.fst, x.snd.snd.fst, x.snd.snd.snd.fst, x.snd.snd.snd.snd.fst, x.snd.snd.snd.snd.snd.fst, x.snd.snd.snd.snd.snd.snd.fst, x.snd.snd.snd.snd.snd.snd.snd)) = false →
 (sgnB false (x.snd.fst != wr ((List.length hs : Int) + (1 : Int))) = true →
 List.length hs ≤ lenMax ∧
 sgnB false (x.snd.fst != wr ((List.length hs : Int) + (1 : Int))) = sgnB false (x.snd.fst != wr ((List.length hs : Int) + (1 : Int))) ∧
 x.fst = x.fst ∧
 ((x.snd.fst != wr ((List.length hs : Int) + (1 : Int)) || decide (x.fst < epoch28 hs)) = true → K (SV.b ((BV.int IntKind.i64 (36 : Int)))) [AObj.cells 87 [BV.int IntKind.i64 cc, BV.int IntKind.i64 ct, BV.fsl 29 Change hs, BV.ptr 1 0, BV.ptr 2 0, BV.ptr 3 0, BV.ptr 4 0], AObj.cells 102 [BV.fsl 120 CellT xs], AObj.cells 49 [BV.fsl 52 Item its, BV.fsl 54 Lease ls, BV.int IntKind.i64 p], AObj.cells 108 [BV.arr 8 I ns, BV.arr 8 ReplyT rs], AObj.cells 111 [BV.int IntKind.i64 gc, BV.int IntKind.i64 gl, BV.fsl 142 Win ws]]) ∧
 ((x.snd.fst != wr ((List.length hs : Int) + (1 : Int)) || decide (x.fst < epoch28 hs)) = false →
 ((ns = ns ∧ rs = rs ∧ (List.length its ≤ lenMax ∧ List.length ls ≤ lenMax ∧ ns = ns ∧ rs = rs ∧ ns = ns ∧ rs = rs ∧ ∃ (y : Unit), (cc = cc ∧ ct = ct ∧ hs = hs ∧ xs = xs ∧ its = its ∧ ls = ls ∧ p = p ∧ ns = ns ∧ rs = rs ∧ gc = gc ∧ gl = gl ∧ ws = ws ∧ x.fst = x.fst ∧ x.snd.fst = x.snd.fst ∧ x.snd.snd.fst = x.snd.snd.fst ∧ x.snd.snd.snd.fst = x.snd.snd.snd.fst ∧ x.snd.snd.snd.snd.fst = x.snd.snd.snd.snd.fst ∧ x.snd.snd.snd.snd.snd.fst = x.snd.snd.snd.snd.snd.fst ∧ x.snd.snd.snd.snd.snd.snd.fst = x.snd.snd.snd.snd.snd.snd.fst ∧ x.snd.snd.snd.snd.snd.snd.snd = x.snd.snd.snd.snd.snd.snd.snd ∧ ns = ns ∧ rs = rs ∧ xs = xs ∧ its = its ∧ ls = ls ∧ p = p ∧ True) ∧ True) ∧ ns = ns ∧ rs = rs ∧ List.length its ≤ lenMax ∧ List.length ls ≤ lenMax ∧ ns = ns ∧ rs = rs ∧ ∃ (y : Unit), (cc = cc ∧ ct = ct ∧ hs = hs ∧ xs = xs ∧ its = its ∧ ls = ls ∧ p = p ∧ ns = ns ∧ rs = rs ∧ gc = gc ∧ gl = gl ∧ ws = ws ∧ x.fst = x.fst ∧ x.snd.fst = x.snd.fst ∧ x.snd.snd.fst = x.snd.snd.fst ∧ x.snd.snd.snd.fst = x.snd.snd.snd.fst ∧ x.snd.snd.snd.snd.fst = x.snd.snd.snd.snd.fst ∧ x.snd.snd.snd.snd.snd.fst = x.snd.snd.snd.snd.snd.fst ∧ x.snd.snd.snd.snd.snd.snd.fst = x.snd.snd.snd.snd.snd.snd.fst ∧ x.snd.snd.snd.snd.snd.snd.snd = x.snd.snd.snd.snd.snd.snd.snd ∧ ns = ns ∧ rs = rs ∧ xs = xs ∧ its = its ∧ ls = ls ∧ p = p ∧ True) ∧ True) ∧
 (List.length its ≤ lenMax ∧ List.length ls ≤ lenMax ∧ xs = xs ∧ xs = xs ∧ ns = ns ∧ rs = rs ∧ (ns = ns ∧ rs = rs ∧ ns = ns ∧ rs = rs ∧ ∃ (y : Unit), (cc = cc ∧ ct = ct ∧ hs = hs ∧ xs = xs ∧ its = its ∧ ls = ls ∧ p = p ∧ ns = ns ∧ rs = rs ∧ gc = gc ∧ gl = gl ∧ ws = ws ∧ x.fst = x.fst ∧ x.snd.fst = x.snd.fst ∧ x.snd.snd.fst = x.snd.snd.fst ∧ x.snd.snd.snd.fst = x.snd.snd.snd.fst ∧ x.snd.snd.snd.snd.fst = x.snd.snd.snd.snd.fst ∧ x.snd.snd.snd.snd.snd.fst = x.snd.snd.snd.snd.snd.fst ∧ x.snd.snd.snd.snd.snd.snd.fst = x.snd.snd.snd.snd.snd.snd.fst ∧ x.snd.snd.snd.snd.snd.snd.snd = x.snd.snd.snd.snd.snd.snd.snd ∧ ns = ns ∧ rs = rs ∧ xs = xs ∧ its = its ∧ ls = ls ∧ p = p ∧ True) ∧ True) ∧ xs = xs ∧ xs = xs ∧ ns = ns ∧ rs = rs ∧ (ns = ns ∧ rs = rs ∧ ∃ (y : Unit), (cc = cc ∧ ct = ct ∧ hs = hs ∧ xs = xs ∧ its = its ∧ ls = ls ∧ p = p ∧ ns = ns ∧ rs = rs ∧ gc = gc ∧ gl = gl ∧ ws = ws ∧ x.fst = x.fst ∧ x.snd.fst = x.snd.fst ∧ x.snd.snd.fst = x.snd.snd.fst ∧ x.snd.snd.snd.fst = x.snd.snd.snd.fst ∧ x.snd.snd.snd.snd.fst = x.snd.snd.snd.snd.fst ∧ x.snd.snd.snd.snd.snd.fst = x.snd.snd.snd.snd.snd.fst ∧ x.snd.snd.snd.snd.snd.snd.fst = x.snd.snd.snd.snd.snd.snd.fst ∧ x.snd.snd.snd.snd.snd.snd.snd = x.snd.snd.snd.snd.snd.snd.snd ∧ ns = ns ∧ rs = rs ∧ xs = xs ∧ its = its ∧ ls = ls ∧ p = p ∧ True) ∧ True) ∧ xs = xs ∧ ∃ (y : Unit), (cc = cc ∧ ct = ct ∧ hs = hs ∧ xs = xs ∧ its = its ∧ ls = ls ∧ p = p ∧ ns = ns ∧ rs = rs ∧ gc = gc ∧ gl = gl ∧ ws = ws ∧ x.fst = x.fst ∧ x.snd.fst = x.snd.fst ∧ x.snd.snd.fst = x.snd.snd.fst ∧ x.snd.snd.snd.fst = x.snd.snd.snd.fst ∧ x.snd.snd.snd.snd.fst = x.snd.snd.snd.snd.fst ∧ x.snd.snd.snd.snd.snd.fst = x.snd.snd.snd.snd.snd.fst ∧ x.snd.snd.snd.snd.snd.snd.fst = x.snd.snd.snd.snd.snd.snd.fst ∧ x.snd.snd.snd.snd.snd.snd.snd = x.snd.snd.snd.snd.snd.snd.snd ∧ ns = ns ∧ rs = rs ∧ xs = xs ∧ its = its ∧ ls = ls ∧ p = p ∧ True) ∧ True) ∧ xs = xs ∧ xs = xs ∧ ns = ns ∧ rs = rs ∧ (ns = ns ∧ rs = rs ∧ List.length its ≤ lenMax ∧ List.length ls ≤ lenMax ∧ ns = ns ∧ rs = rs ∧ ∃ (y : Unit), (cc = cc ∧ ct = ct ∧ hs = hs ∧ xs = xs ∧ its = its ∧ ls = ls ∧ p = p ∧ ns = ns ∧ rs = rs ∧ gc = gc ∧ gl = gl ∧ ws = ws ∧ x.fst = x.fst ∧ x.snd.fst = x.snd.fst ∧ x.snd.snd.fst = x.snd.snd.fst ∧ x.snd.snd.snd.fst = x.snd.snd.snd.fst ∧ x.snd.snd.snd.snd.fst = x.snd.snd.snd.snd.fst ∧ x.snd.snd.snd.snd.snd.fst = x.snd.snd.snd.snd.snd.fst ∧ x.snd.snd.snd.snd.snd.snd.fst = x.snd.snd.snd.snd.snd.snd.fst ∧ x.snd.snd.snd.snd.snd.snd.snd = x.snd.snd.snd.snd.snd.snd.snd ∧ ns = ns ∧ rs = rs ∧ xs = xs ∧ its = its ∧ ls = ls ∧ p = p ∧ True) ∧ True) ∧ List.length its ≤ lenMax ∧ List.length ls ≤ lenMax ∧ xs = xs ∧ xs = xs ∧ ns = ns ∧ rs = rs ∧ (ns = ns ∧ rs = rs ∧ ∃ (y : Unit), (cc = cc ∧ ct = ct ∧ hs = hs ∧ xs = xs ∧ its = its ∧ ls = ls ∧ p = p ∧ ns = ns ∧ rs = rs ∧ gc = gc ∧ gl = gl ∧ ws = ws ∧ x.fst = x.fst ∧ x.snd.fst = x.snd.fst ∧ x.snd.snd.fst = x.snd.snd.fst ∧ x.snd.snd.snd.fst = x.snd.snd.snd.fst ∧ x.snd.snd.snd.snd.fst = x.snd.snd.snd.snd.fst ∧ x.snd.snd.snd.snd.snd.fst = x.snd.snd.snd.snd.snd.fst ∧ x.snd.snd.snd.snd.snd.snd.fst = x.snd.snd.snd.snd.snd.snd.fst ∧ x.snd.snd.snd.snd.snd.snd.snd = x.snd.snd.snd.snd.snd.snd.snd ∧ ns = ns ∧ rs = rs ∧ xs = xs ∧ its = its ∧ ls = ls ∧ p = p ∧ True) ∧ True) ∧ xs = xs ∧ ∃ (y : Unit), (cc = cc ∧ ct = ct ∧ hs = hs ∧ xs = xs ∧ its = its ∧ ls = ls ∧ p = p ∧ ns = ns ∧ rs = rs ∧ gc = gc ∧ gl = gl ∧ ws = ws ∧ x.fst = x.fst ∧ x.snd.fst = x.snd.fst ∧ x.snd.snd.fst = x.snd.snd.fst ∧ x.snd.snd.snd.fst = x.snd.snd.snd.fst ∧ x.snd.snd.snd.snd.fst = x.snd.snd.snd.snd.fst ∧ x.snd.snd.snd.snd.snd.fst = x.snd.snd.snd.snd.snd.fst ∧ x.snd.snd.snd.snd.snd.snd.fst = x.snd.snd.snd.snd.snd.snd.fst ∧ x.snd.snd.snd.snd.snd.snd.snd = x.snd.snd.snd.snd.snd.snd.snd ∧ ns = ns ∧ rs = rs ∧ xs = xs ∧ its = its ∧ ls = ls ∧ p = p ∧ True) ∧ True) ∧
 ∀ (y : Unit),
 True →
 ∀ (r : Int × TB),
 r = apply26 (ns, rs) (x.fst, x.snd.fst, x.snd.snd.fst, x.snd.snd.snd.fst, x.snd.snd.snd.snd.fst, x.snd.snd.snd.snd.snd.fst, x.snd.snd.snd.snd.snd.snd.fst, x.snd.snd.snd.snd.snd.snd.snd) →
 x.fst = x.fst ∧
 x.snd.fst = x.snd.fst ∧
 x.snd.snd.fst = x.snd.snd.fst ∧
 x.snd.snd.snd.fst = x.snd.snd.snd.fst ∧
 x.snd.snd.snd.snd.fst = x.snd.snd.snd.snd.fst ∧
 x.snd.snd.snd.snd.snd.fst = x.snd.snd.snd.snd.snd.fst ∧
 x.snd.snd.snd.snd.snd.snd.fst = x.snd.snd.snd.snd.snd.snd.fst ∧
 x.snd.snd.snd.snd.snd.snd.snd = x.snd.snd.snd.snd.snd.snd.snd ∧
 x.fst = x.fst ∧
 x.snd.fst = x.snd.fst ∧
 x.snd.snd.fst = x.snd.snd.fst ∧
 x.snd.snd.snd.fst = x.snd.snd.snd.fst ∧
 x.snd.snd.snd.snd.fst = x.snd.snd.snd.snd.fst ∧
 x.snd.snd.snd.snd.snd.fst = x.snd.snd.snd.snd.snd.fst ∧
 x.snd.snd.snd.snd.snd.snd.fst = x.snd.snd.snd.snd.snd.snd.fst ∧
 x.snd.snd.snd.snd.snd.snd.snd = x.snd.snd.snd.snd.snd.snd.snd ∧
 List.length xs ≤ lenMax ∧
 ∀ (r_1 : Int × List Ce),
 r_1 = apply24 xs (x.fst, x.snd.fst, x.snd.snd.fst, x.snd.snd.snd.fst, x.snd.snd.snd.snd.fst, x.snd.snd.snd.snd.snd.fst, x.snd.snd.snd.snd.snd.snd.fst, x.snd.snd.snd.snd.snd.snd.snd) →
 x.fst = x.fst ∧
 x.snd.fst = x.snd.fst ∧
 x.snd.snd.fst = x.snd.snd.fst ∧
 x.snd.snd.snd.fst = x.snd.snd.snd.fst ∧
 x.snd.snd.snd.snd.fst = x.snd.snd.snd.snd.fst ∧
 x.snd.snd.snd.snd.snd.fst = x.snd.snd.snd.snd.snd.fst ∧
 x.snd.snd.snd.snd.snd.snd.fst = x.snd.snd.snd.snd.snd.snd.fst ∧
 x.snd.snd.snd.snd.snd.snd.snd = x.snd.snd.snd.snd.snd.snd.snd ∧
 List.length its ≤ lenMax ∧
 List.length ls ≤ lenMax ∧
 ∀ (r_2 : Int × Q),
 r_2 = applyR (its, ls, p) (x.fst, x.snd.fst, x.snd.snd.fst, x.snd.snd.snd.fst, x.snd.snd.snd.snd.fst, x.snd.snd.snd.snd.snd.fst, x.snd.snd.snd.snd.snd.snd.fst, x.snd.snd.snd.snd.snd.snd.snd) →
 (∃ (y : Nat), ((3 : Int) = (3 : Int) ∧ (0 : Int) = (↑y : Int) ∧ cc = cc ∧ ct = ct ∧ hs = hs ∧ xs = xs ∧ its = its ∧ ls = ls ∧ p = p ∧ ns = ns ∧ rs = rs ∧ gc = gc ∧ gl = gl ∧ ws = ws ∧ x.fst = x.fst ∧ x.snd.fst = x.snd.fst ∧ x.snd.snd.fst = x.snd.snd.fst ∧ x.snd.snd.snd.fst = x.snd.snd.snd.fst ∧ x.snd.snd.snd.snd.fst = x.snd.snd.snd.snd.fst ∧ x.snd.snd.snd.snd.snd.fst = x.snd.snd.snd.snd.snd.fst ∧ x.snd.snd.snd.snd.snd.snd.fst = x.snd.snd.snd.snd.snd.snd.fst ∧ x.snd.snd.snd.snd.snd.snd.snd = x.snd.snd.snd.snd.snd.snd.snd ∧ r.snd.fst = r.snd.fst ∧ r.snd.snd = r.snd.snd ∧ r_1.snd = r_1.snd ∧ r_2.snd.fst = r_2.snd.fst ∧ r_2.snd.snd.fst = r_2.snd.snd.fst ∧ r_2.snd.snd.snd = r_2.snd.snd.snd ∧ [r.fst, r_1.fst, r_2.fst] = [r.fst, r_1.fst, r_2.fst] ∧ True) ∧ y ≤ 3 ∧ ∀ (j : Nat), j < y → List.getD [r.fst, r_1.fst, r_2.fst] j (0 : Ty.D I) = (0 : Ty.D I)) ∧
 ∀ (x_1 : Nat),
 (x_1 ≤ 3 ∧ ∀ (j : Nat), j < x_1 → List.getD [r.fst, r_1.fst, r_2.fst] j (0 : Ty.D I) = (0 : Ty.D I)) →
 (decide ((↑x_1 : Int) < (3 : Int)) = true → ((0 : Int) ≤ (↑x_1 : Int) ∧ (↑x_1 : Int) < (3 : Int)) ∧ x_1 < 3 ∧ ((List.getD [r.fst, r_1.fst, r_2.fst] x_1 (Ty.zero I) != (0 : Int)) = true → K (SV.b ((BV.int IntKind.i64 (List.getD [r.fst, r_1.fst, r_2.fst] x_1 (Ty.zero I))))) [AObj.cells 87 [BV.int IntKind.i64 cc, BV.int IntKind.i64 ct, BV.fsl 29 Change hs, BV.ptr 1 0, BV.ptr 2 0, BV.ptr 3 0, BV.ptr 4 0], AObj.cells 102 [BV.fsl 120 CellT xs], AObj.cells 49 [BV.fsl 52 Item its, BV.fsl 54 Lease ls, BV.int IntKind.i64 p], AObj.cells 108 [BV.arr 8 I ns, BV.arr 8 ReplyT rs], AObj.cells 111 [BV.int IntKind.i64 gc, BV.int IntKind.i64 gl, BV.fsl 142 Win ws]]) ∧ ((List.getD [r.fst, r_1.fst, r_2.fst] x_1 (Ty.zero I) != (0 : Int)) = false → ∃ (y : Nat), ((3 : Int) = (3 : Int) ∧ wr ((↑x_1 : Int) + (1 : Int)) = (↑y : Int) ∧ cc = cc ∧ ct = ct ∧ hs = hs ∧ xs = xs ∧ its = its ∧ ls = ls ∧ p = p ∧ ns = ns ∧ rs = rs ∧ gc = gc ∧ gl = gl ∧ ws = ws ∧ x.fst = x.fst ∧ x.snd.fst = x.snd.fst ∧ x.snd.snd.fst = x.snd.snd.fst ∧ x.snd.snd.snd.fst = x.snd.snd.snd.fst ∧ x.snd.snd.snd.snd.fst = x.snd.snd.snd.snd.fst ∧ x.snd.snd.snd.snd.snd.fst = x.snd.snd.snd.snd.snd.fst ∧ x.snd.snd.snd.snd.snd.snd.fst = x.snd.snd.snd.snd.snd.snd.fst ∧ x.snd.snd.snd.snd.snd.snd.snd = x.snd.snd.snd.snd.snd.snd.snd ∧ r.snd.fst = r.snd.fst ∧ r.snd.snd = r.snd.snd ∧ r_1.snd = r_1.snd ∧ r_2.snd.fst = r_2.snd.fst ∧ r_2.snd.snd.fst = r_2.snd.snd.fst ∧ r_2.snd.snd.snd = r_2.snd.snd.snd ∧ [r.fst, r_1.fst, r_2.fst] = [r.fst, r_1.fst, r_2.fst] ∧ True) ∧ (y ≤ 3 ∧ ∀ (j : Nat), j < y → List.getD [r.fst, r_1.fst, r_2.fst] j (0 : Ty.D I) = (0 : Ty.D I)) ∧ 3 - y < 3 - x_1)) ∧
 (decide ((↑x_1 : Int) < (3 : Int)) = false →
 (x.fst = x.fst ∧
 x.snd.fst = x.snd.fst ∧
 x.snd.snd.fst = x.snd.snd.fst ∧
 x.snd.snd.snd.fst = x.snd.snd.snd.fst ∧
 x.snd.snd.snd.snd.fst = x.snd.snd.snd.snd.fst ∧
 x.snd.snd.snd.snd.snd.fst = x.snd.snd.snd.snd.snd.fst ∧
 x.snd.snd.snd.snd.snd.snd.fst = x.snd.snd.snd.snd.snd.snd.fst ∧
 x.snd.snd.snd.snd.snd.snd.snd = x.snd.snd.snd.snd.snd.snd.snd ∧
 hs = hs ∧
 ((↑(0 + List.length hs) : Int) * (80 : Int) ≤ (140737488355328 : Int) ∧ (↑(0 + List.length hs) : Int) ≤ (140737488355328 : Int) ∧ x.fst = x.fst ∧ x.snd.fst = x.snd.fst ∧ x.snd.snd.fst = x.snd.snd.fst ∧ x.snd.snd.snd.fst = x.snd.snd.snd.fst ∧ x.snd.snd.snd.snd.fst = x.snd.snd.snd.snd.fst ∧ x.snd.snd.snd.snd.snd.fst = x.snd.snd.snd.snd.snd.fst ∧ x.snd.snd.snd.snd.snd.snd.fst = x.snd.snd.snd.snd.snd.snd.fst ∧ x.snd.snd.snd.snd.snd.snd.snd = x.snd.snd.snd.snd.snd.snd.snd ∧ (↑(List.length ([] ++ hs) + List.length [(x.fst, x.snd.fst, x.snd.snd.fst, x.snd.snd.snd.fst, x.snd.snd.snd.snd.fst, x.snd.snd.snd.snd.snd.fst, x.snd.snd.snd.snd.snd.snd.fst, x.snd.snd.snd.snd.snd.snd.snd)]) : Int) * (80 : Int) ≤ (140737488355328 : Int) ∧ (↑(List.length ([] ++ hs) + List.length [(x.fst, x.snd.fst, x.snd.snd.fst, x.snd.snd.snd.fst, x.snd.snd.snd.snd.fst, x.snd.snd.snd.snd.snd.fst, x.snd.snd.snd.snd.snd.snd.fst, x.snd.snd.snd.snd.snd.snd.snd)]) : Int) ≤ (140737488355328 : Int) ∧ K (SV.b ((BV.int IntKind.i64 (0 : Int)))) [AObj.cells 87 [BV.int IntKind.i64 cc, BV.int IntKind.i64 ct, BV.hd 5, BV.ptr 6 0, BV.ptr 7 0, BV.ptr 8 0, BV.ptr 4 0], AObj.cells 102 [BV.fsl 120 CellT xs], AObj.cells 49 [BV.fsl 52 Item its, BV.fsl 54 Lease ls, BV.int IntKind.i64 p], AObj.cells 108 [BV.arr 8 I ns, BV.arr 8 ReplyT rs], AObj.cells 111 [BV.int IntKind.i64 gc, BV.int IntKind.i64 gl, BV.fsl 142 Win ws], AObj.row 29 Change ([] ++ hs ++ [(x.fst, x.snd.fst, x.snd.snd.fst, x.snd.snd.snd.fst, x.snd.snd.snd.snd.fst, x.snd.snd.snd.snd.snd.fst, x.snd.snd.snd.snd.snd.snd.fst, x.snd.snd.snd.snd.snd.snd.snd)]), AObj.cells 102 [BV.fsl 120 CellT r_1.snd], AObj.cells 49 [BV.fsl 52 Item r_2.snd.fst, BV.fsl 54 Lease r_2.snd.snd.fst, BV.int IntKind.i64 r_2.snd.snd.snd], AObj.cells 108 [BV.arr 8 I r.snd.fst, BV.arr 8 ReplyT r.snd.snd]]) ∧
 hs = hs ∧ (↑(0 + List.length hs) : Int) * (80 : Int) ≤ (140737488355328 : Int) ∧ (↑(0 + List.length hs) : Int) ≤ (140737488355328 : Int) ∧ (↑(List.length ([] ++ hs) + List.length [(x.fst, x.snd.fst, x.snd.snd.fst, x.snd.snd.snd.fst, x.snd.snd.snd.snd.fst, x.snd.snd.snd.snd.snd.fst, x.snd.snd.snd.snd.snd.snd.fst, x.snd.snd.snd.snd.snd.snd.snd)]) : Int) * (80 : Int) ≤ (140737488355328 : Int) ∧ (↑(List.length ([] ++ hs) + List.length [(x.fst, x.snd.fst, x.snd.snd.fst, x.snd.snd.snd.fst, x.snd.snd.snd.snd.fst, x.snd.snd.snd.snd.snd.fst, x.snd.snd.snd.snd.snd.snd.fst, x.snd.snd.snd.snd.snd.snd.snd)]) : Int) ≤ (140737488355328 : Int) ∧ K (SV.b ((BV.int IntKind.i64 (0 : Int)))) [AObj.cells 87 [BV.int IntKind.i64 cc, BV.int IntKind.i64 ct, BV.hd 5, BV.ptr 6 0, BV.ptr 7 0, BV.ptr 8 0, BV.ptr 4 0], AObj.cells 102 [BV.fsl 120 CellT xs], AObj.cells 49 [BV.fsl 52 Item its, BV.fsl 54 Lease ls, BV.int IntKind.i64 p], AObj.cells 108 [BV.arr 8 I ns, BV.arr 8 ReplyT rs], AObj.cells 111 [BV.int IntKind.i64 gc, BV.int IntKind.i64 gl, BV.fsl 142 Win ws], AObj.row 29 Change ([] ++ hs ++ [(x.fst, x.snd.fst, x.snd.snd.fst, x.snd.snd.snd.fst, x.snd.snd.snd.snd.fst, x.snd.snd.snd.snd.snd.fst, x.snd.snd.snd.snd.snd.snd.fst, x.snd.snd.snd.snd.snd.snd.snd)]), AObj.cells 102 [BV.fsl 120 CellT r_1.snd], AObj.cells 49 [BV.fsl 52 Item r_2.snd.fst, BV.fsl 54 Lease r_2.snd.snd.fst, BV.int IntKind.i64 r_2.snd.snd.snd], AObj.cells 108 [BV.arr 8 I r.snd.fst, BV.arr 8 ReplyT r.snd.snd]]) ∧
 hs = hs ∧ hs = hs ∧ (↑(0 + List.length hs) : Int) * (80 : Int) ≤ (140737488355328 : Int) ∧ (↑(0 + List.length hs) : Int) ≤ (140737488355328 : Int) ∧ (↑(List.length ([] ++ hs) + List.length [(x.fst, x.snd.fst, x.snd.snd.fst, x.snd.snd.snd.fst, x.snd.snd.snd.snd.fst, x.snd.snd.snd.snd.snd.fst, x.snd.snd.snd.snd.snd.snd.fst, x.snd.snd.snd.snd.snd.snd.snd)]) : Int) * (80 : Int) ≤ (140737488355328 : Int) ∧ (↑(List.length ([] ++ hs) + List.length [(x.fst, x.snd.fst, x.snd.snd.fst, x.snd.snd.snd.fst, x.snd.snd.snd.snd.fst, x.snd.snd.snd.snd.snd.fst, x.snd.snd.snd.snd.snd.snd.fst, x.snd.snd.snd.snd.snd.snd.snd)]) : Int) ≤ (140737488355328 : Int) ∧ K (SV.b ((BV.int IntKind.i64 (0 : Int)))) [AObj.cells 87 [BV.int IntKind.i64 cc, BV.int IntKind.i64 ct, BV.hd 5, BV.ptr 6 0, BV.ptr 7 0, BV.ptr 8 0, BV.ptr 4 0], AObj.cells 102 [BV.fsl 120 CellT xs], AObj.cells 49 [BV.fsl 52 Item its, BV.fsl 54 Lease ls, BV.int IntKind.i64 p], AObj.cells 108 [BV.arr 8 I ns, BV.arr 8 ReplyT rs], AObj.cells 111 [BV.int IntKind.i64 gc, BV.int IntKind.i64 gl, BV.fsl 142 Win ws], AObj.row 29 Change ([] ++ hs ++ [(x.fst, x.snd.fst, x.snd.snd.fst, x.snd.snd.snd.fst, x.snd.snd.snd.snd.fst, x.snd.snd.snd.snd.snd.fst, x.snd.snd.snd.snd.snd.snd.fst, x.snd.snd.snd.snd.snd.snd.snd)]), AObj.cells 102 [BV.fsl 120 CellT r_1.snd], AObj.cells 49 [BV.fsl 52 Item r_2.snd.fst, BV.fsl 54 Lease r_2.snd.snd.fst, BV.int IntKind.i64 r_2.snd.snd.snd], AObj.cells 108 [BV.arr 8 I r.snd.fst, BV.arr 8 ReplyT r.snd.snd]]))) ∧
 (sgnB false (x.snd.fst != wr ((List.length hs : Int) + (1 : Int))) = false →
 sgnB false (x.snd.fst != wr ((List.length hs : Int) + (1 : Int))) = sgnB false (x.snd.fst != wr ((List.length hs : Int) + (1 : Int))) ∧
 x.fst = x.fst ∧
 ((x.snd.fst != wr ((List.length hs : Int) + (1 : Int)) || decide (x.fst < (0 : Int))) = true → K (SV.b ((BV.int IntKind.i64 (36 : Int)))) [AObj.cells 87 [BV.int IntKind.i64 cc, BV.int IntKind.i64 ct, BV.fsl 29 Change hs, BV.ptr 1 0, BV.ptr 2 0, BV.ptr 3 0, BV.ptr 4 0], AObj.cells 102 [BV.fsl 120 CellT xs], AObj.cells 49 [BV.fsl 52 Item its, BV.fsl 54 Lease ls, BV.int IntKind.i64 p], AObj.cells 108 [BV.arr 8 I ns, BV.arr 8 ReplyT rs], AObj.cells 111 [BV.int IntKind.i64 gc, BV.int IntKind.i64 gl, BV.fsl 142 Win ws]]) ∧
 ((x.snd.fst != wr ((List.length hs : Int) + (1 : Int)) || decide (x.fst < (0 : Int))) = false →
 ((ns = ns ∧ rs = rs ∧ (List.length its ≤ lenMax ∧ List.length ls ≤ lenMax ∧ ns = ns ∧ rs = rs ∧ ns = ns ∧ rs = rs ∧ ∃ (y : Unit), (cc = cc ∧ ct = ct ∧ hs = hs ∧ xs = xs ∧ its = its ∧ ls = ls ∧ p = p ∧ ns = ns ∧ rs = rs ∧ gc = gc ∧ gl = gl ∧ ws = ws ∧ x.fst = x.fst ∧ x.snd.fst = x.snd.fst ∧ x.snd.snd.fst = x.snd.snd.fst ∧ x.snd.snd.snd.fst = x.snd.snd.snd.fst ∧ x.snd.snd.snd.snd.fst = x.snd.snd.snd.snd.fst ∧ x.snd.snd.snd.snd.snd.fst = x.snd.snd.snd.snd.snd.fst ∧ x.snd.snd.snd.snd.snd.snd.fst = x.snd.snd.snd.snd.snd.snd.fst ∧ x.snd.snd.snd.snd.snd.snd.snd = x.snd.snd.snd.snd.snd.snd.snd ∧ ns = ns ∧ rs = rs ∧ xs = xs ∧ its = its ∧ ls = ls ∧ p = p ∧ True) ∧ True) ∧ ns = ns ∧ rs = rs ∧ List.length its ≤ lenMax ∧ List.length ls ≤ lenMax ∧ ns = ns ∧ rs = rs ∧ ∃ (y : Unit), (cc = cc ∧ ct = ct ∧ hs = hs ∧ xs = xs ∧ its = its ∧ ls = ls ∧ p = p ∧ ns = ns ∧ rs = rs ∧ gc = gc ∧ gl = gl ∧ ws = ws ∧ x.fst = x.fst ∧ x.snd.fst = x.snd.fst ∧ x.snd.snd.fst = x.snd.snd.fst ∧ x.snd.snd.snd.fst = x.snd.snd.snd.fst ∧ x.snd.snd.snd.snd.fst = x.snd.snd.snd.snd.fst ∧ x.snd.snd.snd.snd.snd.fst = x.snd.snd.snd.snd.snd.fst ∧ x.snd.snd.snd.snd.snd.snd.fst = x.snd.snd.snd.snd.snd.snd.fst ∧ x.snd.snd.snd.snd.snd.snd.snd = x.snd.snd.snd.snd.snd.snd.snd ∧ ns = ns ∧ rs = rs ∧ xs = xs ∧ its = its ∧ ls = ls ∧ p = p ∧ True) ∧ True) ∧
 (List.length its ≤ lenMax ∧ List.length ls ≤ lenMax ∧ xs = xs ∧ xs = xs ∧ ns = ns ∧ rs = rs ∧ (ns = ns ∧ rs = rs ∧ ns = ns ∧ rs = rs ∧ ∃ (y : Unit), (cc = cc ∧ ct = ct ∧ hs = hs ∧ xs = xs ∧ its = its ∧ ls = ls ∧ p = p ∧ ns = ns ∧ rs = rs ∧ gc = gc ∧ gl = gl ∧ ws = ws ∧ x.fst = x.fst ∧ x.snd.fst = x.snd.fst ∧ x.snd.snd.fst = x.snd.snd.fst ∧ x.snd.snd.snd.fst = x.snd.snd.snd.fst ∧ x.snd.snd.snd.snd.fst = x.snd.snd.snd.snd.fst ∧ x.snd.snd.snd.snd.snd.fst = x.snd.snd.snd.snd.snd.fst ∧ x.snd.snd.snd.snd.snd.snd.fst = x.snd.snd.snd.snd.snd.snd.fst ∧ x.snd.snd.snd.snd.snd.snd.snd = x.snd.snd.snd.snd.snd.snd.snd ∧ ns = ns ∧ rs = rs ∧ xs = xs ∧ its = its ∧ ls = ls ∧ p = p ∧ True) ∧ True) ∧ xs = xs ∧ xs = xs ∧ ns = ns ∧ rs = rs ∧ (ns = ns ∧ rs = rs ∧ ∃ (y : Unit), (cc = cc ∧ ct = ct ∧ hs = hs ∧ xs = xs ∧ its = its ∧ ls = ls ∧ p = p ∧ ns = ns ∧ rs = rs ∧ gc = gc ∧ gl = gl ∧ ws = ws ∧ x.fst = x.fst ∧ x.snd.fst = x.snd.fst ∧ x.snd.snd.fst = x.snd.snd.fst ∧ x.snd.snd.snd.fst = x.snd.snd.snd.fst ∧ x.snd.snd.snd.snd.fst = x.snd.snd.snd.snd.fst ∧ x.snd.snd.snd.snd.snd.fst = x.snd.snd.snd.snd.snd.fst ∧ x.snd.snd.snd.snd.snd.snd.fst = x.snd.snd.snd.snd.snd.snd.fst ∧ x.snd.snd.snd.snd.snd.snd.snd = x.snd.snd.snd.snd.snd.snd.snd ∧ ns = ns ∧ rs = rs ∧ xs = xs ∧ its = its ∧ ls = ls ∧ p = p ∧ True) ∧ True) ∧ xs = xs ∧ ∃ (y : Unit), (cc = cc ∧ ct = ct ∧ hs = hs ∧ xs = xs ∧ its = its ∧ ls = ls ∧ p = p ∧ ns = ns ∧ rs = rs ∧ gc = gc ∧ gl = gl ∧ ws = ws ∧ x.fst = x.fst ∧ x.snd.fst = x.snd.fst ∧ x.snd.snd.fst = x.snd.snd.fst ∧ x.snd.snd.snd.fst = x.snd.snd.snd.fst ∧ x.snd.snd.snd.snd.fst = x.snd.snd.snd.snd.fst ∧ x.snd.snd.snd.snd.snd.fst = x.snd.snd.snd.snd.snd.fst ∧ x.snd.snd.snd.snd.snd.snd.fst = x.snd.snd.snd.snd.snd.snd.fst ∧ x.snd.snd.snd.snd.snd.snd.snd = x.snd.snd.snd.snd.snd.snd.snd ∧ ns = ns ∧ rs = rs ∧ xs = xs ∧ its = its ∧ ls = ls ∧ p = p ∧ True) ∧ True) ∧ xs = xs ∧ xs = xs ∧ ns = ns ∧ rs = rs ∧ (ns = ns ∧ rs = rs ∧ List.length its ≤ lenMax ∧ List.length ls ≤ lenMax ∧ ns = ns ∧ rs = rs ∧ ∃ (y : Unit), (cc = cc ∧ ct = ct ∧ hs = hs ∧ xs = xs ∧ its = its ∧ ls = ls ∧ p = p ∧ ns = ns ∧ rs = rs ∧ gc = gc ∧ gl = gl ∧ ws = ws ∧ x.fst = x.fst ∧ x.snd.fst = x.snd.fst ∧ x.snd.snd.fst = x.snd.snd.fst ∧ x.snd.snd.snd.fst = x.snd.snd.snd.fst ∧ x.snd.snd.snd.snd.fst = x.snd.snd.snd.snd.fst ∧ x.snd.snd.snd.snd.snd.fst = x.snd.snd.snd.snd.snd.fst ∧ x.snd.snd.snd.snd.snd.snd.fst = x.snd.snd.snd.snd.snd.snd.fst ∧ x.snd.snd.snd.snd.snd.snd.snd = x.snd.snd.snd.snd.snd.snd.snd ∧ ns = ns ∧ rs = rs ∧ xs = xs ∧ its = its ∧ ls = ls ∧ p = p ∧ True) ∧ True) ∧ List.length its ≤ lenMax ∧ List.length ls ≤ lenMax ∧ xs = xs ∧ xs = xs ∧ ns = ns ∧ rs = rs ∧ (ns = ns ∧ rs = rs ∧ ∃ (y : Unit), (cc = cc ∧ ct = ct ∧ hs = hs ∧ xs = xs ∧ its = its ∧ ls = ls ∧ p = p ∧ ns = ns ∧ rs = rs ∧ gc = gc ∧ gl = gl ∧ ws = ws ∧ x.fst = x.fst ∧ x.snd.fst = x.snd.fst ∧ x.snd.snd.fst = x.snd.snd.fst ∧ x.snd.snd.snd.fst = x.snd.snd.snd.fst ∧ x.snd.snd.snd.snd.fst = x.snd.snd.snd.snd.fst ∧ x.snd.snd.snd.snd.snd.fst = x.snd.snd.snd.snd.snd.fst ∧ x.snd.snd.snd.snd.snd.snd.fst = x.snd.snd.snd.snd.snd.snd.fst ∧ x.snd.snd.snd.snd.snd.snd.snd = x.snd.snd.snd.snd.snd.snd.snd ∧ ns = ns ∧ rs = rs ∧ xs = xs ∧ its = its ∧ ls = ls ∧ p = p ∧ True) ∧ True) ∧ xs = xs ∧ ∃ (y : Unit), (cc = cc ∧ ct = ct ∧ hs = hs ∧ xs = xs ∧ its = its ∧ ls = ls ∧ p = p ∧ ns = ns ∧ rs = rs ∧ gc = gc ∧ gl = gl ∧ ws = ws ∧ x.fst = x.fst ∧ x.snd.fst = x.snd.fst ∧ x.snd.snd.fst = x.snd.snd.fst ∧ x.snd.snd.snd.fst = x.snd.snd.snd.fst ∧ x.snd.snd.snd.snd.fst = x.snd.snd.snd.snd.fst ∧ x.snd.snd.snd.snd.snd.fst = x.snd.snd.snd.snd.snd.fst ∧ x.snd.snd.snd.snd.snd.snd.fst = x.snd.snd.snd.snd.snd.snd.fst ∧ x.snd.snd.snd.snd.snd.snd.snd = x.snd.snd.snd.snd.snd.snd.snd ∧ ns = ns ∧ rs = rs ∧ xs = xs ∧ its = its ∧ ls = ls ∧ p = p ∧ True) ∧ True) ∧
 ∀ (y : Unit),
 True →
 ∀ (r : Int × TB),
 r = apply26 (ns, rs) (x.fst, x.snd.fst, x.snd.snd.fst, x.snd.snd.snd.fst, x.snd.snd.snd.snd.fst, x.snd.snd.snd.snd.snd.fst, x.snd.snd.snd.snd.snd.snd.fst, x.snd.snd.snd.snd.snd.snd.snd) →
 x.fst = x.fst ∧
 x.snd.fst = x.snd.fst ∧
 x.snd.snd.fst = x.snd.snd.fst ∧
 x.snd.snd.snd.fst = x.snd.snd.snd.fst ∧
 x.snd.snd.snd.snd.fst = x.snd.snd.snd.snd.fst ∧
 x.snd.snd.snd.snd.snd.fst = x.snd.snd.snd.snd.snd.fst ∧
 x.snd.snd.snd.snd.snd.snd.fst = x.snd.snd.snd.snd.snd.snd.fst ∧
 x.snd.snd.snd.snd.snd.snd.snd = x.snd.snd.snd.snd.snd.snd.snd ∧
 x.fst = x.fst ∧
 x.snd.fst = x.snd.fst ∧
 x.snd.snd.fst = x.snd.snd.fst ∧
 x.snd.snd.snd.fst = x.snd.snd.snd.fst ∧
 x.snd.snd.snd.snd.fst = x.snd.snd.snd.snd.fst ∧
 x.snd.snd.snd.snd.snd.fst = x.snd.snd.snd.snd.snd.fst ∧
 x.snd.snd.snd.snd.snd.snd.fst = x.snd.snd.snd.snd.snd.snd.fst ∧
 x.snd.snd.snd.snd.snd.snd.snd = x.snd.snd.snd.snd.snd.snd.snd ∧
 List.length xs ≤ lenMax ∧
 ∀ (r_1 : Int × List Ce),
 r_1 = apply24 xs (x.fst, x.snd.fst, x.snd.snd.fst, x.snd.snd.snd.fst, x.snd.snd.snd.snd.fst, x.snd.snd.snd.snd.snd.fst, x.snd.snd.snd.snd.snd.snd.fst, x.snd.snd.snd.snd.snd.snd.snd) →
 x.fst = x.fst ∧
 x.snd.fst = x.snd.fst ∧
 x.snd.snd.fst = x.snd.snd.fst ∧
 x.snd.snd.snd.fst = x.snd.snd.snd.fst ∧
 x.snd.snd.snd.snd.fst = x.snd.snd.snd.snd.fst ∧
 x.snd.snd.snd.snd.snd.fst = x.snd.snd.snd.snd.snd.fst ∧
 x.snd.snd.snd.snd.snd.snd.fst = x.snd.snd.snd.snd.snd.snd.fst ∧
 x.snd.snd.snd.snd.snd.snd.snd = x.snd.snd.snd.snd.snd.snd.snd ∧
 List.length its ≤ lenMax ∧
 List.length ls ≤ lenMax ∧
 ∀ (r_2 : Int × Q),
 r_2 = applyR (its, ls, p) (x.fst, x.snd.fst, x.snd.snd.fst, x.snd.snd.snd.fst, x.snd.snd.snd.snd.fst, x.snd.snd.snd.snd.snd.fst, x.snd.snd.snd.snd.snd.snd.fst, x.snd.snd.snd.snd.snd.snd.snd) →
 (∃ (y : Nat), ((3 : Int) = (3 : Int) ∧ (0 : Int) = (↑y : Int) ∧ cc = cc ∧ ct = ct ∧ hs = hs ∧ xs = xs ∧ its = its ∧ ls = ls ∧ p = p ∧ ns = ns ∧ rs = rs ∧ gc = gc ∧ gl = gl ∧ ws = ws ∧ x.fst = x.fst ∧ x.snd.fst = x.snd.fst ∧ x.snd.snd.fst = x.snd.snd.fst ∧ x.snd.snd.snd.fst = x.snd.snd.snd.fst ∧ x.snd.snd.snd.snd.fst = x.snd.snd.snd.snd.fst ∧ x.snd.snd.snd.snd.snd.fst = x.snd.snd.snd.snd.snd.fst ∧ x.snd.snd.snd.snd.snd.snd.fst = x.snd.snd.snd.snd.snd.snd.fst ∧ x.snd.snd.snd.snd.snd.snd.snd = x.snd.snd.snd.snd.snd.snd.snd ∧ r.snd.fst = r.snd.fst ∧ r.snd.snd = r.snd.snd ∧ r_1.snd = r_1.snd ∧ r_2.snd.fst = r_2.snd.fst ∧ r_2.snd.snd.fst = r_2.snd.snd.fst ∧ r_2.snd.snd.snd = r_2.snd.snd.snd ∧ [r.fst, r_1.fst, r_2.fst] = [r.fst, r_1.fst, r_2.fst] ∧ True) ∧ y ≤ 3 ∧ ∀ (j : Nat), j < y → List.getD [r.fst, r_1.fst, r_2.fst] j (0 : Ty.D I) = (0 : Ty.D I)) ∧
 ∀ (x_1 : Nat),
 (x_1 ≤ 3 ∧ ∀ (j : Nat), j < x_1 → List.getD [r.fst, r_1.fst, r_2.fst] j (0 : Ty.D I) = (0 : Ty.D I)) →
 (decide ((↑x_1 : Int) < (3 : Int)) = true → ((0 : Int) ≤ (↑x_1 : Int) ∧ (↑x_1 : Int) < (3 : Int)) ∧ x_1 < 3 ∧ ((List.getD [r.fst, r_1.fst, r_2.fst] x_1 (Ty.zero I) != (0 : Int)) = true → K (SV.b ((BV.int IntKind.i64 (List.getD [r.fst, r_1.fst, r_2.fst] x_1 (Ty.zero I))))) [AObj.cells 87 [BV.int IntKind.i64 cc, BV.int IntKind.i64 ct, BV.fsl 29 Change hs, BV.ptr 1 0, BV.ptr 2 0, BV.ptr 3 0, BV.ptr 4 0], AObj.cells 102 [BV.fsl 120 CellT xs], AObj.cells 49 [BV.fsl 52 Item its, BV.fsl 54 Lease ls, BV.int IntKind.i64 p], AObj.cells 108 [BV.arr 8 I ns, BV.arr 8 ReplyT rs], AObj.cells 111 [BV.int IntKind.i64 gc, BV.int IntKind.i64 gl, BV.fsl 142 Win ws]]) ∧ ((List.getD [r.fst, r_1.fst, r_2.fst] x_1 (Ty.zero I) != (0 : Int)) = false → ∃ (y : Nat), ((3 : Int) = (3 : Int) ∧ wr ((↑x_1 : Int) + (1 : Int)) = (↑y : Int) ∧ cc = cc ∧ ct = ct ∧ hs = hs ∧ xs = xs ∧ its = its ∧ ls = ls ∧ p = p ∧ ns = ns ∧ rs = rs ∧ gc = gc ∧ gl = gl ∧ ws = ws ∧ x.fst = x.fst ∧ x.snd.fst = x.snd.fst ∧ x.snd.snd.fst = x.snd.snd.fst ∧ x.snd.snd.snd.fst = x.snd.snd.snd.fst ∧ x.snd.snd.snd.snd.fst = x.snd.snd.snd.snd.fst ∧ x.snd.snd.snd.snd.snd.fst = x.snd.snd.snd.snd.snd.fst ∧ x.snd.snd.snd.snd.snd.snd.fst = x.snd.snd.snd.snd.snd.snd.fst ∧ x.snd.snd.snd.snd.snd.snd.snd = x.snd.snd.snd.snd.snd.snd.snd ∧ r.snd.fst = r.snd.fst ∧ r.snd.snd = r.snd.snd ∧ r_1.snd = r_1.snd ∧ r_2.snd.fst = r_2.snd.fst ∧ r_2.snd.snd.fst = r_2.snd.snd.fst ∧ r_2.snd.snd.snd = r_2.snd.snd.snd ∧ [r.fst, r_1.fst, r_2.fst] = [r.fst, r_1.fst, r_2.fst] ∧ True) ∧ (y ≤ 3 ∧ ∀ (j : Nat), j < y → List.getD [r.fst, r_1.fst, r_2.fst] j (0 : Ty.D I) = (0 : Ty.D I)) ∧ 3 - y < 3 - x_1)) ∧
 (decide ((↑x_1 : Int) < (3 : Int)) = false →
 (x.fst = x.fst ∧
 x.snd.fst = x.snd.fst ∧
 x.snd.snd.fst = x.snd.snd.fst ∧
 x.snd.snd.snd.fst = x.snd.snd.snd.fst ∧
 x.snd.snd.snd.snd.fst = x.snd.snd.snd.snd.fst ∧
 x.snd.snd.snd.snd.snd.fst = x.snd.snd.snd.snd.snd.fst ∧
 x.snd.snd.snd.snd.snd.snd.fst = x.snd.snd.snd.snd.snd.snd.fst ∧
 x.snd.snd.snd.snd.snd.snd.snd = x.snd.snd.snd.snd.snd.snd.snd ∧
 hs = hs ∧
 ((↑(0 + List.length hs) : Int) * (80 : Int) ≤ (140737488355328 : Int) ∧ (↑(0 + List.length hs) : Int) ≤ (140737488355328 : Int) ∧ x.fst = x.fst ∧ x.snd.fst = x.snd.fst ∧ x.snd.snd.fst = x.snd.snd.fst ∧ x.snd.snd.snd.fst = x.snd.snd.snd.fst ∧ x.snd.snd.snd.snd.fst = x.snd.snd.snd.snd.fst ∧ x.snd.snd.snd.snd.snd.fst = x.snd.snd.snd.snd.snd.fst ∧ x.snd.snd.snd.snd.snd.snd.fst = x.snd.snd.snd.snd.snd.snd.fst ∧ x.snd.snd.snd.snd.snd.snd.snd = x.snd.snd.snd.snd.snd.snd.snd ∧ (↑(List.length ([] ++ hs) + List.length [(x.fst, x.snd.fst, x.snd.snd.fst, x.snd.snd.snd.fst, x.snd.snd.snd.snd.fst, x.snd.snd.snd.snd.snd.fst, x.snd.snd.snd.snd.snd.snd.fst, x.snd.snd.snd.snd.snd.snd.snd)]) : Int) * (80 : Int) ≤ (140737488355328 : Int) ∧ (↑(List.length ([] ++ hs) + List.length [(x.fst, x.snd.fst, x.snd.snd.fst, x.snd.snd.snd.fst, x.snd.snd.snd.snd.fst, x.snd.snd.snd.snd.snd.fst, x.snd.snd.snd.snd.snd.snd.fst, x.snd.snd.snd.snd.snd.snd.snd)]) : Int) ≤ (140737488355328 : Int) ∧ K (SV.b ((BV.int IntKind.i64 (0 : Int)))) [AObj.cells 87 [BV.int IntKind.i64 cc, BV.int IntKind.i64 ct, BV.hd 5, BV.ptr 6 0, BV.ptr 7 0, BV.ptr 8 0, BV.ptr 4 0], AObj.cells 102 [BV.fsl 120 CellT xs], AObj.cells 49 [BV.fsl 52 Item its, BV.fsl 54 Lease ls, BV.int IntKind.i64 p], AObj.cells 108 [BV.arr 8 I ns, BV.arr 8 ReplyT rs], AObj.cells 111 [BV.int IntKind.i64 gc, BV.int IntKind.i64 gl, BV.fsl 142 Win ws], AObj.row 29 Change ([] ++ hs ++ [(x.fst, x.snd.fst, x.snd.snd.fst, x.snd.snd.snd.fst, x.snd.snd.snd.snd.fst, x.snd.snd.snd.snd.snd.fst, x.snd.snd.snd.snd.snd.snd.fst, x.snd.snd.snd.snd.snd.snd.snd)]), AObj.cells 102 [BV.fsl 120 CellT r_1.snd], AObj.cells 49 [BV.fsl 52 Item r_2.snd.fst, BV.fsl 54 Lease r_2.snd.snd.fst, BV.int IntKind.i64 r_2.snd.snd.snd], AObj.cells 108 [BV.arr 8 I r.snd.fst, BV.arr 8 ReplyT r.snd.snd]]) ∧
 hs = hs ∧ (↑(0 + List.length hs) : Int) * (80 : Int) ≤ (140737488355328 : Int) ∧ (↑(0 + List.length hs) : Int) ≤ (140737488355328 : Int) ∧ (↑(List.length ([] ++ hs) + List.length [(x.fst, x.snd.fst, x.snd.snd.fst, x.snd.snd.snd.fst, x.snd.snd.snd.snd.fst, x.snd.snd.snd.snd.snd.fst, x.snd.snd.snd.snd.snd.snd.fst, x.snd.snd.snd.snd.snd.snd.snd)]) : Int) * (80 : Int) ≤ (140737488355328 : Int) ∧ (↑(List.length ([] ++ hs) + List.length [(x.fst, x.snd.fst, x.snd.snd.fst, x.snd.snd.snd.fst, x.snd.snd.snd.snd.fst, x.snd.snd.snd.snd.snd.fst, x.snd.snd.snd.snd.snd.snd.fst, x.snd.snd.snd.snd.snd.snd.snd)]) : Int) ≤ (140737488355328 : Int) ∧ K (SV.b ((BV.int IntKind.i64 (0 : Int)))) [AObj.cells 87 [BV.int IntKind.i64 cc, BV.int IntKind.i64 ct, BV.hd 5, BV.ptr 6 0, BV.ptr 7 0, BV.ptr 8 0, BV.ptr 4 0], AObj.cells 102 [BV.fsl 120 CellT xs], AObj.cells 49 [BV.fsl 52 Item its, BV.fsl 54 Lease ls, BV.int IntKind.i64 p], AObj.cells 108 [BV.arr 8 I ns, BV.arr 8 ReplyT rs], AObj.cells 111 [BV.int IntKind.i64 gc, BV.int IntKind.i64 gl, BV.fsl 142 Win ws], AObj.row 29 Change ([] ++ hs ++ [(x.fst, x.snd.fst, x.snd.snd.fst, x.snd.snd.snd.fst, x.snd.snd.snd.snd.fst, x.snd.snd.snd.snd.snd.fst, x.snd.snd.snd.snd.snd.snd.fst, x.snd.snd.snd.snd.snd.snd.snd)]), AObj.cells 102 [BV.fsl 120 CellT r_1.snd], AObj.cells 49 [BV.fsl 52 Item r_2.snd.fst, BV.fsl 54 Lease r_2.snd.snd.fst, BV.int IntKind.i64 r_2.snd.snd.snd], AObj.cells 108 [BV.arr 8 I r.snd.fst, BV.arr 8 ReplyT r.snd.snd]]) ∧
 hs = hs ∧ hs = hs ∧ (↑(0 + List.length hs) : Int) * (80 : Int) ≤ (140737488355328 : Int) ∧ (↑(0 + List.length hs) : Int) ≤ (140737488355328 : Int) ∧ (↑(List.length ([] ++ hs) + List.length [(x.fst, x.snd.fst, x.snd.snd.fst, x.snd.snd.snd.fst, x.snd.snd.snd.snd.fst, x.snd.snd.snd.snd.snd.fst, x.snd.snd.snd.snd.snd.snd.fst, x.snd.snd.snd.snd.snd.snd.snd)]) : Int) * (80 : Int) ≤ (140737488355328 : Int) ∧ (↑(List.length ([] ++ hs) + List.length [(x.fst, x.snd.fst, x.snd.snd.fst, x.snd.snd.snd.fst, x.snd.snd.snd.snd.fst, x.snd.snd.snd.snd.snd.fst, x.snd.snd.snd.snd.snd.snd.fst, x.snd.snd.snd.snd.snd.snd.snd)]) : Int) ≤ (140737488355328 : Int) ∧ K (SV.b ((BV.int IntKind.i64 (0 : Int)))) [AObj.cells 87 [BV.int IntKind.i64 cc, BV.int IntKind.i64 ct, BV.hd 5, BV.ptr 6 0, BV.ptr 7 0, BV.ptr 8 0, BV.ptr 4 0], AObj.cells 102 [BV.fsl 120 CellT xs], AObj.cells 49 [BV.fsl 52 Item its, BV.fsl 54 Lease ls, BV.int IntKind.i64 p], AObj.cells 108 [BV.arr 8 I ns, BV.arr 8 ReplyT rs], AObj.cells 111 [BV.int IntKind.i64 gc, BV.int IntKind.i64 gl, BV.fsl 142 Win ws], AObj.row 29 Change ([] ++ hs ++ [(x.fst, x.snd.fst, x.snd.snd.fst, x.snd.snd.snd.fst, x.snd.snd.snd.snd.fst, x.snd.snd.snd.snd.snd.fst, x.snd.snd.snd.snd.snd.snd.fst, x.snd.snd.snd.snd.snd.snd.snd)]), AObj.cells 102 [BV.fsl 120 CellT r_1.snd], AObj.cells 49 [BV.fsl 52 Item r_2.snd.fst, BV.fsl 54 Lease r_2.snd.snd.fst, BV.int IntKind.i64 r_2.snd.snd.snd], AObj.cells 108 [BV.arr 8 I r.snd.fst, BV.arr 8 ReplyT r.snd.snd]])))))
 = fnVC Try.prog (look LB3) (N_apply28 cc ct hs xs (its, ls, p) (ns, rs) gc gl ws x) Try.f63 [pv 0, cv x] [cpC cc ct hs 1 2 3 4, rsC xs, rC its ls p, rtC ns rs, rgC gc gl ws] K := by kernel_rfl

theorem nfChange (l : List Int) (k : Nat) (e : Int) (cc ct : Int) (hs : List Ch) (xs : List Ce) (its : List Tm) (ls : List Le) (p : Int) (ns : List Int) (rs : List Rp) (gc gl : Int) (ws : List W) (K : SV → List AObj → Prop) :
 ((((-1099511627 : Int) ≤ (1 : Int) ∧ (1 : Int) ≤ (4 : Int) ∧ (4 : Int) ≤ (1099511627 : Int) ∧ List.length l ≤ lenMax ∧ (List.length hs : Int) = (List.length hs : Int) ∧ hs = hs ∧ ((-1099511627 : Int) ≤ (1 : Int) ∧ (1 : Int) ≤ (4 : Int) ∧ (4 : Int) ≤ (1099511627 : Int) ∧ List.length l ≤ lenMax ∧ (List.length hs : Int) = (List.length hs : Int) ∧ hs = hs ∧ e = e ∧ wr ((List.length hs : Int) + (1 : Int)) = wr ((List.length hs : Int) + (1 : Int)) ∧ (1 : Int) + nextV l k (4 : Int) = (1 : Int) + nextV l k (4 : Int) ∧ (1 : Int) + nextV l (nextK l k) (4 : Int) = (1 : Int) + nextV l (nextK l k) (4 : Int) ∧ (0 : Int) = (0 : Int) ∧ (0 : Int) = (0 : Int) ∧ (⟨#[]⟩ : ByteArray) = (⟨#[]⟩ : ByteArray) ∧ (⟨#[]⟩ : ByteArray) = (⟨#[]⟩ : ByteArray) ∧ (List.length hs : Int) = (List.length hs : Int) ∧ hs = hs ∧ ∃ (y : Unit), (l = l ∧ Int.ofNat (nextK l (nextK l k)) = Int.ofNat (nextK l (nextK l k)) ∧ cc = cc ∧ ct = ct ∧ hs = hs ∧ xs = xs ∧ its = its ∧ ls = ls ∧ p = p ∧ ns = ns ∧ rs = rs ∧ gc = gc ∧ gl = gl ∧ ws = ws ∧ (0 : Int) = (0 : Int) ∧ (0 : Int) = (0 : Int) ∧ (0 : Int) = (0 : Int) ∧ (0 : Int) = (0 : Int) ∧ (0 : Int) = (0 : Int) ∧ (0 : Int) = (0 : Int) ∧ (⟨#[]⟩ : ByteArray) = (⟨#[]⟩ : ByteArray) ∧ (⟨#[]⟩ : ByteArray) = (⟨#[]⟩ : ByteArray) ∧ e = e ∧ wr ((List.length hs : Int) + (1 : Int)) = (List.length hs : Int) + (1 : Int) ∧ (1 : Int) + nextV l k (4 : Int) = chg0 l k ∧ (1 : Int) + nextV l (nextK l k) (4 : Int) = chgC l k ∧ (0 : Int) = (0 : Int) ∧ (0 : Int) = (0 : Int) ∧ (⟨#[]⟩ : ByteArray) = (⟨#[]⟩ : ByteArray) ∧ (⟨#[]⟩ : ByteArray) = (⟨#[]⟩ : ByteArray) ∧ True) ∧ True) ∧ (List.length hs : Int) = (List.length hs : Int) ∧ hs = hs ∧ (-1099511627 : Int) ≤ (1 : Int) ∧ (1 : Int) ≤ (4 : Int) ∧ (4 : Int) ≤ (1099511627 : Int) ∧ List.length l ≤ lenMax ∧ (List.length hs : Int) = (List.length hs : Int) ∧ hs = hs ∧ ∃ (y : Unit), (l = l ∧ Int.ofNat (nextK l (nextK l k)) = Int.ofNat (nextK l (nextK l k)) ∧ cc = cc ∧ ct = ct ∧ hs = hs ∧ xs = xs ∧ its = its ∧ ls = ls ∧ p = p ∧ ns = ns ∧ rs = rs ∧ gc = gc ∧ gl = gl ∧ ws = ws ∧ (0 : Int) = (0 : Int) ∧ (0 : Int) = (0 : Int) ∧ (0 : Int) = (0 : Int) ∧ (0 : Int) = (0 : Int) ∧ (0 : Int) = (0 : Int) ∧ (0 : Int) = (0 : Int) ∧ (⟨#[]⟩ : ByteArray) = (⟨#[]⟩ : ByteArray) ∧ (⟨#[]⟩ : ByteArray) = (⟨#[]⟩ : ByteArray) ∧ e = e ∧ wr ((List.length hs : Int) + (1 : Int)) = (List.length hs : Int) + (1 : Int) ∧ (1 : Int) + nextV l k (4 : Int) = chg0 l k ∧ (1 : Int) + nextV l (nextK l k) (4 : Int) = chgC l k ∧ (0 : Int) = (0 : Int) ∧ (0 : Int) = (0 : Int) ∧ (⟨#[]⟩ : ByteArray) = (⟨#[]⟩ : ByteArray) ∧ (⟨#[]⟩ : ByteArray) = (⟨#[]⟩ : ByteArray) ∧ True) ∧ True) ∧ (List.length hs : Int) = (List.length hs : Int) ∧ hs = hs ∧ (-1099511627 : Int) ≤ (1 : Int) ∧ (1 : Int) ≤ (4 : Int) ∧ (4 : Int) ≤ (1099511627 : Int) ∧ List.length l ≤ lenMax ∧ (List.length hs : Int) = (List.length hs : Int) ∧ hs = hs ∧ (-1099511627 : Int) ≤ (1 : Int) ∧ (1 : Int) ≤ (4 : Int) ∧ (4 : Int) ≤ (1099511627 : Int) ∧ List.length l ≤ lenMax ∧ (List.length hs : Int) = (List.length hs : Int) ∧ hs = hs ∧ ∃ (y : Unit), (l = l ∧ Int.ofNat (nextK l (nextK l k)) = Int.ofNat (nextK l (nextK l k)) ∧ cc = cc ∧ ct = ct ∧ hs = hs ∧ xs = xs ∧ its = its ∧ ls = ls ∧ p = p ∧ ns = ns ∧ rs = rs ∧ gc = gc ∧ gl = gl ∧ ws = ws ∧ (0 : Int) = (0 : Int) ∧ (0 : Int) = (0 : Int) ∧ (0 : Int) = (0 : Int) ∧ (0 : Int) = (0 : Int) ∧ (0 : Int) = (0 : Int) ∧ (0 : Int) = (0 : Int) ∧ (⟨#[]⟩ : ByteArray) = (⟨#[]⟩ : ByteArray) ∧ (⟨#[]⟩ : ByteArray) = (⟨#[]⟩ : ByteArray) ∧ e = e ∧ wr ((List.length hs : Int) + (1 : Int)) = (List.length hs : Int) + (1 : Int) ∧ (1 : Int) + nextV l k (4 : Int) = chg0 l k ∧ (1 : Int) + nextV l (nextK l k) (4 : Int) = chgC l k ∧ (0 : Int) = (0 : Int) ∧ (0 : Int) = (0 : Int) ∧ (⟨#[]⟩ : ByteArray) = (⟨#[]⟩ : ByteArray) ∧ (⟨#[]⟩ : ByteArray) = (⟨#[]⟩ : ByteArray) ∧ True) ∧ True) ∧
 ∀ (y : Unit),
 True →
 ((decide (chgC l k < (1 : Int)) || decide (chgC l k > (8 : Int))) = true →
 (((chg0 l k == (4 : Int) && (List.length its : Int) == (0 : Int)) = true → ∃ (y : Unit), (l = l ∧ Int.ofNat (nextK l (nextK l k)) = Int.ofNat (nextK l (nextK l k)) ∧ cc = cc ∧ ct = ct ∧ hs = hs ∧ xs = xs ∧ its = its ∧ ls = ls ∧ p = p ∧ ns = ns ∧ rs = rs ∧ gc = gc ∧ gl = gl ∧ ws = ws ∧ (0 : Int) = (0 : Int) ∧ (0 : Int) = (0 : Int) ∧ (0 : Int) = (0 : Int) ∧ (0 : Int) = (0 : Int) ∧ (0 : Int) = (0 : Int) ∧ (0 : Int) = (0 : Int) ∧ (⟨#[]⟩ : ByteArray) = (⟨#[]⟩ : ByteArray) ∧ (⟨#[]⟩ : ByteArray) = (⟨#[]⟩ : ByteArray) ∧ e = e ∧ (List.length hs : Int) + (1 : Int) = (List.length hs : Int) + (1 : Int) ∧ (3 : Int) = chg1 l k { h := hs, s := xs, q := (its, ls, p), t := (ns, rs) } ∧ chgC l k = chgC l k ∧ (1 : Int) = chgN l k { h := hs, s := xs, q := (its, ls, p), t := (ns, rs) } ∧ (0 : Int) = (0 : Int) ∧ (⟨#[]⟩ : ByteArray) = (⟨#[]⟩ : ByteArray) ∧ (⟨#[]⟩ : ByteArray) = (⟨#[]⟩ : ByteArray) ∧ True) ∧ True) ∧ ((chg0 l k == (4 : Int) && (List.length its : Int) == (0 : Int)) = false → ∃ (y : Unit), (l = l ∧ Int.ofNat (nextK l (nextK l k)) = Int.ofNat (nextK l (nextK l k)) ∧ cc = cc ∧ ct = ct ∧ hs = hs ∧ xs = xs ∧ its = its ∧ ls = ls ∧ p = p ∧ ns = ns ∧ rs = rs ∧ gc = gc ∧ gl = gl ∧ ws = ws ∧ (0 : Int) = (0 : Int) ∧ (0 : Int) = (0 : Int) ∧ (0 : Int) = (0 : Int) ∧ (0 : Int) = (0 : Int) ∧ (0 : Int) = (0 : Int) ∧ (0 : Int) = (0 : Int) ∧ (⟨#[]⟩ : ByteArray) = (⟨#[]⟩ : ByteArray) ∧ (⟨#[]⟩ : ByteArray) = (⟨#[]⟩ : ByteArray) ∧ e = e ∧ (List.length hs : Int) + (1 : Int) = (List.length hs : Int) + (1 : Int) ∧ chg0 l k = chg1 l k { h := hs, s := xs, q := (its, ls, p), t := (ns, rs) } ∧ chgC l k = chgC l k ∧ (1 : Int) = chgN l k { h := hs, s := xs, q := (its, ls, p), t := (ns, rs) } ∧ (0 : Int) = (0 : Int) ∧ (⟨#[]⟩ : ByteArray) = (⟨#[]⟩ : ByteArray) ∧ (⟨#[]⟩ : ByteArray) = (⟨#[]⟩ : ByteArray) ∧ True) ∧ True)) ∧
 ∀ (y : Unit),
 True →
 (((chg1 l k { h := hs, s := xs, q := (its, ls, p), t := (ns, rs) } == (2 : Int) && (List.length xs : Int) == (0 : Int)) = true → ∃ (y : Unit), (l = l ∧ Int.ofNat (nextK l (nextK l k)) = Int.ofNat (nextK l (nextK l k)) ∧ cc = cc ∧ ct = ct ∧ hs = hs ∧ xs = xs ∧ its = its ∧ ls = ls ∧ p = p ∧ ns = ns ∧ rs = rs ∧ gc = gc ∧ gl = gl ∧ ws = ws ∧ (0 : Int) = (0 : Int) ∧ (0 : Int) = (0 : Int) ∧ (0 : Int) = (0 : Int) ∧ (0 : Int) = (0 : Int) ∧ (0 : Int) = (0 : Int) ∧ (0 : Int) = (0 : Int) ∧ (⟨#[]⟩ : ByteArray) = (⟨#[]⟩ : ByteArray) ∧ (⟨#[]⟩ : ByteArray) = (⟨#[]⟩ : ByteArray) ∧ e = e ∧ (List.length hs : Int) + (1 : Int) = (List.length hs : Int) + (1 : Int) ∧ (1 : Int) = chg2 l k { h := hs, s := xs, q := (its, ls, p), t := (ns, rs) } ∧ chgC l k = chgC l k ∧ chgN l k { h := hs, s := xs, q := (its, ls, p), t := (ns, rs) } = chgN l k { h := hs, s := xs, q := (its, ls, p), t := (ns, rs) } ∧ (0 : Int) = (0 : Int) ∧ (⟨#[]⟩ : ByteArray) = (⟨#[]⟩ : ByteArray) ∧ (⟨#[]⟩ : ByteArray) = (⟨#[]⟩ : ByteArray) ∧ True) ∧ True) ∧ ((chg1 l k { h := hs, s := xs, q := (its, ls, p), t := (ns, rs) } == (2 : Int) && (List.length xs : Int) == (0 : Int)) = false → ∃ (y : Unit), (l = l ∧ Int.ofNat (nextK l (nextK l k)) = Int.ofNat (nextK l (nextK l k)) ∧ cc = cc ∧ ct = ct ∧ hs = hs ∧ xs = xs ∧ its = its ∧ ls = ls ∧ p = p ∧ ns = ns ∧ rs = rs ∧ gc = gc ∧ gl = gl ∧ ws = ws ∧ (0 : Int) = (0 : Int) ∧ (0 : Int) = (0 : Int) ∧ (0 : Int) = (0 : Int) ∧ (0 : Int) = (0 : Int) ∧ (0 : Int) = (0 : Int) ∧ (0 : Int) = (0 : Int) ∧ (⟨#[]⟩ : ByteArray) = (⟨#[]⟩ : ByteArray) ∧ (⟨#[]⟩ : ByteArray) = (⟨#[]⟩ : ByteArray) ∧ e = e ∧ (List.length hs : Int) + (1 : Int) = (List.length hs : Int) + (1 : Int) ∧ chg1 l k { h := hs, s := xs, q := (its, ls, p), t := (ns, rs) } = chg2 l k { h := hs, s := xs, q := (its, ls, p), t := (ns, rs) } ∧ chgC l k = chgC l k ∧ chgN l k { h := hs, s := xs, q := (its, ls, p), t := (ns, rs) } = chgN l k { h := hs, s := xs, q := (its, ls, p), t := (ns, rs) } ∧ (0 : Int) = (0 : Int) ∧ (⟨#[]⟩ : ByteArray) = (⟨#[]⟩ : ByteArray) ∧ (⟨#[]⟩ : ByteArray) = (⟨#[]⟩ : ByteArray) ∧ True) ∧ True)) ∧
 ∀ (y : Unit),
 True →
 ((chg2 l k { h := hs, s := xs, q := (its, ls, p), t := (ns, rs) } == (1 : Int)) = true → (0 : Int) ≤ (1 : Int) ∧ (1 : Int) ≤ (16 : Int) ∧ (16 : Int) ≤ (1000 : Int) ∧ List.length l ≤ lenMax ∧ ∀ (r : ByteArray × Nat), r = textV l (nextK l (nextK l k)) (1 : Int) (16 : Int) → (0 : Int) ≤ (0 : Int) ∧ (0 : Int) ≤ (64 : Int) ∧ (64 : Int) ≤ (1000 : Int) ∧ List.length l ≤ lenMax ∧ ∀ (r_1 : ByteArray × Nat), r_1 = textV l r.snd (0 : Int) (64 : Int) → K (SV.t (TV.agg [BV.int IntKind.i64 e, BV.int IntKind.i64 ((List.length hs : Int) + (1 : Int)), BV.int IntKind.i64 (chg2 l k { h := hs, s := xs, q := (its, ls, p), t := (ns, rs) }), BV.int IntKind.i64 (chgC l k), BV.int IntKind.i64 (chgN l k { h := hs, s := xs, q := (its, ls, p), t := (ns, rs) }), BV.int IntKind.i64 (0 : Int), BV.str r.fst, BV.str r_1.fst])) [AObj.cells 91 [BV.fsl 3 I l, BV.int IntKind.i64 (Int.ofNat r_1.snd)], AObj.cells 87 [BV.int IntKind.i64 cc, BV.int IntKind.i64 ct, BV.fsl 29 Change hs, BV.ptr 2 0, BV.ptr 3 0, BV.ptr 4 0, BV.ptr 5 0], AObj.cells 102 [BV.fsl 120 CellT xs], AObj.cells 49 [BV.fsl 52 Item its, BV.fsl 54 Lease ls, BV.int IntKind.i64 p], AObj.cells 108 [BV.arr 8 I ns, BV.arr 8 ReplyT rs], AObj.cells 111 [BV.int IntKind.i64 gc, BV.int IntKind.i64 gl, BV.fsl 142 Win ws]]) ∧
 ((chg2 l k { h := hs, s := xs, q := (its, ls, p), t := (ns, rs) } == (1 : Int)) = false →
 ((chg2 l k { h := hs, s := xs, q := (its, ls, p), t := (ns, rs) } == (2 : Int)) = true → (0 : Int) < (List.length xs : Int) ∧ (List.length xs : Int) ≤ (1099511627776 : Int) ∧ List.length l ≤ lenMax ∧ xs = xs ∧ ((0 : Int) ≤ nextV l (nextK l (nextK l k)) (List.length xs : Int) ∧ nextV l (nextK l (nextK l k)) (List.length xs : Int) < (List.length xs : Int)) ∧ K (SV.t (TV.agg [BV.int IntKind.i64 e, BV.int IntKind.i64 ((List.length hs : Int) + (1 : Int)), BV.int IntKind.i64 (chg2 l k { h := hs, s := xs, q := (its, ls, p), t := (ns, rs) }), BV.int IntKind.i64 (chgC l k), BV.int IntKind.i64 (chgN l k { h := hs, s := xs, q := (its, ls, p), t := (ns, rs) }), BV.int IntKind.i64 (0 : Int), BV.str (List.getD xs (Int.toNat (nextV l (nextK l (nextK l k)) (List.length xs : Int))) (Ty.zero CellT)).fst, BV.str (⟨#[]⟩ : ByteArray)])) [AObj.cells 91 [BV.fsl 3 I l, BV.int IntKind.i64 (Int.ofNat (nextK l (nextK l (nextK l k))))], AObj.cells 87 [BV.int IntKind.i64 cc, BV.int IntKind.i64 ct, BV.fsl 29 Change hs, BV.ptr 2 0, BV.ptr 3 0, BV.ptr 4 0, BV.ptr 5 0], AObj.cells 102 [BV.fsl 120 CellT xs], AObj.cells 49 [BV.fsl 52 Item its, BV.fsl 54 Lease ls, BV.int IntKind.i64 p], AObj.cells 108 [BV.arr 8 I ns, BV.arr 8 ReplyT rs], AObj.cells 111 [BV.int IntKind.i64 gc, BV.int IntKind.i64 gl, BV.fsl 142 Win ws]]) ∧
 ((chg2 l k { h := hs, s := xs, q := (its, ls, p), t := (ns, rs) } == (2 : Int)) = false →
 ((chg2 l k { h := hs, s := xs, q := (its, ls, p), t := (ns, rs) } == (3 : Int)) = true → (0 : Int) ≤ (0 : Int) ∧ (0 : Int) ≤ (64 : Int) ∧ (64 : Int) ≤ (1000 : Int) ∧ List.length l ≤ lenMax ∧ ∀ (r : ByteArray × Nat), r = textV l (nextK l (nextK l k)) (0 : Int) (64 : Int) → K (SV.t (TV.agg [BV.int IntKind.i64 e, BV.int IntKind.i64 ((List.length hs : Int) + (1 : Int)), BV.int IntKind.i64 (chg2 l k { h := hs, s := xs, q := (its, ls, p), t := (ns, rs) }), BV.int IntKind.i64 (chgC l k), BV.int IntKind.i64 (chgN l k { h := hs, s := xs, q := (its, ls, p), t := (ns, rs) }), BV.int IntKind.i64 (0 : Int), BV.str (⟨#[]⟩ : ByteArray), BV.str r.fst])) [AObj.cells 91 [BV.fsl 3 I l, BV.int IntKind.i64 (Int.ofNat r.snd)], AObj.cells 87 [BV.int IntKind.i64 cc, BV.int IntKind.i64 ct, BV.fsl 29 Change hs, BV.ptr 2 0, BV.ptr 3 0, BV.ptr 4 0, BV.ptr 5 0], AObj.cells 102 [BV.fsl 120 CellT xs], AObj.cells 49 [BV.fsl 52 Item its, BV.fsl 54 Lease ls, BV.int IntKind.i64 p], AObj.cells 108 [BV.arr 8 I ns, BV.arr 8 ReplyT rs], AObj.cells 111 [BV.int IntKind.i64 gc, BV.int IntKind.i64 gl, BV.fsl 142 Win ws]]) ∧
 ((chg2 l k { h := hs, s := xs, q := (its, ls, p), t := (ns, rs) } == (3 : Int)) = false → ((chg2 l k { h := hs, s := xs, q := (its, ls, p), t := (ns, rs) } == (4 : Int)) = true → (0 : Int) < (List.length its : Int) ∧ (List.length its : Int) ≤ (1099511627776 : Int) ∧ List.length l ≤ lenMax ∧ its = its ∧ ((0 : Int) ≤ nextV l (nextK l (nextK l k)) (List.length its : Int) ∧ nextV l (nextK l (nextK l k)) (List.length its : Int) < (List.length its : Int)) ∧ K (SV.t (TV.agg [BV.int IntKind.i64 e, BV.int IntKind.i64 ((List.length hs : Int) + (1 : Int)), BV.int IntKind.i64 (chg2 l k { h := hs, s := xs, q := (its, ls, p), t := (ns, rs) }), BV.int IntKind.i64 (chgC l k), BV.int IntKind.i64 (chgN l k { h := hs, s := xs, q := (its, ls, p), t := (ns, rs) }), BV.int IntKind.i64 (List.getD its (Int.toNat (nextV l (nextK l (nextK l k)) (List.length its : Int))) (Ty.zero Item)).fst, BV.str (⟨#[]⟩ : ByteArray), BV.str (⟨#[]⟩ : ByteArray)])) [AObj.cells 91 [BV.fsl 3 I l, BV.int IntKind.i64 (Int.ofNat (nextK l (nextK l (nextK l k))))], AObj.cells 87 [BV.int IntKind.i64 cc, BV.int IntKind.i64 ct, BV.fsl 29 Change hs, BV.ptr 2 0, BV.ptr 3 0, BV.ptr 4 0, BV.ptr 5 0], AObj.cells 102 [BV.fsl 120 CellT xs], AObj.cells 49 [BV.fsl 52 Item its, BV.fsl 54 Lease ls, BV.int IntKind.i64 p], AObj.cells 108 [BV.arr 8 I ns, BV.arr 8 ReplyT rs], AObj.cells 111 [BV.int IntKind.i64 gc, BV.int IntKind.i64 gl, BV.fsl 142 Win ws]]) ∧ ((chg2 l k { h := hs, s := xs, q := (its, ls, p), t := (ns, rs) } == (4 : Int)) = false → K (SV.t (TV.agg [BV.int IntKind.i64 e, BV.int IntKind.i64 ((List.length hs : Int) + (1 : Int)), BV.int IntKind.i64 (chg2 l k { h := hs, s := xs, q := (its, ls, p), t := (ns, rs) }), BV.int IntKind.i64 (chgC l k), BV.int IntKind.i64 (chgN l k { h := hs, s := xs, q := (its, ls, p), t := (ns, rs) }), BV.int IntKind.i64 (0 : Int), BV.str (⟨#[]⟩ : ByteArray), BV.str (⟨#[]⟩ : ByteArray)])) [AObj.cells 91 [BV.fsl 3 I l, BV.int IntKind.i64 (Int.ofNat (nextK l (nextK l k)))], AObj.cells 87 [BV.int IntKind.i64 cc, BV.int IntKind.i64 ct, BV.fsl 29 Change hs, BV.ptr 2 0, BV.ptr 3 0, BV.ptr 4 0, BV.ptr 5 0], AObj.cells 102 [BV.fsl 120 CellT xs], AObj.cells 49 [BV.fsl 52 Item its, BV.fsl 54 Lease ls, BV.int IntKind.i64 p], AObj.cells 108 [BV.arr 8 I ns, BV.arr 8 ReplyT rs], AObj.cells 111 [BV.int IntKind.i64 gc, BV.int IntKind.i64 gl, BV.fsl 142 Win ws]]))))) ∧
 ((decide (chgC l k < (1 : Int)) || decide (chgC l k > (8 : Int))) = false →
 ((0 : Int) ≤ wr (chgC l k - (1 : Int)) ∧ wr (chgC l k - (1 : Int)) < (8 : Int)) ∧
 Int.toNat (wr (chgC l k - (1 : Int))) < 8 ∧
 (((chg0 l k == (4 : Int) && (List.length its : Int) == (0 : Int)) = true → ∃ (y : Unit), (l = l ∧ Int.ofNat (nextK l (nextK l k)) = Int.ofNat (nextK l (nextK l k)) ∧ cc = cc ∧ ct = ct ∧ hs = hs ∧ xs = xs ∧ its = its ∧ ls = ls ∧ p = p ∧ ns = ns ∧ rs = rs ∧ gc = gc ∧ gl = gl ∧ ws = ws ∧ (0 : Int) = (0 : Int) ∧ (0 : Int) = (0 : Int) ∧ (0 : Int) = (0 : Int) ∧ (0 : Int) = (0 : Int) ∧ (0 : Int) = (0 : Int) ∧ (0 : Int) = (0 : Int) ∧ (⟨#[]⟩ : ByteArray) = (⟨#[]⟩ : ByteArray) ∧ (⟨#[]⟩ : ByteArray) = (⟨#[]⟩ : ByteArray) ∧ e = e ∧ (List.length hs : Int) + (1 : Int) = (List.length hs : Int) + (1 : Int) ∧ (3 : Int) = chg1 l k { h := hs, s := xs, q := (its, ls, p), t := (ns, rs) } ∧ chgC l k = chgC l k ∧ wr (List.getD ns (Int.toNat (wr (chgC l k - (1 : Int)))) (Ty.zero I) + (1 : Int)) = chgN l k { h := hs, s := xs, q := (its, ls, p), t := (ns, rs) } ∧ (0 : Int) = (0 : Int) ∧ (⟨#[]⟩ : ByteArray) = (⟨#[]⟩ : ByteArray) ∧ (⟨#[]⟩ : ByteArray) = (⟨#[]⟩ : ByteArray) ∧ True) ∧ True) ∧ ((chg0 l k == (4 : Int) && (List.length its : Int) == (0 : Int)) = false → ∃ (y : Unit), (l = l ∧ Int.ofNat (nextK l (nextK l k)) = Int.ofNat (nextK l (nextK l k)) ∧ cc = cc ∧ ct = ct ∧ hs = hs ∧ xs = xs ∧ its = its ∧ ls = ls ∧ p = p ∧ ns = ns ∧ rs = rs ∧ gc = gc ∧ gl = gl ∧ ws = ws ∧ (0 : Int) = (0 : Int) ∧ (0 : Int) = (0 : Int) ∧ (0 : Int) = (0 : Int) ∧ (0 : Int) = (0 : Int) ∧ (0 : Int) = (0 : Int) ∧ (0 : Int) = (0 : Int) ∧ (⟨#[]⟩ : ByteArray) = (⟨#[]⟩ : ByteArray) ∧ (⟨#[]⟩ : ByteArray) = (⟨#[]⟩ : ByteArray) ∧ e = e ∧ (List.length hs : Int) + (1 : Int) = (List.length hs : Int) + (1 : Int) ∧ chg0 l k = chg1 l k { h := hs, s := xs, q := (its, ls, p), t := (ns, rs) } ∧ chgC l k = chgC l k ∧ wr (List.getD ns (Int.toNat (wr (chgC l k - (1 : Int)))) (Ty.zero I) + (1 : Int)) = chgN l k { h := hs, s := xs, q := (its, ls, p), t := (ns, rs) } ∧ (0 : Int) = (0 : Int) ∧ (⟨#[]⟩ : ByteArray) = (⟨#[]⟩ : ByteArray) ∧ (⟨#[]⟩ : ByteArray) = (⟨#[]⟩ : ByteArray) ∧ True) ∧ True)) ∧
 ∀ (y : Unit),
 True →
 (((chg1 l k { h := hs, s := xs, q := (its, ls, p), t := (ns, rs) } == (2 : Int) && (List.length xs : Int) == (0 : Int)) = true → ∃ (y : Unit), (l = l ∧ Int.ofNat (nextK l (nextK l k)) = Int.ofNat (nextK l (nextK l k)) ∧ cc = cc ∧ ct = ct ∧ hs = hs ∧ xs = xs ∧ its = its ∧ ls = ls ∧ p = p ∧ ns = ns ∧ rs = rs ∧ gc = gc ∧ gl = gl ∧ ws = ws ∧ (0 : Int) = (0 : Int) ∧ (0 : Int) = (0 : Int) ∧ (0 : Int) = (0 : Int) ∧ (0 : Int) = (0 : Int) ∧ (0 : Int) = (0 : Int) ∧ (0 : Int) = (0 : Int) ∧ (⟨#[]⟩ : ByteArray) = (⟨#[]⟩ : ByteArray) ∧ (⟨#[]⟩ : ByteArray) = (⟨#[]⟩ : ByteArray) ∧ e = e ∧ (List.length hs : Int) + (1 : Int) = (List.length hs : Int) + (1 : Int) ∧ (1 : Int) = chg2 l k { h := hs, s := xs, q := (its, ls, p), t := (ns, rs) } ∧ chgC l k = chgC l k ∧ chgN l k { h := hs, s := xs, q := (its, ls, p), t := (ns, rs) } = chgN l k { h := hs, s := xs, q := (its, ls, p), t := (ns, rs) } ∧ (0 : Int) = (0 : Int) ∧ (⟨#[]⟩ : ByteArray) = (⟨#[]⟩ : ByteArray) ∧ (⟨#[]⟩ : ByteArray) = (⟨#[]⟩ : ByteArray) ∧ True) ∧ True) ∧ ((chg1 l k { h := hs, s := xs, q := (its, ls, p), t := (ns, rs) } == (2 : Int) && (List.length xs : Int) == (0 : Int)) = false → ∃ (y : Unit), (l = l ∧ Int.ofNat (nextK l (nextK l k)) = Int.ofNat (nextK l (nextK l k)) ∧ cc = cc ∧ ct = ct ∧ hs = hs ∧ xs = xs ∧ its = its ∧ ls = ls ∧ p = p ∧ ns = ns ∧ rs = rs ∧ gc = gc ∧ gl = gl ∧ ws = ws ∧ (0 : Int) = (0 : Int) ∧ (0 : Int) = (0 : Int) ∧ (0 : Int) = (0 : Int) ∧ (0 : Int) = (0 : Int) ∧ (0 : Int) = (0 : Int) ∧ (0 : Int) = (0 : Int) ∧ (⟨#[]⟩ : ByteArray) = (⟨#[]⟩ : ByteArray) ∧ (⟨#[]⟩ : ByteArray) = (⟨#[]⟩ : ByteArray) ∧ e = e ∧ (List.length hs : Int) + (1 : Int) = (List.length hs : Int) + (1 : Int) ∧ chg1 l k { h := hs, s := xs, q := (its, ls, p), t := (ns, rs) } = chg2 l k { h := hs, s := xs, q := (its, ls, p), t := (ns, rs) } ∧ chgC l k = chgC l k ∧ chgN l k { h := hs, s := xs, q := (its, ls, p), t := (ns, rs) } = chgN l k { h := hs, s := xs, q := (its, ls, p), t := (ns, rs) } ∧ (0 : Int) = (0 : Int) ∧ (⟨#[]⟩ : ByteArray) = (⟨#[]⟩ : ByteArray) ∧ (⟨#[]⟩ : ByteArray) = (⟨#[]⟩ : ByteArray) ∧ True) ∧ True)) ∧
 ∀ (y : Unit),
 True →
 ((chg2 l k { h := hs, s := xs, q := (its, ls, p), t := (ns, rs) } == (1 : Int)) = true → (0 : Int) ≤ (1 : Int) ∧ (1 : Int) ≤ (16 : Int) ∧ (16 : Int) ≤ (1000 : Int) ∧ List.length l ≤ lenMax ∧ ∀ (r : ByteArray × Nat), r = textV l (nextK l (nextK l k)) (1 : Int) (16 : Int) → (0 : Int) ≤ (0 : Int) ∧ (0 : Int) ≤ (64 : Int) ∧ (64 : Int) ≤ (1000 : Int) ∧ List.length l ≤ lenMax ∧ ∀ (r_1 : ByteArray × Nat), r_1 = textV l r.snd (0 : Int) (64 : Int) → K (SV.t (TV.agg [BV.int IntKind.i64 e, BV.int IntKind.i64 ((List.length hs : Int) + (1 : Int)), BV.int IntKind.i64 (chg2 l k { h := hs, s := xs, q := (its, ls, p), t := (ns, rs) }), BV.int IntKind.i64 (chgC l k), BV.int IntKind.i64 (chgN l k { h := hs, s := xs, q := (its, ls, p), t := (ns, rs) }), BV.int IntKind.i64 (0 : Int), BV.str r.fst, BV.str r_1.fst])) [AObj.cells 91 [BV.fsl 3 I l, BV.int IntKind.i64 (Int.ofNat r_1.snd)], AObj.cells 87 [BV.int IntKind.i64 cc, BV.int IntKind.i64 ct, BV.fsl 29 Change hs, BV.ptr 2 0, BV.ptr 3 0, BV.ptr 4 0, BV.ptr 5 0], AObj.cells 102 [BV.fsl 120 CellT xs], AObj.cells 49 [BV.fsl 52 Item its, BV.fsl 54 Lease ls, BV.int IntKind.i64 p], AObj.cells 108 [BV.arr 8 I ns, BV.arr 8 ReplyT rs], AObj.cells 111 [BV.int IntKind.i64 gc, BV.int IntKind.i64 gl, BV.fsl 142 Win ws]]) ∧
 ((chg2 l k { h := hs, s := xs, q := (its, ls, p), t := (ns, rs) } == (1 : Int)) = false →
 ((chg2 l k { h := hs, s := xs, q := (its, ls, p), t := (ns, rs) } == (2 : Int)) = true → (0 : Int) < (List.length xs : Int) ∧ (List.length xs : Int) ≤ (1099511627776 : Int) ∧ List.length l ≤ lenMax ∧ xs = xs ∧ ((0 : Int) ≤ nextV l (nextK l (nextK l k)) (List.length xs : Int) ∧ nextV l (nextK l (nextK l k)) (List.length xs : Int) < (List.length xs : Int)) ∧ K (SV.t (TV.agg [BV.int IntKind.i64 e, BV.int IntKind.i64 ((List.length hs : Int) + (1 : Int)), BV.int IntKind.i64 (chg2 l k { h := hs, s := xs, q := (its, ls, p), t := (ns, rs) }), BV.int IntKind.i64 (chgC l k), BV.int IntKind.i64 (chgN l k { h := hs, s := xs, q := (its, ls, p), t := (ns, rs) }), BV.int IntKind.i64 (0 : Int), BV.str (List.getD xs (Int.toNat (nextV l (nextK l (nextK l k)) (List.length xs : Int))) (Ty.zero CellT)).fst, BV.str (⟨#[]⟩ : ByteArray)])) [AObj.cells 91 [BV.fsl 3 I l, BV.int IntKind.i64 (Int.ofNat (nextK l (nextK l (nextK l k))))], AObj.cells 87 [BV.int IntKind.i64 cc, BV.int IntKind.i64 ct, BV.fsl 29 Change hs, BV.ptr 2 0, BV.ptr 3 0, BV.ptr 4 0, BV.ptr 5 0], AObj.cells 102 [BV.fsl 120 CellT xs], AObj.cells 49 [BV.fsl 52 Item its, BV.fsl 54 Lease ls, BV.int IntKind.i64 p], AObj.cells 108 [BV.arr 8 I ns, BV.arr 8 ReplyT rs], AObj.cells 111 [BV.int IntKind.i64 gc, BV.int IntKind.i64 gl, BV.fsl 142 Win ws]]) ∧
 ((chg2 l k { h := hs, s := xs, q := (its, ls, p), t := (ns, rs) } == (2 : Int)) = false →
 ((chg2 l k { h := hs, s := xs, q := (its, ls, p), t := (ns, rs) } == (3 : Int)) = true → (0 : Int) ≤ (0 : Int) ∧ (0 : Int) ≤ (64 : Int) ∧ (64 : Int) ≤ (1000 : Int) ∧ List.length l ≤ lenMax ∧ ∀ (r : ByteArray × Nat), r = textV l (nextK l (nextK l k)) (0 : Int) (64 : Int) → K (SV.t (TV.agg [BV.int IntKind.i64 e, BV.int IntKind.i64 ((List.length hs : Int) + (1 : Int)), BV.int IntKind.i64 (chg2 l k { h := hs, s := xs, q := (its, ls, p), t := (ns, rs) }), BV.int IntKind.i64 (chgC l k), BV.int IntKind.i64 (chgN l k { h := hs, s := xs, q := (its, ls, p), t := (ns, rs) }), BV.int IntKind.i64 (0 : Int), BV.str (⟨#[]⟩ : ByteArray), BV.str r.fst])) [AObj.cells 91 [BV.fsl 3 I l, BV.int IntKind.i64 (Int.ofNat r.snd)], AObj.cells 87 [BV.int IntKind.i64 cc, BV.int IntKind.i64 ct, BV.fsl 29 Change hs, BV.ptr 2 0, BV.ptr 3 0, BV.ptr 4 0, BV.ptr 5 0], AObj.cells 102 [BV.fsl 120 CellT xs], AObj.cells 49 [BV.fsl 52 Item its, BV.fsl 54 Lease ls, BV.int IntKind.i64 p], AObj.cells 108 [BV.arr 8 I ns, BV.arr 8 ReplyT rs], AObj.cells 111 [BV.int IntKind.i64 gc, BV.int IntKind.i64 gl, BV.fsl 142 Win ws]]) ∧
 ((chg2 l k { h := hs, s := xs, q := (its, ls, p), t := (ns, rs) } == (3 : Int)) = false → ((chg2 l k { h := hs, s := xs, q := (its, ls, p), t := (ns, rs) } == (4 : Int)) = true → (0 : Int) < (List.length its : Int) ∧ (List.length its : Int) ≤ (1099511627776 : Int) ∧ List.length l ≤ lenMax ∧ its = its ∧ ((0 : Int) ≤ nextV l (nextK l (nextK l k)) (List.length its : Int) ∧ nextV l (nextK l (nextK l k)) (List.length its : Int) < (List.length its : Int)) ∧ K (SV.t (TV.agg [BV.int IntKind.i64 e, BV.int IntKind.i64 ((List.length hs : Int) + (1 : Int)), BV.int IntKind.i64 (chg2 l k { h := hs, s := xs, q := (its, ls, p), t := (ns, rs) }), BV.int IntKind.i64 (chgC l k), BV.int IntKind.i64 (chgN l k { h := hs, s := xs, q := (its, ls, p), t := (ns, rs) }), BV.int IntKind.i64 (List.getD its (Int.toNat (nextV l (nextK l (nextK l k)) (List.length its : Int))) (Ty.zero Item)).fst, BV.str (⟨#[]⟩ : ByteArray), BV.str (⟨#[]⟩ : ByteArray)])) [AObj.cells 91 [BV.fsl 3 I l, BV.int IntKind.i64 (Int.ofNat (nextK l (nextK l (nextK l k))))], AObj.cells 87 [BV.int IntKind.i64 cc, BV.int IntKind.i64 ct, BV.fsl 29 Change hs, BV.ptr 2 0, BV.ptr 3 0, BV.ptr 4 0, BV.ptr 5 0], AObj.cells 102 [BV.fsl 120 CellT xs], AObj.cells 49 [BV.fsl 52 Item its, BV.fsl 54 Lease ls, BV.int IntKind.i64 p], AObj.cells 108 [BV.arr 8 I ns, BV.arr 8 ReplyT rs], AObj.cells 111 [BV.int IntKind.i64 gc, BV.int IntKind.i64 gl, BV.fsl 142 Win ws]]) ∧ ((chg2 l k { h := hs, s := xs, q := (its, ls, p), t := (ns, rs) } == (4 : Int)) = false → K (SV.t (TV.agg [BV.int IntKind.i64 e, BV.int IntKind.i64 ((List.length hs : Int) + (1 : Int)), BV.int IntKind.i64 (chg2 l k { h := hs, s := xs, q := (its, ls, p), t := (ns, rs) }), BV.int IntKind.i64 (chgC l k), BV.int IntKind.i64 (chgN l k { h := hs, s := xs, q := (its, ls, p), t := (ns, rs) }), BV.int IntKind.i64 (0 : Int), BV.str (⟨#[]⟩ : ByteArray), BV.str (⟨#[]⟩ : ByteArray)])) [AObj.cells 91 [BV.fsl 3 I l, BV.int IntKind.i64 (Int.ofNat (nextK l (nextK l k)))], AObj.cells 87 [BV.int IntKind.i64 cc, BV.int IntKind.i64 ct, BV.fsl 29 Change hs, BV.ptr 2 0, BV.ptr 3 0, BV.ptr 4 0, BV.ptr 5 0], AObj.cells 102 [BV.fsl 120 CellT xs], AObj.cells 49 [BV.fsl 52 Item its, BV.fsl 54 Lease ls, BV.int IntKind.i64 p], AObj.cells 108 [BV.arr 8 I ns, BV.arr 8 ReplyT rs], AObj.cells 111 [BV.int IntKind.i64 gc, BV.int IntKind.i64 gl, BV.fsl 142 Win ws]]))))))
 = fnVC Try.prog (look LB3) (N_Change l k e cc ct ⟨hs, xs, (its, ls, p), (ns, rs)⟩ gc gl ws) Try.f64 [pv 0, pv 1, iv e] [tC l (.ofNat k), cpC cc ct hs 2 3 4 5, rsC xs, rC its ls p, rtC ns rs, rgC gc gl ws] K := by kernel_rfl

end Go.Proofs.Ythjogeodclpafaa.AM
end

section
set_option linter.unusedVariables false
namespace Go.Proofs.Ythjogeodclpafaa.AM
open Go Go.Proofs.Ythjogeodclpafaa

theorem nfGrow (l : List Int) (k : Nat) (e m : Int) (cc ct : Int) (hs : List Ch) (xs : List Ce) (its : List Tm) (ls : List Le) (p : Int) (ns : List Int) (rs : List Rp) (gc gl : Int) (ws : List W) (K : SV → List AObj → Prop) :
 ((∃ (y : Nat), (e = (growN l y { k := k, e := e, c := { h := hs, s := xs, q := (its, ls, p), t := (ns, rs) } }).e ∧ m = m ∧ (0 : Int) = (↑y : Int) ∧ l = l ∧ Int.ofNat k = Int.ofNat (growN l y { k := k, e := e, c := { h := hs, s := xs, q := (its, ls, p), t := (ns, rs) } }).k ∧ cc = cc ∧ ct = ct ∧ hs = (growN l y { k := k, e := e, c := { h := hs, s := xs, q := (its, ls, p), t := (ns, rs) } }).c.h ∧ gc = gc ∧ gl = gl ∧ ws = ws ∧ xs = (growN l y { k := k, e := e, c := { h := hs, s := xs, q := (its, ls, p), t := (ns, rs) } }).c.s ∧ its = (growN l y { k := k, e := e, c := { h := hs, s := xs, q := (its, ls, p), t := (ns, rs) } }).c.q.fst ∧ ls = (growN l y { k := k, e := e, c := { h := hs, s := xs, q := (its, ls, p), t := (ns, rs) } }).c.q.snd.fst ∧ p = (growN l y { k := k, e := e, c := { h := hs, s := xs, q := (its, ls, p), t := (ns, rs) } }).c.q.snd.snd ∧ ns = (growN l y { k := k, e := e, c := { h := hs, s := xs, q := (its, ls, p), t := (ns, rs) } }).c.t.fst ∧ rs = (growN l y { k := k, e := e, c := { h := hs, s := xs, q := (its, ls, p), t := (ns, rs) } }).c.t.snd ∧ True) ∧ y ≤ Int.toNat m) ∧
 ∀ (x : Nat),
 x ≤ Int.toNat m →
 (decide ((↑x : Int) < m) = true →
 (decide (Int.ofNat (growN l x { k := k, e := e, c := { h := hs, s := xs, q := (its, ls, p), t := (ns, rs) } }).k < (List.length l : Int)) = true →
 (0 : Int) < (7 : Int) ∧
 (7 : Int) ≤ (1099511627776 : Int) ∧
 List.length l ≤ lenMax ∧
 ((nextV l (growN l x { k := k, e := e, c := { h := hs, s := xs, q := (its, ls, p), t := (ns, rs) } }).k (7 : Int) == (6 : Int)) = true →
 List.length l ≤ lenMax ∧
 List.length (growN l x { k := k, e := e, c := { h := hs, s := xs, q := (its, ls, p), t := (ns, rs) } }).c.h ≤ lenMax ∧
 List.length (growN l x { k := k, e := e, c := { h := hs, s := xs, q := (its, ls, p), t := (ns, rs) } }).c.s ≤ lenMax ∧
 List.length (growN l x { k := k, e := e, c := { h := hs, s := xs, q := (its, ls, p), t := (ns, rs) } }).c.q.fst ≤ lenMax ∧
 ∀ (r : Ch × Nat), r = changeV l (nextK l (growN l x { k := k, e := e, c := { h := hs, s := xs, q := (its, ls, p), t := (ns, rs) } }).k) { h := (growN l x { k := k, e := e, c := { h := hs, s := xs, q := (its, ls, p), t := (ns, rs) } }).c.h, s := (growN l x { k := k, e := e, c := { h := hs, s := xs, q := (its, ls, p), t := (ns, rs) } }).c.s, q := ((growN l x { k := k, e := e, c := { h := hs, s := xs, q := (its, ls, p), t := (ns, rs) } }).c.q.fst, (growN l x { k := k, e := e, c := { h := hs, s := xs, q := (its, ls, p), t := (ns, rs) } }).c.q.snd.fst, (growN l x { k := k, e := e, c := { h := hs, s := xs, q := (its, ls, p), t := (ns, rs) } }).c.q.snd.snd), t := ((growN l x { k := k, e := e, c := { h := hs, s := xs, q := (its, ls, p), t := (ns, rs) } }).c.t.fst, (growN l x { k := k, e := e, c := { h := hs, s := xs, q := (its, ls, p), t := (ns, rs) } }).c.t.snd) } (wr ((growN l x { k := k, e := e, c := { h := hs, s := xs, q := (its, ls, p), t := (ns, rs) } }).e + (1 : Int))) → List.length (growN l x { k := k, e := e, c := { h := hs, s := xs, q := (its, ls, p), t := (ns, rs) } }).c.h ≤ lenMax ∧ List.length (growN l x { k := k, e := e, c := { h := hs, s := xs, q := (its, ls, p), t := (ns, rs) } }).c.s ≤ lenMax ∧ List.length (growN l x { k := k, e := e, c := { h := hs, s := xs, q := (its, ls, p), t := (ns, rs) } }).c.q.fst ≤ lenMax ∧ List.length (growN l x { k := k, e := e, c := { h := hs, s := xs, q := (its, ls, p), t := (ns, rs) } }).c.q.snd.fst ≤ lenMax ∧ ∀ (r_1 : Int × CP), r_1 = apply28 { h := (growN l x { k := k, e := e, c := { h := hs, s := xs, q := (its, ls, p), t := (ns, rs) } }).c.h, s := (growN l x { k := k, e := e, c := { h := hs, s := xs, q := (its, ls, p), t := (ns, rs) } }).c.s, q := ((growN l x { k := k, e := e, c := { h := hs, s := xs, q := (its, ls, p), t := (ns, rs) } }).c.q.fst, (growN l x { k := k, e := e, c := { h := hs, s := xs, q := (its, ls, p), t := (ns, rs) } }).c.q.snd.fst, (growN l x { k := k, e := e, c := { h := hs, s := xs, q := (its, ls, p), t := (ns, rs) } }).c.q.snd.snd), t := ((growN l x { k := k, e := e, c := { h := hs, s := xs, q := (its, ls, p), t := (ns, rs) } }).c.t.fst, (growN l x { k := k, e := e, c := { h := hs, s := xs, q := (its, ls, p), t := (ns, rs) } }).c.t.snd) } (r.fst.fst, r.fst.snd.fst, r.fst.snd.snd.fst, r.fst.snd.snd.snd.fst, r.fst.snd.snd.snd.snd.fst, r.fst.snd.snd.snd.snd.snd.fst, r.fst.snd.snd.snd.snd.snd.snd.fst, r.fst.snd.snd.snd.snd.snd.snd.snd) → ∃ (y : Nat), (wr ((growN l x { k := k, e := e, c := { h := hs, s := xs, q := (its, ls, p), t := (ns, rs) } }).e + (1 : Int)) = (growN l y { k := k, e := e, c := { h := hs, s := xs, q := (its, ls, p), t := (ns, rs) } }).e ∧ m = m ∧ wr ((↑x : Int) + (1 : Int)) = (↑y : Int) ∧ l = l ∧ Int.ofNat r.snd = Int.ofNat (growN l y { k := k, e := e, c := { h := hs, s := xs, q := (its, ls, p), t := (ns, rs) } }).k ∧ cc = cc ∧ ct = ct ∧ r_1.snd.h = (growN l y { k := k, e := e, c := { h := hs, s := xs, q := (its, ls, p), t := (ns, rs) } }).c.h ∧ gc = gc ∧ gl = gl ∧ ws = ws ∧ r_1.snd.s = (growN l y { k := k, e := e, c := { h := hs, s := xs, q := (its, ls, p), t := (ns, rs) } }).c.s ∧ r_1.snd.q.fst = (growN l y { k := k, e := e, c := { h := hs, s := xs, q := (its, ls, p), t := (ns, rs) } }).c.q.fst ∧ r_1.snd.q.snd.fst = (growN l y { k := k, e := e, c := { h := hs, s := xs, q := (its, ls, p), t := (ns, rs) } }).c.q.snd.fst ∧ r_1.snd.q.snd.snd = (growN l y { k := k, e := e, c := { h := hs, s := xs, q := (its, ls, p), t := (ns, rs) } }).c.q.snd.snd ∧ r_1.snd.t.fst = (growN l y { k := k, e := e, c := { h := hs, s := xs, q := (its, ls, p), t := (ns, rs) } }).c.t.fst ∧ r_1.snd.t.snd = (growN l y { k := k, e := e, c := { h := hs, s := xs, q := (its, ls, p), t := (ns, rs) } }).c.t.snd ∧ True) ∧ y ≤ Int.toNat m ∧ 4096 - y < 4096 - x) ∧
 ((nextV l (growN l x { k := k, e := e, c := { h := hs, s := xs, q := (its, ls, p), t := (ns, rs) } }).k (7 : Int) == (6 : Int)) = false →
 List.length l ≤ lenMax ∧
 List.length (growN l x { k := k, e := e, c := { h := hs, s := xs, q := (its, ls, p), t := (ns, rs) } }).c.h ≤ lenMax ∧
 List.length (growN l x { k := k, e := e, c := { h := hs, s := xs, q := (its, ls, p), t := (ns, rs) } }).c.s ≤ lenMax ∧
 List.length (growN l x { k := k, e := e, c := { h := hs, s := xs, q := (its, ls, p), t := (ns, rs) } }).c.q.fst ≤ lenMax ∧ ∀ (r : Ch × Nat), r = changeV l (nextK l (growN l x { k := k, e := e, c := { h := hs, s := xs, q := (its, ls, p), t := (ns, rs) } }).k) { h := (growN l x { k := k, e := e, c := { h := hs, s := xs, q := (its, ls, p), t := (ns, rs) } }).c.h, s := (growN l x { k := k, e := e, c := { h := hs, s := xs, q := (its, ls, p), t := (ns, rs) } }).c.s, q := ((growN l x { k := k, e := e, c := { h := hs, s := xs, q := (its, ls, p), t := (ns, rs) } }).c.q.fst, (growN l x { k := k, e := e, c := { h := hs, s := xs, q := (its, ls, p), t := (ns, rs) } }).c.q.snd.fst, (growN l x { k := k, e := e, c := { h := hs, s := xs, q := (its, ls, p), t := (ns, rs) } }).c.q.snd.snd), t := ((growN l x { k := k, e := e, c := { h := hs, s := xs, q := (its, ls, p), t := (ns, rs) } }).c.t.fst, (growN l x { k := k, e := e, c := { h := hs, s := xs, q := (its, ls, p), t := (ns, rs) } }).c.t.snd) } (growN l x { k := k, e := e, c := { h := hs, s := xs, q := (its, ls, p), t := (ns, rs) } }).e → List.length (growN l x { k := k, e := e, c := { h := hs, s := xs, q := (its, ls, p), t := (ns, rs) } }).c.h ≤ lenMax ∧ List.length (growN l x { k := k, e := e, c := { h := hs, s := xs, q := (its, ls, p), t := (ns, rs) } }).c.s ≤ lenMax ∧ List.length (growN l x { k := k, e := e, c := { h := hs, s := xs, q := (its, ls, p), t := (ns, rs) } }).c.q.fst ≤ lenMax ∧ List.length (growN l x { k := k, e := e, c := { h := hs, s := xs, q := (its, ls, p), t := (ns, rs) } }).c.q.snd.fst ≤ lenMax ∧ ∀ (r_1 : Int × CP), r_1 = apply28 { h := (growN l x { k := k, e := e, c := { h := hs, s := xs, q := (its, ls, p), t := (ns, rs) } }).c.h, s := (growN l x { k := k, e := e, c := { h := hs, s := xs, q := (its, ls, p), t := (ns, rs) } }).c.s, q := ((growN l x { k := k, e := e, c := { h := hs, s := xs, q := (its, ls, p), t := (ns, rs) } }).c.q.fst, (growN l x { k := k, e := e, c := { h := hs, s := xs, q := (its, ls, p), t := (ns, rs) } }).c.q.snd.fst, (growN l x { k := k, e := e, c := { h := hs, s := xs, q := (its, ls, p), t := (ns, rs) } }).c.q.snd.snd), t := ((growN l x { k := k, e := e, c := { h := hs, s := xs, q := (its, ls, p), t := (ns, rs) } }).c.t.fst, (growN l x { k := k, e := e, c := { h := hs, s := xs, q := (its, ls, p), t := (ns, rs) } }).c.t.snd) } (r.fst.fst, r.fst.snd.fst, r.fst.snd.snd.fst, r.fst.snd.snd.snd.fst, r.fst.snd.snd.snd.snd.fst, r.fst.snd.snd.snd.snd.snd.fst, r.fst.snd.snd.snd.snd.snd.snd.fst, r.fst.snd.snd.snd.snd.snd.snd.snd) → ∃ (y : Nat), ((growN l x { k := k, e := e, c := { h := hs, s := xs, q := (its, ls, p), t := (ns, rs) } }).e = (growN l y { k := k, e := e, c := { h := hs, s := xs, q := (its, ls, p), t := (ns, rs) } }).e ∧ m = m ∧ wr ((↑x : Int) + (1 : Int)) = (↑y : Int) ∧ l = l ∧ Int.ofNat r.snd = Int.ofNat (growN l y { k := k, e := e, c := { h := hs, s := xs, q := (its, ls, p), t := (ns, rs) } }).k ∧ cc = cc ∧ ct = ct ∧ r_1.snd.h = (growN l y { k := k, e := e, c := { h := hs, s := xs, q := (its, ls, p), t := (ns, rs) } }).c.h ∧ gc = gc ∧ gl = gl ∧ ws = ws ∧ r_1.snd.s = (growN l y { k := k, e := e, c := { h := hs, s := xs, q := (its, ls, p), t := (ns, rs) } }).c.s ∧ r_1.snd.q.fst = (growN l y { k := k, e := e, c := { h := hs, s := xs, q := (its, ls, p), t := (ns, rs) } }).c.q.fst ∧ r_1.snd.q.snd.fst = (growN l y { k := k, e := e, c := { h := hs, s := xs, q := (its, ls, p), t := (ns, rs) } }).c.q.snd.fst ∧ r_1.snd.q.snd.snd = (growN l y { k := k, e := e, c := { h := hs, s := xs, q := (its, ls, p), t := (ns, rs) } }).c.q.snd.snd ∧ r_1.snd.t.fst = (growN l y { k := k, e := e, c := { h := hs, s := xs, q := (its, ls, p), t := (ns, rs) } }).c.t.fst ∧ r_1.snd.t.snd = (growN l y { k := k, e := e, c := { h := hs, s := xs, q := (its, ls, p), t := (ns, rs) } }).c.t.snd ∧ True) ∧ y ≤ Int.toNat m ∧ 4096 - y < 4096 - x)) ∧
 (decide (Int.ofNat (growN l x { k := k, e := e, c := { h := hs, s := xs, q := (its, ls, p), t := (ns, rs) } }).k < (List.length l : Int)) = false → K (SV.tup []) [AObj.cells 91 [BV.fsl 3 I l, BV.int IntKind.i64 (Int.ofNat (growN l x { k := k, e := e, c := { h := hs, s := xs, q := (its, ls, p), t := (ns, rs) } }).k)], AObj.cells 87 [BV.int IntKind.i64 cc, BV.int IntKind.i64 ct, BV.fsl 29 Change (growN l x { k := k, e := e, c := { h := hs, s := xs, q := (its, ls, p), t := (ns, rs) } }).c.h, BV.ptr 6 0, BV.ptr 7 0, BV.ptr 8 0, BV.ptr 5 0], AObj.dead, AObj.dead, AObj.dead, AObj.cells 111 [BV.int IntKind.i64 gc, BV.int IntKind.i64 gl, BV.fsl 142 Win ws], AObj.cells 102 [BV.fsl 120 CellT (growN l x { k := k, e := e, c := { h := hs, s := xs, q := (its, ls, p), t := (ns, rs) } }).c.s], AObj.cells 49 [BV.fsl 52 Item (growN l x { k := k, e := e, c := { h := hs, s := xs, q := (its, ls, p), t := (ns, rs) } }).c.q.fst, BV.fsl 54 Lease (growN l x { k := k, e := e, c := { h := hs, s := xs, q := (its, ls, p), t := (ns, rs) } }).c.q.snd.fst, BV.int IntKind.i64 (growN l x { k := k, e := e, c := { h := hs, s := xs, q := (its, ls, p), t := (ns, rs) } }).c.q.snd.snd], AObj.cells 108 [BV.arr 8 I (growN l x { k := k, e := e, c := { h := hs, s := xs, q := (its, ls, p), t := (ns, rs) } }).c.t.fst, BV.arr 8 ReplyT (growN l x { k := k, e := e, c := { h := hs, s := xs, q := (its, ls, p), t := (ns, rs) } }).c.t.snd]])) ∧
 (decide ((↑x : Int) < m) = false → K (SV.tup []) [AObj.cells 91 [BV.fsl 3 I l, BV.int IntKind.i64 (Int.ofNat (growN l x { k := k, e := e, c := { h := hs, s := xs, q := (its, ls, p), t := (ns, rs) } }).k)], AObj.cells 87 [BV.int IntKind.i64 cc, BV.int IntKind.i64 ct, BV.fsl 29 Change (growN l x { k := k, e := e, c := { h := hs, s := xs, q := (its, ls, p), t := (ns, rs) } }).c.h, BV.ptr 6 0, BV.ptr 7 0, BV.ptr 8 0, BV.ptr 5 0], AObj.dead, AObj.dead, AObj.dead, AObj.cells 111 [BV.int IntKind.i64 gc, BV.int IntKind.i64 gl, BV.fsl 142 Win ws], AObj.cells 102 [BV.fsl 120 CellT (growN l x { k := k, e := e, c := { h := hs, s := xs, q := (its, ls, p), t := (ns, rs) } }).c.s], AObj.cells 49 [BV.fsl 52 Item (growN l x { k := k, e := e, c := { h := hs, s := xs, q := (its, ls, p), t := (ns, rs) } }).c.q.fst, BV.fsl 54 Lease (growN l x { k := k, e := e, c := { h := hs, s := xs, q := (its, ls, p), t := (ns, rs) } }).c.q.snd.fst, BV.int IntKind.i64 (growN l x { k := k, e := e, c := { h := hs, s := xs, q := (its, ls, p), t := (ns, rs) } }).c.q.snd.snd], AObj.cells 108 [BV.arr 8 I (growN l x { k := k, e := e, c := { h := hs, s := xs, q := (its, ls, p), t := (ns, rs) } }).c.t.fst, BV.arr 8 ReplyT (growN l x { k := k, e := e, c := { h := hs, s := xs, q := (its, ls, p), t := (ns, rs) } }).c.t.snd]]))
 = fnVC Try.prog (look LB4) (N_Grow l ⟨k, e, ⟨hs, xs, (its, ls, p), (ns, rs)⟩⟩ cc ct gc gl ws) Try.f49 [pv 0, pv 1, iv e, iv m] [tC l (.ofNat k), cpC cc ct hs 2 3 4 5, rsC xs, rC its ls p, rtC ns rs, rgC gc gl ws] K := by kernel_rfl

theorem nfHistory (l : List Int) (K : SV → List AObj → Prop) :
 (List.length l ≤ lenMax ∧ 0 ≤ 10000 ∧ 0 ≤ 10000 ∧ 0 ≤ 10000 ∧ 0 ≤ 10000 ∧ (0 : Int) ≤ (1 : Int) ∧ (1 : Int) ≤ (1099511627776 : Int) ∧ (0 : Int) ≤ (60 : Int) ∧ (60 : Int) ≤ (100 : Int) ∧ ∀ (r : GS), r = growN l 60 { k := 0, e := (1 : Int), c := { h := [], s := [], q := ([], [], (0 : Int)), t := (ns0, rs0) } } → K (SV.b ((BV.fsl 29 Change r.c.h))) [])
 = fnVC Try.prog (look LB5) {} Try.f19 [fi l] [] K := by kernel_rfl

end Go.Proofs.Ythjogeodclpafaa.AM
end

section
set_option linter.unusedVariables false
set_option linter.unusedSimpArgs false
set_option maxRecDepth 100000
namespace Go.Proofs.Ythjogeodclpafaa.AM
open Go Go.Proofs.Ythjogeodclpafaa

theorem sat_Mod : ∀ vs H K, S_Mod.cps vs H K → Sat Try.prog 11 vs H K := by
  intro vs H K h
  unfold S_Mod at h
  dsimp only at h
  split at h
  · rename_i a b
    obtain ⟨h1, h2, hK⟩ := h
    refine fn_sat (N := {}) hm (look_nil _) Try.func11 ?_
    rw [← nfMod]
    have e1 := Int.tmod_add_mul_tdiv a b
    have hb : b ≠ 0 := by omega
    have key : a % b = if a.tmod b < 0 then a.tmod b + b else a.tmod b := by
      rw [Int.tmod_eq_emod]
      have h3 := Int.emod_nonneg a hb
      have h4 := Int.emod_lt_of_pos a h1
      split <;> split <;> omega
    refine ⟨hb, fun h3 => ?_, fun h3 => ?_⟩
    · simp only [decide_eq_true_eq] at h3
      rw [if_pos h3] at key
      have h4 := Int.emod_nonneg a hb
      have h5 := Int.emod_lt_of_pos a h1
      rw [show wr (Int.tmod a b + b) = a % b by rw [← key]; exact wr_eq (by omega) (by omega)]
      exact hK
    · simp only [decide_eq_false_iff_not] at h3
      rw [if_neg h3] at key
      rw [← key]; exact hK
  · exact h.elim

theorem tabB0 : TabOK Try.prog (look LB0) := by
  unfold LB0
  exact look_cons (look_cons (look_cons (look_cons (look_cons (look_cons (look_cons (look_cons (look_nil _) (inl_sat (look_nil _) Try.func74)) (inl_sat (look_nil _) Try.func68)) (inl_sat (look_nil _) Try.func39)) (inl_sat (look_nil _) Try.func18)) (inl_sat (look_nil _) Try.func26)) (inl_sat (look_nil _) Try.func25)) sat_Mod) (inl_sat (look_nil _) Try.func66)

theorem nextV_lt {l : List Int} {k : Nat} (h : k < l.length) (n : Int) : nextV l k n = l.getD k 0 % n := by
  unfold nextV; rw [getD_get? 0 h]
theorem nextV_ge {l : List Int} {k : Nat} (h : l.length ≤ k) (n : Int) : nextV l k n = 0 := by
  unfold nextV; rw [List.getElem?_eq_none h]
theorem nextK_lt {l : List Int} {k : Nat} (h : k < l.length) : nextK l k = k + 1 := by unfold nextK; rw [if_pos h]
theorem nextK_ge {l : List Int} {k : Nat} (h : l.length ≤ k) : nextK l k = k := by unfold nextK; rw [if_neg (by omega)]
theorem nextV_bound (l : List Int) (k : Nat) {n : Int} (h : 0 < n) : 0 ≤ nextV l k n ∧ nextV l k n < n := by
  unfold nextV
  split
  · exact ⟨Int.emod_nonneg _ (by omega), Int.emod_lt_of_pos _ h⟩
  · exact ⟨Int.le_refl _, h⟩
theorem nextK_ge' (l : List Int) (k : Nat) : k ≤ nextK l k := by unfold nextK; split <;> omega

theorem sat_Next : ∀ vs H K, S_Next.cps vs H K → Sat Try.prog 28 vs H K := by
  intro vs H K h
  unfold S_Next at h
  dsimp only at h
  split at h
  · rename_i n l k
    obtain ⟨h1, h2, h3, hK⟩ := h
    unfold lenMax at h3
    refine fn_sat (N := {}) hm tabB0 Try.func28 (Eq.mp (nfNext l k n K) ⟨fun h => ?_, fun h => ?_⟩)
    · simp only [decide_eq_true_eq] at h
      have hk : l.length ≤ k := by
        have : Int.ofNat k = (k : Int) := rfl
        omega
      rw [nextV_ge hk, nextK_ge hk] at hK
      exact hK
    · simp only [decide_eq_false_iff_not] at h
      have hk : k < l.length := by
        have : Int.ofNat k = (k : Int) := rfl
        omega
      have e1 : wr (Int.ofNat k + 1) = ((k + 1 : Nat) : Int) := by rw [wr_eq (by show _ ≤ (k : Int) + 1; omega) (by show (k : Int) + 1 ≤ _; omega)]; rfl
      have e2 : wr (((k + 1 : Nat) : Int) - 1) = (k : Int) := by rw [wr_eq (by omega) (by omega)]; omega
      rw [e1, e2]
      refine ⟨by omega, h1, h2, ?_⟩
      rw [nextV_lt hk, nextK_lt hk] at hK
      exact hK
  · exact h.elim

theorem tabB1 : TabOK Try.prog (look LB1) := by
  unfold LB1
  exact look_cons (look_cons tabB0 sat_Next) (inl_sat tabB0 Try.func67)

theorem sat_Range : ∀ vs H K, S_Range.cps vs H K → Sat Try.prog 27 vs H K := by
  intro vs H K h
  unfold S_Range at h
  dsimp only at h
  split at h
  · rename_i a b l k
    obtain ⟨h1, h2, h3, h4, hK⟩ := h
    refine fn_sat (N := {}) hm tabB1 Try.func27 (Eq.mp (nfRange l k a b K) ?_)
    have e1 : wr (b - a) = b - a := wr_eq (by omega) (by omega)
    have e2 : wr (b - a + 1) = b - a + 1 := wr_eq (by omega) (by omega)
    have hb := nextV_bound l k (n := b - a + 1) (by omega)
    rw [e1, e2]
    have e3 : wr (a + nextV l k (b - a + 1)) = a + nextV l k (b - a + 1) := wr_eq (by omega) (by omega)
    rw [e3]
    exact ⟨by omega, by omega, h4, hK⟩
  · exact h.elim

/-! ### Which changes are valid -/
def headI (a b c d : Int) : Prop := 1 ≤ a ∧ a ≤ 1048576 ∧ 1 ≤ b ∧ b ≤ 4096 ∧ 1 ≤ c ∧ c ≤ 8 ∧ 1 ≤ d ∧ d ≤ 1048576
def headC (x : Ch) : Prop := headI x.1 x.2.1 x.2.2.2.1 x.2.2.2.2.1
def bodyC (x : Ch) : Bool :=
  if x.2.2.1 = (1 : Int) then keyB x.2.2.2.2.2.2.1 && valueB x.2.2.2.2.2.2.2 && (x.2.2.2.2.2.1 == (0 : Int))
  else if x.2.2.1 = (2 : Int) then keyB x.2.2.2.2.2.2.1 && emptyB x.2.2.2.2.2.2.2 && (x.2.2.2.2.2.1 == (0 : Int))
  else if x.2.2.1 = (3 : Int) then emptyB x.2.2.2.2.2.2.1 && valueB x.2.2.2.2.2.2.2 && (x.2.2.2.2.2.1 == (0 : Int))
  else if x.2.2.1 = (4 : Int) then emptyB x.2.2.2.2.2.2.1 && emptyB x.2.2.2.2.2.2.2 && decide (x.2.2.2.2.2.1 ≥ (1 : Int)) && decide (x.2.2.2.2.2.1 < x.2.1)
  else false

theorem valid_head {x : Ch} (h : validC x = true) : headC x ∧ bodyC x = true := by
  unfold validC at h
  simp only [Bool.and_eq_true, Bool.not_eq_true', Bool.or_eq_false_iff, decide_eq_false_iff_not] at h
  obtain ⟨⟨⟨⟨⟨⟨⟨⟨a1, a2⟩, a3⟩, a4⟩, a5⟩, a6⟩, a7⟩, a8⟩, hb⟩ := h
  exact ⟨⟨Int.not_lt.1 a1, Int.not_lt.1 a2, Int.not_lt.1 a3, Int.not_lt.1 a4, Int.not_lt.1 a5, Int.not_lt.1 a6, Int.not_lt.1 a7, Int.not_lt.1 a8⟩, hb⟩
theorem valid_bad {x : Ch} (h : ¬ headC x) : validC x = false := by
  cases hv : validC x with
  | false => rfl
  | true => exact absurd (valid_head hv).1 h
theorem valid_good {x : Ch} (h : headC x) : validC x = bodyC x := by
  obtain ⟨a1, a2, a3, a4, a5, a6, a7, a8⟩ := h
  have d : (decide (x.1 < (1 : Int)) || decide (x.1 > (1048576 : Int)) || decide (x.2.1 < (1 : Int)) || decide (x.2.1 > (4096 : Int)) || decide (x.2.2.2.1 < (1 : Int)) || decide (x.2.2.2.1 > (8 : Int)) || decide (x.2.2.2.2.1 < (1 : Int)) || decide (x.2.2.2.2.1 > (1048576 : Int))) = false := by
    simp only [Bool.or_eq_false_iff, decide_eq_false_iff_not]
    exact ⟨⟨⟨⟨⟨⟨⟨Int.not_lt.2 a1, Int.not_lt.2 a2⟩, Int.not_lt.2 a3⟩, Int.not_lt.2 a4⟩, Int.not_lt.2 a5⟩, Int.not_lt.2 a6⟩, Int.not_lt.2 a7⟩, Int.not_lt.2 a8⟩
  unfold validC
  rw [d]
  rfl

theorem valid24_sat (x : Ch) (K : SV → List AObj → Prop) (hK : K (bv (validC x)) []) : Sat Try.prog 52 [cv x] [] K := by
  refine fn_sat (N := {}) hm tabB1 Try.func52 (Eq.mp (nfValid24 x K) ?_)
  have bad : ∀ {p : Prop}, (headC x → False) → K (bv false) [] := fun hn => by rw [valid_bad hn] at hK; exact hK
  simp only [Bool.not_eq_true', Bool.not_eq_false', Bool.and_eq_true, Bool.and_eq_false_iff, decide_eq_true_eq, decide_eq_false_iff_not]
  obtain ⟨xa, xb, xk, xc, xd, xe, xs, xv⟩ := x
  dsimp only [Ty.D] at *
  refine ⟨fun h => bad (p := True) fun q => (by unfold headC headI at q; dsimp only at q; omega), fun h1 => ⟨fun h => bad (p := True) fun q => (by unfold headC headI at q; dsimp only at q; omega), fun h2 => ⟨fun h => bad (p := True) fun q => (by unfold headC headI at q; dsimp only at q; omega), fun h3 => ⟨fun h => bad (p := True) fun q => (by unfold headC headI at q; dsimp only at q; omega), fun h4 => ?_⟩⟩⟩⟩
  clear bad
  rw [valid_good (x := (xa, xb, xk, xc, xd, xe, xs, xv)) ⟨h1.1, h1.2, h2.1, h2.2, h3.1, h3.2, h4.1, h4.2⟩] at hK
  unfold bodyC at hK
  dsimp only at hK
  refine ⟨fun q => ?_, fun q => ⟨fun q2 => ?_, fun q2 => ⟨fun q3 => ?_, fun q3 => ⟨fun q4 => ?_, fun q4 => ?_⟩⟩⟩⟩
  · rw [if_pos (eq_of_beq q)] at hK
    refine ⟨fun r => ?_, fun r => ?_⟩
    · have : keyB xs = true := by unfold keyB; simp only [Bool.and_eq_true, decide_eq_true_eq]; exact r
      rw [this, Bool.true_and] at hK; exact hK
    · have : keyB xs = false := by unfold keyB; simp only [Bool.and_eq_false_iff, decide_eq_false_iff_not]; exact r
      rw [this] at hK; exact hK
  · rw [if_neg (ne_of_beq_false q), if_pos (eq_of_beq q2)] at hK
    exact hK
  · rw [if_neg (ne_of_beq_false q), if_neg (ne_of_beq_false q2), if_pos (eq_of_beq q3)] at hK
    refine ⟨fun r => ?_, fun r => ?_⟩
    · have : emptyB xs = true := r
      rw [this, Bool.true_and] at hK; exact hK
    · have : emptyB xs = false := r
      rw [this] at hK; exact hK
  · rw [if_neg (ne_of_beq_false q), if_neg (ne_of_beq_false q2), if_neg (ne_of_beq_false q3), if_pos (eq_of_beq q4)] at hK
    refine ⟨fun r => ?_, fun r => ?_⟩
    · have e1 : emptyB xs = true := r.1
      have e2 : emptyB xv = true := r.2
      have e3 : wr (xb - 1) = xb - 1 := wr_eq (by omega) (by omega)
      have e4 : decide (xe ≤ xb - 1) = decide (xe < xb) := by
        rw [decide_eq_decide]; exact Int.le_sub_one_iff
      rw [e1, e2, Bool.true_and, Bool.true_and] at hK
      rw [e3, e4]; exact hK
    · have e : (emptyB xs && emptyB xv) = false := by
        unfold emptyB
        rcases r with r | r
        · rw [r]; rfl
        · rw [r, Bool.and_false]
      rw [e] at hK; exact hK
  · rw [if_neg (ne_of_beq_false q), if_neg (ne_of_beq_false q2), if_neg (ne_of_beq_false q3), if_neg (ne_of_beq_false q4)] at hK
    exact hK

theorem sat_Valid24 : ∀ vs H K, S_Valid24.cps vs H K → Sat Try.prog 52 vs H K := by
  intro vs H K h
  unfold S_Valid24 at h
  dsimp only at h
  split at h
  · rename_i a b c d e f g i
    exact valid24_sat (a, b, c, d, e, f, g, i) K h
  · exact h.elim

theorem sat_at25 : ∀ vs H K, S_at25.cps vs H K → Sat Try.prog 53 vs H K := by
  intro vs H K h
  unfold S_at25 at h
  dsimp only at h
  split at h
  · rename_i n xs ls p
    obtain ⟨hl, hK⟩ := h
    unfold lenMax at hl
    refine fn_sat (N := N_at25 xs n) hm tabB1 Try.func53 (Eq.mp (nfAt25 xs ls p n K) ?_)
    simp only [true_and, and_true, decide_eq_true_eq, decide_eq_false_iff_not]
    refine ⟨⟨0, rfl, Nat.zero_le _⟩, fun x hx => ⟨fun h => ⟨by omega, fun h2 => ?_, fun h2 => ?_⟩, fun h => ?_⟩⟩
    · unfold atQ at hK
      rw [idxE_hit (Ty.zero Item) hx (by omega) h2] at hK
      exact hK
    · exact ⟨x + 1, by rw [wr_eq (by omega) (by omega)]; rfl, fi_succ (Ty.zero Item) _ x hx (by omega) h2, by omega⟩
    · have h9 := Nat.le_trans (show xs.length ≤ x by omega) hx
      unfold atQ at hK
      rw [idxE_none h9] at hK
      exact hK
  · exact h.elim

theorem dropR_next {ls : List Le} {x : Nat} (h : x < ls.length) (n : Int) : dropR (ls.take (x + 1)) n = if ((ls.getD x (Ty.zero Lease)).1 != n) = true then dropR (ls.take x) n ++ [ls.getD x (Ty.zero Lease)] else dropR (ls.take x) n := by
  rw [take_next (Ty.zero Lease) h]
  unfold dropR
  rw [List.filter_append]
  split
  · rename_i q; simp only [List.filter_cons, List.filter_nil, q, if_true]
  · rename_i q; simp only [List.filter_cons, List.filter_nil, q]; simp

theorem dropR_len (ls : List Le) (n : Int) : (dropR ls n).length ≤ ls.length := List.length_filter_le _ _

theorem drop25_sat (xs : List Tm) (ls : List Le) (p n : Int) (K : SV → List AObj → Prop) (hl : ls.length ≤ lenMax) (hK : K (.tup []) [.cells 49 [.fsl 52 Item xs, .hd 1, .int .i64 p], lR (dropR ls n)]) : Sat Try.prog 54 [pv 0, iv n] [.cells 49 [.fsl 52 Item xs, .fsl 54 Lease ls, .int .i64 p]] K := by
  refine fn_sat (N := N_drop25 1 ls n) hm tabB1 Try.func54 (Eq.mp (nfDrop25 xs ls p n _) ?_)
  unfold lenMax at hl
  simp only [true_and, and_true, decide_eq_true_eq, decide_eq_false_iff_not]
  refine ⟨⟨0, ⟨rfl, rfl⟩, Nat.zero_le _⟩, fun x hx => ⟨fun h => ⟨by omega, fun h2 => ?_, fun h2 => ?_⟩, fun h => ?_⟩⟩
  · have hx' : x < ls.length := by omega
    have := dropR_len (ls.take x) n
    have h3 : (ls.take x).length ≤ ls.length := by rw [List.length_take]; omega
    refine ⟨by simp only [List.length_singleton]; omega, by simp only [List.length_singleton]; omega, x + 1, ⟨by rw [wr_eq (by omega) (by omega)]; rfl, ?_⟩, by omega, by omega⟩
    rw [dropR_next hx', if_pos h2]
  · have hx' : x < ls.length := by omega
    refine ⟨x + 1, ⟨by rw [wr_eq (by omega) (by omega)]; rfl, ?_⟩, by omega, by omega⟩
    rw [dropR_next hx', if_neg (by rw [h2]; simp)]
  · have hx' : x = ls.length := by omega
    subst hx'
    rw [List.take_length]
    exact hK

theorem drop25b_sat (xs : List Tm) (ls : List Le) (p n : Int) (K : SV → List AObj → Prop) (hl : ls.length ≤ lenMax) (hK : K (.tup []) [.cells 49 [.hd 1, .hd 2, .int .i64 p], tR xs, lR (dropR ls n)]) : Sat Try.prog 54 [pv 0, iv n] [.cells 49 [.hd 1, .fsl 54 Lease ls, .int .i64 p], tR xs] K := by
  refine fn_sat (N := N_drop25 2 ls n) hm tabB1 Try.func54 (Eq.mp (nfDrop25b xs ls p n _) ?_)
  unfold lenMax at hl
  simp only [true_and, and_true, decide_eq_true_eq, decide_eq_false_iff_not]
  refine ⟨⟨0, ⟨rfl, rfl⟩, Nat.zero_le _⟩, fun x hx => ⟨fun h => ⟨by omega, fun h2 => ?_, fun h2 => ?_⟩, fun h => ?_⟩⟩
  · have hx' : x < ls.length := by omega
    have := dropR_len (ls.take x) n
    have h3 : (ls.take x).length ≤ ls.length := by rw [List.length_take]; omega
    refine ⟨by simp only [List.length_singleton]; omega, by simp only [List.length_singleton]; omega, x + 1, ⟨by rw [wr_eq (by omega) (by omega)]; rfl, ?_⟩, by omega, by omega⟩
    rw [dropR_next hx', if_pos h2]
  · have hx' : x < ls.length := by omega
    refine ⟨x + 1, ⟨by rw [wr_eq (by omega) (by omega)]; rfl, ?_⟩, by omega, by omega⟩
    rw [dropR_next hx', if_neg (by rw [h2]; simp)]
  · have hx' : x = ls.length := by omega
    subst hx'
    rw [List.take_length]
    exact hK

theorem sat_drop25 : ∀ vs H K, S_drop25.cps vs H K → Sat Try.prog 54 vs H K := by
  intro vs H K h
  unfold S_drop25 at h
  dsimp only at h
  split at h
  · exact drop25_sat _ _ _ _ K h.1 h.2
  · exact drop25b_sat _ _ _ _ K h.1 h.2
  · exact h.elim

theorem find24_le (xs : List Ce) (s : ByteArray) : find24 xs s ≤ xs.length := tw_le _ _

theorem sat_find24 : ∀ vs H K, S_find24.cps vs H K → Sat Try.prog 78 vs H K := by
  intro vs H K h
  unfold S_find24 at h
  dsimp only at h
  split at h
  · rename_i s xs
    obtain ⟨hl, hK⟩ := h
    unfold lenMax at hl
    refine fn_sat (N := N_find24 xs s) hm tabB1 Try.func78 (Eq.mp (nfFind24 xs s K) ?_)
    simp only [true_and, and_true, sgnB, decide_eq_true_eq, Bool.and_eq_true, Bool.and_eq_false_imp]
    refine ⟨⟨0, rfl, Nat.zero_le _⟩, fun x hx => ⟨fun h => by omega, fun h => ?_, fun h => ⟨fun h2 => by omega, ?_⟩⟩⟩
    · have hx' : x < xs.length := by omega
      exact ⟨x + 1, by rw [wr_eq (by omega) (by omega)]; rfl, tw_succ (p := fun c : Ce => Op.bytesLess c.1.toList s.toList) (Ty.zero CellT) xs x hx hx' h.2, by omega⟩
    · have hx2 : x = find24 xs s := tw_stop (p := fun c : Ce => Op.bytesLess c.1.toList s.toList) (Ty.zero CellT) xs x hx fun hlt => h (by omega)
      unfold has24 at hK
      subst hx2
      have e : decide (((find24 xs s : Nat) : Int) < (xs.length : Int)) = decide (find24 xs s < xs.length) := by rw [decide_eq_decide]; omega
      rw [e]; exact hK
  · exact h.elim

theorem tabB2 : TabOK Try.prog (look LB2) := by
  unfold LB2
  exact look_cons (look_cons (look_cons (look_cons (look_cons tabB1 sat_find24) sat_drop25) sat_at25) sat_Valid24) sat_Range
end Go.Proofs.Ythjogeodclpafaa.AM
end

section
set_option linter.unusedVariables false
set_option linter.unusedSimpArgs false
set_option maxRecDepth 100000
namespace Go.Proofs.Ythjogeodclpafaa.AM
open Go Go.Proofs.Ythjogeodclpafaa

theorem letters_len (l : List Int) : ∀ (n k : Nat), (lettersGo l n k).1.length = n
  | 0, _ => rfl
  | n + 1, k => by simp [lettersGo, letters_len l n k]

theorem textN_bound (l : List Int) (k : Nat) {a b : Int} (h1 : 0 ≤ a) (h2 : a ≤ b) : a ≤ textN l k a b ∧ textN l k a b ≤ b := by
  have hb := nextV_bound l k (n := min b (a + 2) - a + 1) (by omega)
  unfold textN
  cases nextV l (nextK l k) 9 == 8
  · simp only [cond_false]; omega
  · simp only [cond_true]; omega

theorem letters_fill (l : List Int) (k n x : Nat) (hx : x < n) : List.set ((lettersGo l x k).1 ++ List.replicate (n - x) (0 : Int)) x (IntKind.u8.wrap (97 + IntKind.u8.wrap (nextV l (lettersGo l x k).2 4))) = (lettersGo l (x + 1) k).1 ++ List.replicate (n - (x + 1)) (0 : Int) := by
  have hl := letters_len l x k
  rw [List.set_append_right _ _ (by omega), hl, Nat.sub_self]
  have : n - x = (n - (x + 1)) + 1 := by omega
  rw [this, List.replicate_succ, List.set_cons_zero]
  simp [lettersGo]

theorem text_sat (l : List Int) (k : Nat) (a b : Int) (K : SV → List AObj → Prop) (h1 : 0 ≤ a) (h2 : a ≤ b) (h3 : b ≤ 1000) (h4 : l.length ≤ lenMax) (hK : K (sv (textV l k a b).1) [tC l (.ofNat (textV l k a b).2)]) :
    Sat Try.prog 75 [pv 0, iv a, iv b] [tC l (.ofNat k)] K := by
  refine fn_sat (N := N_Text l (nextK l (nextK l k)) (textN l k a b)) hm tabB2 Try.func75 (Eq.mp (nfText l k a b K) ?_)
  have ew : wr (a + 2) = a + 2 := wr_eq (by omega) (by omega)
  rw [ew]
  have hN := textN_bound l k h1 h2
  refine ⟨by omega, by omega, by omega, h4, by omega, by omega, h4, ?_⟩
  have body : ∀ n : Int, textN l k a b = n → (0 : Int) ≤ n ∧ n = n ∧ (1 : Int) * n ≤ (140737488355328 : Int) ∧ n ≤ (140737488355328 : Int) ∧
      (∃ (y : Nat), (((List.replicate (Int.toNat n) (Ty.zero (Ty.int IntKind.u8))).length : Int) = ((List.replicate (Int.toNat n) (Ty.zero (Ty.int IntKind.u8))).length : Int) ∧ (0 : Int) = (y : Int) ∧ l = l ∧ Int.ofNat (nextK l (nextK l k)) = Int.ofNat (lettersGo l y (nextK l (nextK l k))).2 ∧ List.replicate (Int.toNat n) (Ty.zero (Ty.int IntKind.u8)) = (lettersGo l y (nextK l (nextK l k))).1 ++ List.replicate (Int.toNat (textN l k a b) - y) (0 : Int) ∧ True) ∧ y ≤ Int.toNat (textN l k a b)) ∧ True := by
    intro n hn
    rw [hn] at hN
    rw [hn]
    exact ⟨by omega, rfl, by omega, by omega, ⟨0, ⟨rfl, rfl, rfl, rfl, by simp [lettersGo, Ty.zero], trivial⟩, Nat.zero_le _⟩, trivial⟩
  have main : ∀ n : Int, textN l k a b = n → ∀ (x : Nat), x ≤ Int.toNat (textN l k a b) →
      (decide ((x : Int) < ((List.replicate (Int.toNat n) (Ty.zero (Ty.int IntKind.u8))).length : Int)) = true → (0 : Int) < (4 : Int) ∧ (4 : Int) ≤ (1099511627776 : Int) ∧ l.length ≤ lenMax ∧ ((0 : Int) ≤ (x : Int) ∧ (x : Int) < (((lettersGo l x (nextK l (nextK l k))).1 ++ List.replicate (Int.toNat (textN l k a b) - x) (0 : Int)).length : Int)) ∧ x < ((lettersGo l x (nextK l (nextK l k))).1 ++ List.replicate (Int.toNat (textN l k a b) - x) (0 : Int)).length ∧
        ∃ (y : Nat), (((List.replicate (Int.toNat n) (Ty.zero (Ty.int IntKind.u8))).length : Int) = ((List.replicate (Int.toNat n) (Ty.zero (Ty.int IntKind.u8))).length : Int) ∧ wr ((x : Int) + (1 : Int)) = (y : Int) ∧ l = l ∧ Int.ofNat (nextK l (lettersGo l x (nextK l (nextK l k))).2) = Int.ofNat (lettersGo l y (nextK l (nextK l k))).2 ∧ List.set ((lettersGo l x (nextK l (nextK l k))).1 ++ List.replicate (Int.toNat (textN l k a b) - x) (0 : Int)) x (IntKind.wrap IntKind.u8 ((97 : Int) + IntKind.wrap IntKind.u8 (nextV l (lettersGo l x (nextK l (nextK l k))).2 (4 : Int)))) = (lettersGo l y (nextK l (nextK l k))).1 ++ List.replicate (Int.toNat (textN l k a b) - y) (0 : Int) ∧ True) ∧ y ≤ Int.toNat (textN l k a b) ∧ Int.toNat (textN l k a b) - y < Int.toNat (textN l k a b) - x) ∧
      (decide ((x : Int) < ((List.replicate (Int.toNat n) (Ty.zero (Ty.int IntKind.u8))).length : Int)) = false → K (sv (strOfNums ((lettersGo l x (nextK l (nextK l k))).1 ++ List.replicate (Int.toNat (textN l k a b) - x) (0 : Int)))) [tC l (.ofNat (lettersGo l x (nextK l (nextK l k))).2)]) := by
    intro n hn x hx
    have hl := letters_len l x (nextK l (nextK l k))
    rw [hn] at hN hx
    simp only [List.length_replicate, decide_eq_true_eq, decide_eq_false_iff_not]
    rw [hn]
    refine ⟨fun h => ?_, fun h => ?_⟩
    · have hlen : ((lettersGo l x (nextK l (nextK l k))).1 ++ List.replicate (Int.toNat n - x) (0 : Int)).length = n.toNat := by rw [List.length_append, hl, List.length_replicate]; omega
      rw [hlen]
      exact ⟨by omega, by omega, h4, by omega, by omega, x + 1, ⟨by trivial, by rw [wr_eq (by omega) (by omega)]; rfl, by trivial, by trivial, letters_fill l _ n.toNat x (by omega), trivial⟩, by omega, by omega⟩
    · have hxn : x = n.toNat := by omega
      subst hxn
      rw [Nat.sub_self, List.replicate_zero, List.append_nil]
      unfold textV at hK
      rw [hn] at hK
      exact hK
  refine ⟨fun h => ?_, fun h => ?_⟩
  · have hn : textN l k a b = b := by unfold textN; rw [h]; rfl
    obtain ⟨q1, q2, q3, q4, q5, _⟩ := body b hn
    exact ⟨q1, q2, q3, q4, q5, main b hn⟩
  · have hn : textN l k a b = a + nextV l k (min b (a + 2) - a + 1) := by unfold textN; rw [h]; rfl
    obtain ⟨q1, q2, q3, q4, q5, _⟩ := body _ hn
    exact ⟨q1, q2, q3, q4, q5, main _ hn⟩

theorem sat_Text : ∀ vs H K, S_Text.cps vs H K → Sat Try.prog 75 vs H K := by
  intro vs H K h
  unfold S_Text at h
  dsimp only at h
  split at h
  · exact text_sat _ _ _ _ K h.1 h.2.1 h.2.2.1 h.2.2.2.1 (h.2.2.2.2 _ rfl)
  · exact h.elim

theorem take_rest {α : Type} (xs : List α) (i : Nat) : List.take (xs.length - i) (List.drop i xs) = List.drop i xs := List.take_of_length_le (by rw [List.length_drop]; omega)

theorem apply24_sat (xs : List Ce) (x : Ch) (K : SV → List AObj → Prop) (hl : xs.length ≤ lenMax) (hK : K (iv (apply24 xs x).1) [rsC (apply24 xs x).2]) : Sat Try.prog 73 [pv 0, cv x] [rsC xs] K := by
  refine Sat.frozen [0] [] (fn_sat (N := {}) hm tabB2 Try.func73 (Eq.mp (nfApply24 xs x _) ?_))
  have e : validC (x.1, x.2.1, x.2.2.1, x.2.2.2.1, x.2.2.2.2.1, x.2.2.2.2.2.1, x.2.2.2.2.2.2.1, x.2.2.2.2.2.2.2) = validC x := rfl
  rw [e]
  have hf := find24_le xs x.2.2.2.2.2.2.1
  have hh : has24 xs x.2.2.2.2.2.2.1 = true → find24 xs x.2.2.2.2.2.2.1 < xs.length := fun h => by
    unfold has24 at h
    simp only [Bool.and_eq_true, decide_eq_true_eq] at h
    exact h.1
  have hl' := hl
  unfold lenMax at hl'
  unfold apply24 at hK
  have e1 : wr (((find24 xs x.2.2.2.2.2.2.1 : Nat) : Int) + 1) = ((find24 xs x.2.2.2.2.2.2.1 + 1 : Nat) : Int) := by rw [wr_eq (by omega) (by omega)]; rfl
  simp only [e1, Int.toNat_natCast]
  generalize hF : find24 xs x.2.2.2.2.2.2.1 = i at hK hf hh ⊢
  generalize has24 xs x.2.2.2.2.2.2.1 = hs at hK hh ⊢
  simp only [take_rest, List.nil_append, Nat.sub_zero, List.drop_zero, Nat.zero_add, List.length_take, List.length_drop, List.length_append, List.length_singleton]
  cases h1 : validC x <;> simp only [h1, Bool.not_true, Bool.not_false, cond_true, cond_false, Bool.false_eq_true, Bool.true_eq_false, false_implies, true_implies, forall_const, and_true, true_and] at hK ⊢
  · refine Eq.mp ?_ hK
    kernel_rfl
  · refine ⟨hl, ?_⟩
    cases h2 : ((x.2.2.1 == 1) && hs) <;> simp only [h2, cond_true, cond_false, Bool.false_eq_true, Bool.true_eq_false, false_implies, true_implies, forall_const, and_true, true_and] at hK ⊢
    · cases h3 : (x.2.2.1 == 1) <;> simp only [h3, cond_true, cond_false, Bool.false_eq_true, Bool.true_eq_false, false_implies, true_implies, forall_const, and_true, true_and] at hK ⊢
      · cases h4 : (x.2.2.1 == 2) <;> simp only [h4, cond_true, cond_false, Bool.false_eq_true, Bool.true_eq_false, false_implies, true_implies, forall_const, and_true, true_and] at hK ⊢
        · refine Eq.mp ?_ hK
          kernel_rfl
        · cases h5 : hs <;> simp only [h5, Bool.not_true, Bool.not_false, cond_true, cond_false, Bool.false_eq_true, Bool.true_eq_false, false_implies, true_implies, forall_const, and_true, true_and] at hK ⊢
          · refine Eq.mp ?_ hK
            kernel_rfl
          · have := hh h5
            repeat' (first | apply And.intro | intro _)
            all_goals first | rfl | omega | (refine Eq.mp ?_ hK; kernel_rfl)
      · cases h4 : decide ((xs.length : Int) ≥ 32) <;> simp only [h4, cond_true, cond_false, Bool.false_eq_true, Bool.true_eq_false, false_implies, true_implies, forall_const, and_true, true_and] at hK ⊢
        · repeat' (first | apply And.intro | intro _)
          all_goals first | rfl | omega | (refine Eq.mp ?_ hK; kernel_rfl)
        · refine Eq.mp ?_ hK
          kernel_rfl
    · have := hh (by rw [Bool.and_eq_true] at h2; exact h2.2)
      repeat' (first | apply And.intro | intro _)
      all_goals first | rfl | omega | (refine Eq.mp ?_ hK; kernel_rfl)

theorem sat_apply24 : ∀ vs H K, S_apply24.cps vs H K → Sat Try.prog 73 vs H K := by
  intro vs H K h
  unfold S_apply24 at h
  dsimp only at h
  split at h
  · rename_i a b c d e f g i xs
    exact apply24_sat xs (a, b, c, d, e, f, g, i) K h.1 (h.2 _ rfl)
  · exact h.elim
end Go.Proofs.Ythjogeodclpafaa.AM
end

section
set_option linter.unusedVariables false
set_option linter.unusedSimpArgs false
set_option maxRecDepth 100000
namespace Go.Proofs.Ythjogeodclpafaa.AM
open Go Go.Proofs.Ythjogeodclpafaa

theorem idxE_lt {α : Type} (p : α → Bool) (ws : List α) : -1 ≤ idxE p ws ∧ idxE p ws < ws.length := by
  unfold idxE
  split
  · rename_i h
    obtain ⟨a, ha, hp⟩ := List.any_eq_true.1 h
    have := List.findIdx_lt_length_of_exists ⟨a, ha, hp⟩
    omega
  · omega

theorem apply25_sat (xs : List Tm) (ls : List Le) (p : Int) (x : Ch) (K : SV → List AObj → Prop) (hl : xs.length ≤ lenMax) (hl2 : ls.length ≤ lenMax)
    (hK : K (iv (applyR (xs, ls, p) x).1) [rC (applyR (xs, ls, p) x).2.1 (applyR (xs, ls, p) x).2.2.1 (applyR (xs, ls, p) x).2.2.2]) : Sat Try.prog 31 [pv 0, cv x] [rC xs ls p] K := by
  refine Sat.frozen [0] [] (fn_sat (N := {}) hm tabB2 Try.func31 (Eq.mp (nfApply25 xs ls p x _) ?_))
  have e : validC (x.1, x.2.1, x.2.2.1, x.2.2.2.1, x.2.2.2.2.1, x.2.2.2.2.2.1, x.2.2.2.2.2.2.1, x.2.2.2.2.2.2.2) = validC x := rfl
  rw [e]
  have ha := idxE_lt (fun w : Tm => w.1 == x.2.2.2.2.2.1) xs
  have ha : -1 ≤ atQ xs x.2.2.2.2.2.1 ∧ atQ xs x.2.2.2.2.2.1 < xs.length := ha
  have hl' := hl
  have hl2' := hl2
  unfold lenMax at hl' hl2'
  unfold applyR at hK
  generalize hA : atQ xs x.2.2.2.2.2.1 = i at hK ha ⊢
  have e1 : wr (i + 1) = i + 1 := wr_eq (by omega) (by omega)
  simp only [e1]
  cases h1 : validC x <;> simp only [h1, Bool.not_true, Bool.not_false, cond_true, cond_false, Bool.false_eq_true, Bool.true_eq_false, false_implies, true_implies, forall_const, and_true, true_and] at hK ⊢
  · refine Eq.mp ?_ hK
    kernel_rfl
  · cases h3 : (x.2.2.1 == 3) <;> simp only [h3, cond_true, cond_false, Bool.false_eq_true, Bool.true_eq_false, false_implies, true_implies, forall_const, and_true, true_and] at hK ⊢
    · cases h4 : (x.2.2.1 == 4) <;> simp only [h4, cond_true, cond_false, Bool.false_eq_true, Bool.true_eq_false, false_implies, true_implies, forall_const, and_true, true_and] at hK ⊢
      · refine Eq.mp ?_ hK
        kernel_rfl
      · refine ⟨hl, ?_⟩
        cases h5 : decide (i < 0) <;> simp only [h5, cond_true, cond_false, Bool.false_eq_true, Bool.true_eq_false, false_implies, true_implies, forall_const, and_true, true_and] at hK ⊢
        · simp only [decide_eq_false_iff_not] at h5
          obtain ⟨k, rfl⟩ := Int.eq_ofNat_of_zero_le (Int.not_lt.1 h5)
          have hk : ((k : Int) + 1).toNat = k + 1 := by omega
          simp only [hk, Int.toNat_natCast, take_rest, List.nil_append, Nat.sub_zero, List.drop_zero, Nat.zero_add, List.length_take, List.length_drop, List.length_append] at hK ⊢
          repeat' (first | apply And.intro | intro _)
          all_goals first | trivial | omega | (show frozenK _ _ _ _ _ _; refine Eq.mp ?_ hK; kernel_rfl)
        · refine Eq.mp ?_ hK
          kernel_rfl
    · cases h4 : decide (x.2.1 ≤ p) <;> simp only [h4, cond_true, cond_false, Bool.false_eq_true, Bool.true_eq_false, false_implies, true_implies, forall_const, and_true, true_and] at hK ⊢
      · cases h5 : decide ((xs.length : Int) ≥ 16) <;> simp only [h5, cond_true, cond_false, Bool.false_eq_true, Bool.true_eq_false, false_implies, true_implies, forall_const, and_true, true_and] at hK ⊢
        · simp only [List.nil_append, Nat.zero_add, List.length_singleton]
          repeat' (first | apply And.intro | intro _)
          all_goals first | trivial | omega | (show frozenK _ _ _ _ _ _; refine Eq.mp ?_ hK; kernel_rfl)
        · refine Eq.mp ?_ hK
          kernel_rfl
      · refine Eq.mp ?_ hK
        kernel_rfl

theorem sat_apply25 : ∀ vs H K, S_apply25.cps vs H K → Sat Try.prog 31 vs H K := by
  intro vs H K h
  unfold S_apply25 at h
  dsimp only at h
  split at h
  · rename_i a b c d e f g i xs ls p
    exact apply25_sat xs ls p (a, b, c, d, e, f, g, i) K h.1 h.2.1 (h.2.2 _ rfl)
  · exact h.elim

theorem copy25_sat (xs : List Tm) (ls : List Le) (p : Int) (K : SV → List AObj → Prop) (hl : xs.length ≤ lenMax) (hl2 : ls.length ≤ lenMax) (hK : K (pv 1) [rC xs ls p, rC xs ls p]) : Sat Try.prog 34 [pv 0] [rC xs ls p] K := by
  refine Sat.frozen [0, 1] [] (fn_sat (N := {}) hm tabB2 Try.func34 (Eq.mp (nfCopy25 xs ls p _) ?_))
  unfold lenMax at hl hl2
  simp only [List.nil_append, Nat.zero_add]
  repeat' (first | apply And.intro | intro _)
  all_goals first | trivial | omega | (show frozenK _ _ _ _ _ _; refine Eq.mp ?_ hK; kernel_rfl)

theorem sat_copy25 : ∀ vs H K, S_copy25.cps vs H K → Sat Try.prog 34 vs H K := by
  intro vs H K h
  unfold S_copy25 at h
  dsimp only at h
  split at h
  · exact copy25_sat _ _ _ K h.1 h.2.1 h.2.2
  · exact h.elim

theorem new28_sat (c t : Int) (K : SV → List AObj → Prop) (hK : K (pv 0) [cpC c t [] 1 2 3 4, rsC [], rC [] [] 0, rtC ns0 rs0, rgC c 0 []]) : Sat Try.prog 48 [iv c, iv t] [] K := by
  refine Sat.frozen [0, 2, 3, 5] [] (fn_satE tabB2 Try.func48 (nfNew28 c t _) ?_)
  refine Eq.mp ?_ hK
  kernel_rfl

theorem sat_new28 : ∀ vs H K, S_new28.cps vs H K → Sat Try.prog 48 vs H K := by
  intro vs H K h
  unfold S_new28 at h
  dsimp only at h
  split at h
  · exact new28_sat _ _ K h
  · exact h.elim

theorem apply26_sat (ns : List Int) (rs : List Rp) (xa xb xk xc xd xe : Int) (xs xv : ByteArray) (K : SV → List AObj → Prop) (hK : K (iv (apply26 (ns, rs) (xa, xb, xk, xc, xd, xe, xs, xv)).1) [rtC (apply26 (ns, rs) (xa, xb, xk, xc, xd, xe, xs, xv)).2.1 (apply26 (ns, rs) (xa, xb, xk, xc, xd, xe, xs, xv)).2.2]) :
    Sat Try.prog 72 [pv 0, chA xa xb xk xc xd xe xs xv] [rtC ns rs] K := by
  refine fn_sat (N := {}) hm tabB2 Try.func72 (Eq.mp (nfApply26 ns rs (xa, xb, xk, xc, xd, xe, xs, xv) _) ?_)
  cases h1 : validC (xa, xb, xk, xc, xd, xe, xs, xv) with
  | false =>
    unfold apply26 at hK
    simp only [h1, Bool.not_true, Bool.not_false, cond_true, cond_false, Bool.false_eq_true, Bool.true_eq_false, false_implies, true_implies, forall_const, and_true, true_and] at hK ⊢
    exact hK
  | true =>
    obtain ⟨hh, _⟩ := valid_head h1
    unfold headC headI at hh
    dsimp only at hh
    have e2 : wr (xc - 1) = xc - 1 := wr_eq (by omega) (by omega)
    dsimp only
    rw [e2]
    have b1 : (0 : Int) ≤ xc - 1 ∧ xc - 1 < 8 := by omega
    have b2 : (xc - 1).toNat < 8 := by omega
    unfold apply26 at hK
    dsimp only at hK
    have z : Ty.zero I = (0 : Int) := rfl
    simp only [h1, z, b1, b2, Bool.not_true, Bool.not_false, cond_true, cond_false, Bool.false_eq_true, Bool.true_eq_false, false_implies, true_implies, forall_const, and_true, true_and] at hK ⊢
    cases h2 : (xd != wr (ns.getD (xc - 1).toNat 0 + 1)) <;> simp only [h2, cond_true, cond_false, Bool.false_eq_true, Bool.true_eq_false, false_implies, true_implies, forall_const, and_true, true_and] at hK ⊢
    · cases h3 : (xk == 3) <;> simp only [h3, cond_true, cond_false, Bool.false_eq_true, Bool.true_eq_false, false_implies, true_implies, forall_const, and_true, true_and] at hK ⊢
      · exact hK
      · rw [List.set_set]
        by_cases hrs : (xc - 1).toNat < rs.length
        · have eg : List.getD (rs.set (xc - 1).toNat ((0 : Int), xb, xe, (⟨#[]⟩ : ByteArray))) (xc - 1).toNat (Ty.zero ReplyT) = ((0 : Int), xb, xe, (⟨#[]⟩ : ByteArray)) := by
            rw [List.getD_eq_getElem?_getD, List.getElem?_set_self hrs]; rfl
          rw [eg]
          exact hK
        · rw [List.set_eq_of_length_le (l := rs) (by omega)]
          rw [List.set_eq_of_length_le (l := rs) (by omega)] at hK
          exact hK
    · exact hK

theorem sat_apply26 : ∀ vs H K, S_apply26.cps vs H K → Sat Try.prog 72 vs H K := by
  intro vs H K h
  unfold S_apply26 at h
  dsimp only at h
  split at h
  · rename_i a b c d e f g i ns rs
    exact apply26_sat ns rs a b c d e f g i K (h _ rfl)
  · exact h.elim

theorem sat_Epoch : ∀ vs H K, S_Epoch.cps vs H K → Sat Try.prog 71 vs H K := by
  intro vs H K h
  unfold S_Epoch at h
  dsimp only at h
  split at h
  · rename_i cc ct hs xs its ls p ns rs gc gl ws
    obtain ⟨hl, hK⟩ := h
    unfold lenMax at hl
    refine fn_satE tabB2 Try.func71 (nfEpoch cc ct hs xs (its, ls, p) (ns, rs) gc gl ws K) ?_
    refine ⟨fun h => ?_, fun h => ?_⟩
    · have h0 : hs.length = 0 := by have := eq_of_beq h; omega
      have : hs = [] := List.eq_nil_of_length_eq_zero h0
      subst this
      exact hK
    · have h0 : hs.length ≠ 0 := fun e => by rw [e] at h; simp at h
      have e1 : wr ((hs.length : Int) - 1) = ((hs.length - 1 : Nat) : Int) := by rw [wr_eq (by omega) (by omega)]; omega
      rw [e1]
      exact ⟨by omega, hK⟩
  · exact h.elim

theorem tabB3 : TabOK Try.prog (look LB3) := by
  unfold LB3
  exact look_cons (look_cons (look_cons (look_cons (look_cons (look_cons (look_cons tabB2 sat_Epoch) sat_new28) sat_apply26) sat_copy25) sat_apply25) sat_apply24) sat_Text
end Go.Proofs.Ythjogeodclpafaa.AM
end

section
set_option linter.unusedVariables false
set_option linter.unusedSimpArgs false
set_option maxRecDepth 100000
namespace Go.Proofs.Ythjogeodclpafaa.AM
open Go Go.Proofs.Ythjogeodclpafaa

theorem apply28_sat (cc ct : Int) (s : CP) (gc gl : Int) (ws : List W) (x : Ch) (K : SV → List AObj → Prop) (h1 : s.h.length ≤ lenMax) (h2 : s.s.length ≤ lenMax) (h3 : s.q.1.length ≤ lenMax) (h4 : s.q.2.1.length ≤ lenMax)
    (hK : K (iv (apply28 s x).1) [cpC cc ct (apply28 s x).2.h 5 6 7 4, .dead, .dead, .dead, rgC gc gl ws, rsC (apply28 s x).2.s, rC (apply28 s x).2.q.1 (apply28 s x).2.q.2.1 (apply28 s x).2.q.2.2, rtC (apply28 s x).2.t.1 (apply28 s x).2.t.2]) :
    Sat Try.prog 63 [pv 0, cv x] [cpC cc ct s.h 1 2 3 4, rsC s.s, rC s.q.1 s.q.2.1 s.q.2.2, rtC s.t.1 s.t.2, rgC gc gl ws] K := by
  obtain ⟨hs, xs, ⟨its, ls, p⟩, ns, rs⟩ := s
  refine Sat.frozen [0] [1, 2, 3] (fn_satE tabB3 Try.func63 (nfApply28 cc ct hs xs its ls p ns rs gc gl ws x _) ?_)
  have e : (x.1, x.2.1, x.2.2.1, x.2.2.2.1, x.2.2.2.2.1, x.2.2.2.2.2.1, x.2.2.2.2.2.2.1, x.2.2.2.2.2.2.2) = x := rfl
  rw [e]
  dsimp only at h1 h2 h3 h4
  have h1' := h1
  unfold lenMax at h1'
  have e1 : wr ((hs.length : Int) + 1) = (hs.length : Int) + 1 := wr_eq (by omega) (by omega)
  rw [e1]
  unfold apply28 at hK
  simp only [true_and, and_true, exists_const, forall_const, true_implies, sgnB]
  cases hv : validC x <;> simp only [hv, Bool.not_true, Bool.not_false, cond_true, cond_false, Bool.false_eq_true, Bool.true_eq_false, false_implies, true_implies, forall_const, and_true, true_and] at hK ⊢
  · refine Eq.mp ?_ hK
    kernel_rfl
  · cases h5 : (x.2.1 != (hs.length : Int) + 1) <;> simp only [h5, h1, Bool.not_true, Bool.not_false, Bool.true_or, Bool.false_or, cond_true, cond_false, Bool.false_eq_true, Bool.true_eq_false, false_implies, true_implies, forall_const, and_true, true_and] at hK ⊢
    · cases h6 : decide (x.1 < epoch28 hs) <;> simp only [h6, h2, h3, h4, cond_true, cond_false, Bool.false_eq_true, Bool.true_eq_false, false_implies, true_implies, forall_const, and_true, true_and] at hK ⊢
      · intro r hr r1 hr1 r2 hr2
        rw [← hr, ← hr1, ← hr2] at hK
        have zero : ∀ {n : Int}, n = 0 → (n != 0) = false := fun h => by rw [h]; rfl
        refine ⟨⟨0, rfl, by omega, fun j hj => absurd hj (Nat.not_lt_zero _)⟩, fun k ⟨hk, hz⟩ => ⟨fun hlt => ?_, fun hge => ?_⟩⟩
        · have hk3 : k < 3 := by simp only [decide_eq_true_eq] at hlt; omega
          refine ⟨by omega, hk3, fun q => ?_, fun q => ⟨k + 1, by rw [wr_eq (by omega) (by omega)]; rfl, ⟨by omega, fun j hj => ?_⟩, by omega⟩⟩
          · match k, hk3 with
            | 0, _ =>
              have q0 : (r.1 != 0) = true := q
              rw [q0] at hK
              refine Eq.mp ?_ hK
              kernel_rfl
            | 1, _ =>
              have z0 : (r.1 != 0) = false := zero (hz 0 (by omega))
              have q0 : (r1.1 != 0) = true := q
              rw [z0, q0] at hK
              refine Eq.mp ?_ hK
              kernel_rfl
            | 2, _ =>
              have z0 : (r.1 != 0) = false := zero (hz 0 (by omega))
              have z1 : (r1.1 != 0) = false := zero (hz 1 (by omega))
              have q0 : (r2.1 != 0) = true := q
              rw [z0, z1, q0] at hK
              refine Eq.mp ?_ hK
              kernel_rfl
          · rcases Nat.lt_or_ge j k with hjk | hjk
            · exact hz j hjk
            · have : j = k := by omega
              subst this
              exact eq_of_beq (by rw [bne, Bool.not_eq_false'] at q; exact q)
        · have hk3 : k = 3 := by simp only [decide_eq_false_iff_not] at hge; omega
          subst hk3
          have z0 : (r.1 != 0) = false := zero (hz 0 (by omega))
          have z1 : (r1.1 != 0) = false := zero (hz 1 (by omega))
          have z2 : (r2.1 != 0) = false := zero (hz 2 (by omega))
          rw [z0, z1, z2] at hK
          simp only [List.nil_append, Nat.zero_add, List.length_singleton]
          repeat' (first | apply And.intro | intro _)
          all_goals first | trivial | omega | (show frozenK _ _ _ _ _ _; refine Eq.mp ?_ hK; kernel_rfl)
      · refine Eq.mp ?_ hK
        kernel_rfl
    · refine Eq.mp ?_ hK
      kernel_rfl

theorem sat_apply28 : ∀ vs H K, S_apply28.cps vs H K → Sat Try.prog 63 vs H K := by
  intro vs H K h
  unfold S_apply28 at h
  dsimp only at h
  split at h
  · rename_i a b c d e f g i cc ct hs xs its ls p ns rs gc gl ws
    exact apply28_sat cc ct ⟨hs, xs, (its, ls, p), (ns, rs)⟩ gc gl ws (a, b, c, d, e, f, g, i) K h.1 h.2.1 h.2.2.1 h.2.2.2.1 (h.2.2.2.2 _ rfl)
  · exact h.elim
end Go.Proofs.Ythjogeodclpafaa.AM
end

section
set_option linter.unusedVariables false
set_option linter.unusedSimpArgs false
set_option maxRecDepth 100000
namespace Go.Proofs.Ythjogeodclpafaa.AM
open Go Go.Proofs.Ythjogeodclpafaa

theorem chgC_bound (l : List Int) (k : Nat) : 1 ≤ chgC l k ∧ chgC l k ≤ 4 := by
  have := nextV_bound l (nextK l k) (n := 4) (by omega)
  unfold chgC; omega
theorem chg0_bound (l : List Int) (k : Nat) : 1 ≤ chg0 l k ∧ chg0 l k ≤ 4 := by
  have := nextV_bound l k (n := 4) (by omega)
  unfold chg0; omega
theorem chg2_spec (l : List Int) (k : Nat) (s : CP) : (chg2 l k s = 1 ∨ chg2 l k s = 2 ∨ chg2 l k s = 3 ∨ chg2 l k s = 4) ∧ (chg2 l k s = 2 → s.s.length ≠ 0) ∧ (chg2 l k s = 4 → s.q.1.length ≠ 0) := by
  have h0 := chg0_bound l k
  have h1 : (chg1 l k s = 1 ∨ chg1 l k s = 2 ∨ chg1 l k s = 3 ∨ chg1 l k s = 4) ∧ (chg1 l k s = 4 → s.q.1.length ≠ 0) := by
    unfold chg1
    cases q : ((chg0 l k == 4) && ((s.q.1.length : Int) == 0))
    · simp only [cond_false]
      refine ⟨by omega, fun h e => ?_⟩
      rw [h, e] at q; simp at q
    · simp only [cond_true]
      exact ⟨Or.inr (Or.inr (Or.inl trivial)), fun h => absurd h (by decide)⟩
  unfold chg2
  cases q : ((chg1 l k s == 2) && ((s.s.length : Int) == 0))
  · simp only [cond_false]
    refine ⟨h1.1, fun h e => ?_, h1.2⟩
    rw [h, e] at q; simp at q
  · simp only [cond_true]
    exact ⟨Or.inl trivial, fun h => absurd h (by decide), fun h => absurd h (by decide)⟩

theorem change_sat (l : List Int) (k : Nat) (e cc ct : Int) (s : CP) (gc gl : Int) (ws : List W) (K : SV → List AObj → Prop) (h0 : l.length ≤ lenMax) (h1 : s.h.length ≤ lenMax) (h2 : s.s.length ≤ lenMax) (h3 : s.q.1.length ≤ lenMax)
    (hK : K (cv (changeV l k s e).1) [tC l (.ofNat (changeV l k s e).2), cpC cc ct s.h 2 3 4 5, rsC s.s, rC s.q.1 s.q.2.1 s.q.2.2, rtC s.t.1 s.t.2, rgC gc gl ws]) :
    Sat Try.prog 64 [pv 0, pv 1, iv e] [tC l (.ofNat k), cpC cc ct s.h 2 3 4 5, rsC s.s, rC s.q.1 s.q.2.1 s.q.2.2, rtC s.t.1 s.t.2, rgC gc gl ws] K := by
  obtain ⟨hs, xs, ⟨its, ls, p⟩, ns, rs⟩ := s
  refine fn_satE tabB3 Try.func64 (nfChange l k e cc ct hs xs its ls p ns rs gc gl ws _) ?_
  dsimp only at h1 h2 h3
  have h1' := h1
  have h2' := h2
  have h3' := h3
  unfold lenMax at h1' h2' h3'
  have e1 : wr ((hs.length : Int) + 1) = (hs.length : Int) + 1 := wr_eq (by omega) (by omega)
  have hc := chgC_bound l k
  have e2 : wr (chgC l k - 1) = chgC l k - 1 := wr_eq (by omega) (by omega)
  have hb : (decide (chgC l k < (1 : Int)) || decide (chgC l k > (8 : Int))) = false := by
    simp only [Bool.or_eq_false_iff, decide_eq_false_iff_not]; omega
  have en : chgN l k ⟨hs, xs, (its, ls, p), (ns, rs)⟩ = wr (ns.getD (chgC l k - 1).toNat 0 + 1) := by unfold chgN last26; rw [hb]; rfl
  obtain ⟨hd, hd2, hd4⟩ := chg2_spec l k ⟨hs, xs, (its, ls, p), (ns, rs)⟩
  have e3 : chg0 l k = 1 + nextV l k 4 := rfl
  have e4 : chgC l k = 1 + nextV l (nextK l k) 4 := rfl
  have b1 := nextV_bound l k (n := 4) (by omega)
  have b2 := nextV_bound l (nextK l k) (n := 4) (by omega)
  have z : Ty.zero I = (0 : Int) := rfl
  have q1 : (0 : Int) ≤ chgC l k - 1 ∧ chgC l k - 1 < 8 := by omega
  have q2 : (chgC l k - 1).toNat < 8 := by omega
  unfold changeV at hK
  dsimp only at hK hd hd2 hd4
  simp only [e1, e2, hb, h0, h1, ← en, z, ← e3, ← e4, q1, q2, true_and, and_true, exists_const, forall_const, true_implies, Bool.false_eq_true, false_implies]
  have k1 : ((chg0 l k == 4) && ((its.length : Int) == 0)) = true → (3 : Int) = chg1 l k ⟨hs, xs, (its, ls, p), (ns, rs)⟩ := fun h => by unfold chg1; rw [h]; rfl
  have k2 : ((chg0 l k == 4) && ((its.length : Int) == 0)) = false → chg0 l k = chg1 l k ⟨hs, xs, (its, ls, p), (ns, rs)⟩ := fun h => by unfold chg1; rw [h]; rfl
  have k3 : ((chg1 l k ⟨hs, xs, (its, ls, p), (ns, rs)⟩ == 2) && ((xs.length : Int) == 0)) = true → (1 : Int) = chg2 l k ⟨hs, xs, (its, ls, p), (ns, rs)⟩ := fun h => by unfold chg2; rw [h]; rfl
  have k4 : ((chg1 l k ⟨hs, xs, (its, ls, p), (ns, rs)⟩ == 2) && ((xs.length : Int) == 0)) = false → chg1 l k ⟨hs, xs, (its, ls, p), (ns, rs)⟩ = chg2 l k ⟨hs, xs, (its, ls, p), (ns, rs)⟩ := fun h => by unfold chg2; rw [h]; rfl
  refine ⟨by omega, ⟨k1, k2⟩, ⟨k3, k4⟩, ?_⟩
  clear k1 k2 k3 k4
  generalize chg2 l k ⟨hs, xs, (its, ls, p), (ns, rs)⟩ = d at hd hd2 hd4 hK ⊢
  refine ⟨fun g1 => ?_, fun g1 => ⟨fun g2 => ?_, fun g2 => ⟨fun g3 => ?_, fun g3 => ⟨fun g4 => ?_, fun g4 => ?_⟩⟩⟩⟩
  · rw [g1] at hK
    refine ⟨by omega, by omega, by omega, fun r hr => ⟨by omega, by omega, by omega, fun r1 hr1 => ?_⟩⟩
    subst hr hr1
    exact hK
  · rw [g1, g2] at hK
    have := hd2 (eq_of_beq g2)
    have hb := nextV_bound l (nextK l (nextK l k)) (n := (xs.length : Int)) (by omega)
    exact ⟨by omega, by omega, hb, hK⟩
  · rw [g1, g2, g3] at hK
    refine ⟨by omega, by omega, by omega, fun r hr => ?_⟩
    subst hr
    exact hK
  · rw [g1, g2, g3] at hK
    have := hd4 (eq_of_beq g4)
    have hb := nextV_bound l (nextK l (nextK l k)) (n := (its.length : Int)) (by omega)
    exact ⟨by omega, by omega, hb, hK⟩
  · have n1 := ne_of_beq_false g1
    have n2 := ne_of_beq_false g2
    have n3 := ne_of_beq_false g3
    have n4 := ne_of_beq_false g4
    omega

theorem sat_Change : ∀ vs H K, S_Change.cps vs H K → Sat Try.prog 64 vs H K := by
  intro vs H K h
  unfold S_Change at h
  dsimp only at h
  split at h
  · rename_i e l k cc ct hs xs its ls p ns rs gc gl ws
    exact change_sat l k e cc ct ⟨hs, xs, (its, ls, p), (ns, rs)⟩ gc gl ws K h.1 h.2.1 h.2.2.1 h.2.2.2.1 (h.2.2.2.2 _ rfl)
  · exact h.elim

theorem tabB4 : TabOK Try.prog (look LB4) := look_cons (look_cons tabB3 sat_Change) sat_apply28
end Go.Proofs.Ythjogeodclpafaa.AM
end

section
set_option linter.unusedVariables false
set_option linter.unusedSimpArgs false
set_option maxRecDepth 100000
namespace Go.Proofs.Ythjogeodclpafaa.AM
open Go Go.Proofs.Ythjogeodclpafaa

theorem len24 (xs : List Ce) (x : Ch) : (apply24 xs x).2.length ≤ xs.length + 1 := by
  have := find24_le xs x.2.2.2.2.2.2.1
  unfold apply24
  cases validC x <;> simp only [Bool.not_true, Bool.not_false, cond_true, cond_false]
  · omega
  · cases ((x.2.2.1 == 1) && has24 xs x.2.2.2.2.2.2.1) <;> simp only [cond_true, cond_false]
    · cases (x.2.2.1 == 1) <;> simp only [cond_true, cond_false]
      · cases (x.2.2.1 == 2) <;> simp only [cond_true, cond_false]
        · omega
        · cases has24 xs x.2.2.2.2.2.2.1 <;> simp only [Bool.not_true, Bool.not_false, cond_true, cond_false]
          · omega
          · simp; omega
      · cases decide ((xs.length : Int) ≥ 32) <;> simp only [cond_true, cond_false]
        · simp; omega
        · omega
    · simp

theorem lenR (q : Q) (x : Ch) : (applyR q x).2.1.length ≤ q.1.length + 1 ∧ (applyR q x).2.2.1.length ≤ q.2.1.length := by
  have := dropR_len q.2.1 x.2.2.2.2.2.1
  unfold applyR
  cases validC x <;> simp only [Bool.not_true, Bool.not_false, cond_true, cond_false]
  · omega
  · cases (x.2.2.1 == 3) <;> simp only [cond_true, cond_false]
    · cases (x.2.2.1 == 4) <;> simp only [cond_true, cond_false]
      · omega
      · cases decide (atQ q.1 x.2.2.2.2.2.1 < 0) <;> simp only [cond_true, cond_false]
        · refine ⟨?_, this⟩
          simp; omega
        · omega
    · cases decide (x.2.1 ≤ q.2.2) <;> simp only [cond_true, cond_false]
      · cases decide ((q.1.length : Int) ≥ 16) <;> simp only [cond_true, cond_false]
        · simp
        · omega
      · omega

/-- What applying comes to: nothing, or all parts take the change. -/
theorem apply28_cases (s : CP) (x : Ch) : ((apply28 s x).1 ≠ 0 ∧ (apply28 s x).2 = s) ∨
    (validC x = true ∧ (x.2.1 : Int) = (s.h.length : Int) + 1 ∧ epoch28 s.h ≤ x.1 ∧ (apply26 s.t x).1 = 0 ∧ (apply24 s.s x).1 = 0 ∧ (applyR s.q x).1 = 0 ∧ apply28 s x = (0, ⟨s.h ++ [x], (apply24 s.s x).2, (applyR s.q x).2, (apply26 s.t x).2⟩)) := by
  unfold apply28
  cases h1 : validC x <;> simp only [Bool.not_true, Bool.not_false, cond_true, cond_false]
  · exact .inl ⟨by decide, trivial⟩
  · cases h2 : (x.2.1 != (s.h.length : Int) + 1) || decide (x.1 < epoch28 s.h) <;> simp only [cond_true, cond_false]
    · simp only [Bool.or_eq_false_iff, decide_eq_false_iff_not, bne_eq_false_iff_eq] at h2
      cases h3 : ((apply26 s.t x).1 != 0) <;> simp only [cond_true, cond_false]
      · cases h4 : ((apply24 s.s x).1 != 0) <;> simp only [cond_true, cond_false]
        · cases h5 : ((applyR s.q x).1 != 0) <;> simp only [cond_true, cond_false]
          · exact .inr ⟨trivial, h2.1, Int.not_lt.1 h2.2, by simpa using h3, by simpa using h4, by simpa using h5, trivial⟩
          · exact .inl ⟨by simpa using h5, trivial⟩
        · exact .inl ⟨by simpa using h4, trivial⟩
      · exact .inl ⟨by simpa using h3, trivial⟩
    · exact .inl ⟨by decide, trivial⟩

theorem len28 (s : CP) (x : Ch) : (apply28 s x).2.h.length ≤ s.h.length + 1 ∧ (apply28 s x).2.s.length ≤ s.s.length + 1 ∧ (apply28 s x).2.q.1.length ≤ s.q.1.length + 1 ∧ (apply28 s x).2.q.2.1.length ≤ s.q.2.1.length := by
  rcases apply28_cases s x with ⟨_, h⟩ | ⟨_, _, _, _, _, _, h⟩
  · rw [h]; omega
  · rw [h]
    have h1 := len24 s.s x
    have h2 := lenR s.q x
    refine ⟨by simp, h1, h2.1, h2.2⟩

theorem grow_lens (l : List Int) (g : GS) : ∀ i, (growN l i g).c.h.length ≤ g.c.h.length + i ∧ (growN l i g).c.s.length ≤ g.c.s.length + i ∧ (growN l i g).c.q.1.length ≤ g.c.q.1.length + i ∧ (growN l i g).c.q.2.1.length ≤ g.c.q.2.1.length ∧ g.e ≤ (growN l i g).e ∧ (growN l i g).e ≤ g.e + i
  | 0 => by simp [growN]
  | i + 1 => by
    have ih := grow_lens l g i
    simp only [growN]
    generalize growN l i g = s at ih ⊢
    unfold growStep
    cases decide (s.k < l.length) <;> simp only [cond_true, cond_false]
    · omega
    · have h := len28 s.c (changeV l (nextK l s.k) s.c (bif nextV l s.k 7 == 6 then s.e + 1 else s.e)).1
      refine ⟨by omega, by omega, by omega, by omega, ?_, ?_⟩
      · cases (nextV l s.k 7 == 6) <;> simp only [cond_true, cond_false] <;> omega
      · cases (nextV l s.k 7 == 6) <;> simp only [cond_true, cond_false] <;> omega

theorem grow_stop (l : List Int) (g : GS) (i : Nat) (h : ¬ (growN l i g).k < l.length) : ∀ j, growN l (i + j) g = growN l i g
  | 0 => rfl
  | j + 1 => by
    show growStep l (growN l (i + j) g) = _
    rw [grow_stop l g i h j]
    unfold growStep
    rw [decide_eq_false h]
    rfl

theorem grow_sat (l : List Int) (g : GS) (m : Nat) (cc ct : Int) (gc gl : Int) (ws : List W) (K : SV → List AObj → Prop) (h0 : l.length ≤ lenMax) (h1 : g.c.h.length ≤ 10000) (h2 : g.c.s.length ≤ 10000) (h3 : g.c.q.1.length ≤ 10000) (h4 : g.c.q.2.1.length ≤ 10000) (h5 : 0 ≤ g.e) (h6 : g.e ≤ 1099511627776) (h7 : m ≤ 100)
    (hK : K (.tup []) [tC l (.ofNat (growN l m g).k), cpC cc ct (growN l m g).c.h 6 7 8 5, .dead, .dead, .dead, rgC gc gl ws, rsC (growN l m g).c.s, rC (growN l m g).c.q.1 (growN l m g).c.q.2.1 (growN l m g).c.q.2.2, rtC (growN l m g).c.t.1 (growN l m g).c.t.2]) :
    Sat Try.prog 49 [pv 0, pv 1, iv g.e, iv m] [tC l (.ofNat g.k), cpC cc ct g.c.h 2 3 4 5, rsC g.c.s, rC g.c.q.1 g.c.q.2.1 g.c.q.2.2, rtC g.c.t.1 g.c.t.2, rgC gc gl ws] K := by
  obtain ⟨k, e, hs, xs, ⟨its, ls, p⟩, ns, rs⟩ := g
  refine fn_satE tabB4 Try.func49 (nfGrow l k e m cc ct hs xs its ls p ns rs gc gl ws _) ?_
  have hlen := grow_lens l ⟨k, e, hs, xs, (its, ls, p), (ns, rs)⟩
  have hstop := grow_stop l ⟨k, e, hs, xs, (its, ls, p), (ns, rs)⟩
  have hstep : ∀ i, growN l (i + 1) ⟨k, e, hs, xs, (its, ls, p), (ns, rs)⟩ = growStep l (growN l i ⟨k, e, hs, xs, (its, ls, p), (ns, rs)⟩) := fun _ => rfl
  dsimp only at h1 h2 h3 h4 h5 h6 hlen
  simp only [Int.toNat_natCast]
  refine ⟨⟨0, (by repeat' (first | trivial | apply And.intro)), Nat.zero_le _⟩, fun i hi => ?_⟩
  have hi' := hlen i
  have hs1 := hstep i
  have fin : ¬ (growN l i ⟨k, e, hs, xs, (its, ls, p), (ns, rs)⟩).k < l.length ∨ i = m → growN l m ⟨k, e, hs, xs, (its, ls, p), (ns, rs)⟩ = growN l i ⟨k, e, hs, xs, (its, ls, p), (ns, rs)⟩ := by
    rintro (h | h)
    · have := hstop i h (m - i)
      rw [show i + (m - i) = m by omega] at this
      exact this
    · rw [h]
  unfold lenMax at h0 ⊢
  generalize hG : growN l i ⟨k, e, hs, xs, (its, ls, p), (ns, rs)⟩ = G at hi' hs1 fin ⊢
  obtain ⟨Gk, Ge, Gh, Gs, ⟨Gi, Gl, Gp⟩, Gn, Gr⟩ := G
  dsimp only at hi' hs1 fin ⊢
  have ew : wr (Ge + 1) = Ge + 1 := wr_eq (by omega) (by omega)
  have ei : wr ((i : Int) + 1) = ((i + 1 : Nat) : Int) := by rw [wr_eq (by omega) (by omega)]; rfl
  rw [ew, ei]
  have step : ∀ E : Int, (bif nextV l Gk 7 == 6 then Ge + 1 else Ge) = E → Gk < l.length → i < m → ∀ (r : Ch × Nat), r = changeV l (nextK l Gk) ⟨Gh, Gs, (Gi, Gl, Gp), (Gn, Gr)⟩ E → ∀ (r_1 : Int × CP), r_1 = apply28 ⟨Gh, Gs, (Gi, Gl, Gp), (Gn, Gr)⟩ r.1 → growN l (i + 1) ⟨k, e, hs, xs, (its, ls, p), (ns, rs)⟩ = ⟨r.2, E, r_1.2⟩ := by
    intro E hE hk him r hr r1 hr1
    rw [hs1]
    unfold growStep
    dsimp only
    rw [decide_eq_true hk, cond_true, hE, hr1, hr]
  refine ⟨fun hlt => ⟨fun hk => ⟨by omega, by omega, h0, fun q => ?_, fun q => ?_⟩, fun hk => ?_⟩, fun hge => ?_⟩
  · have hk' : Gk < l.length := by
      have : Int.ofNat Gk = (Gk : Int) := rfl
      simp only [decide_eq_true_eq] at hk; omega
    have him : i < m := by simp only [decide_eq_true_eq] at hlt; omega
    refine ⟨h0, by omega, by omega, by omega, fun r hr => ⟨by omega, by omega, by omega, by omega, fun r1 hr1 => ⟨i + 1, ?_, by omega, by omega⟩⟩⟩
    have := step (Ge + 1) (by rw [q]; rfl) hk' him r hr r1 hr1
    rw [this]
    repeat' (first | trivial | apply And.intro)
  · have hk' : Gk < l.length := by
      have : Int.ofNat Gk = (Gk : Int) := rfl
      simp only [decide_eq_true_eq] at hk; omega
    have him : i < m := by simp only [decide_eq_true_eq] at hlt; omega
    refine ⟨h0, by omega, by omega, by omega, fun r hr => ⟨by omega, by omega, by omega, by omega, fun r1 hr1 => ⟨i + 1, ?_, by omega, by omega⟩⟩⟩
    have := step Ge (by rw [q]; rfl) hk' him r hr r1 hr1
    rw [this]
    repeat' (first | trivial | apply And.intro)
  · have hk' : ¬ Gk < l.length := by
      have : Int.ofNat Gk = (Gk : Int) := rfl
      simp only [decide_eq_false_iff_not] at hk; omega
    rw [fin (.inl hk')] at hK
    exact hK
  · have him : i = m := by simp only [decide_eq_false_iff_not] at hge; omega
    rw [fin (.inr him)] at hK
    exact hK

theorem sat_Grow : ∀ vs H K, S_Grow.cps vs H K → Sat Try.prog 49 vs H K := by
  intro vs H K h
  unfold S_Grow at h
  dsimp only at h
  split at h
  · rename_i e m l k cc ct hs xs its ls p ns rs gc gl ws
    obtain ⟨a0, a1, a2, a3, a4, a5, a6, a7, a8, hK⟩ := h
    obtain ⟨n, rfl⟩ := Int.eq_ofNat_of_zero_le a7
    exact grow_sat l ⟨k, e, hs, xs, (its, ls, p), (ns, rs)⟩ n cc ct gc gl ws K a0 a1 a2 a3 a4 a5 a6 (by omega) (hK _ rfl)
  · exact h.elim

theorem tabB5 : TabOK Try.prog (look LB5) := look_cons tabB4 sat_Grow

theorem sat_History : ∀ vs H K, S_History.cps vs H K → Sat Try.prog 19 vs H K := by
  intro vs H K h
  unfold S_History at h
  dsimp only at h
  split at h
  · rename_i l
    refine fn_satE tabB5 Try.func19 (nfHistory l _) ?_
    exact ⟨h.1, by omega, by omega, by omega, by omega, by omega, by omega, by omega, by omega, fun r hr => by subst hr; exact h.2⟩
  · exact h.elim

theorem tabB6 : TabOK Try.prog (look LB6) := look_cons tabB5 sat_History
end Go.Proofs.Ythjogeodclpafaa.AM
end
