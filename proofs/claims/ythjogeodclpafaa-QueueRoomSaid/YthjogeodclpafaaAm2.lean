/- What abstract values and heaps stand for in a world of the model; what is kept from world to world. -/
import Derived.Test.YthjogeodclpafaaAm1
import Derived.Laws.AppendOwn
import Derived.Below
set_option linter.unusedVariables false
set_option linter.unusedSimpArgs false
namespace Go.Proofs.Ythjogeodclpafaa.AM
open Go

/-- A list of cells that is the pieces of the elements, one after the other. -/
def EncAll {α : Type} (R : α → List Value → Prop) : List α → List Value → Prop
  | [], cs => cs = []
  | x :: xs, cs => ∃ c1 c2, cs = c1 ++ c2 ∧ R x c1 ∧ EncAll R xs c2

/-- A slice of n elements whose cells, in frozen blocks, are 'cs'. -/
def FrozenAt (Z : Nat → Prop) (w : World) (R : List Value → Prop) (n : Nat) (v : Value) : Prop :=
  ∃ A c cs, v = .slice A n c ∧ n ≤ c ∧ c ≤ maxLen ∧ R cs ∧
    (n ≠ 0 → ∃ ad, A = some ad ∧ ad.spot = none ∧ Z ad.block ∧ ∀ j u, cs[j]? = some u → w.cell? (ad.add j) = some u)

def Ty.Enc (Z : Nat → Prop) (w : World) : (τ : Ty) → τ.D → List Value → Prop
  | .int k, n, cs => cs = [.int k n]
  | .bool, b, cs => cs = [.bool b]
  | .str, s, cs => cs = [.string s]
  | .pair a b, x, cs => ∃ c1 c2, cs = c1 ++ c2 ∧ a.Enc Z w x.1 c1 ∧ b.Enc Z w x.2 c2
  | .sl _ a, xs, cs => ∃ v, cs = [v] ∧ FrozenAt Z w (EncAll (a.Enc Z w) xs) xs.length v
  | .arr n a, xs, cs => xs.length = n ∧ EncAll (a.Enc Z w) xs cs

def CapsOK (β : List Value) : List Nat → List Value → Prop
  | [], vs => vs = []
  | n :: ns, vs => ∃ b r, vs = .pointer (some ⟨b, 0, none⟩) :: r ∧ β[n]? = some (.pointer (some ⟨b, 0, none⟩)) ∧ CapsOK β ns r

def BV.conc (β : List Value) (Z : Nat → Prop) (w : World) : BV → List Value → Prop
  | .any, cs => ∃ v, cs = [v] ∧ v.oneCell' = true
  | .int k n, cs => cs = [.int k n]
  | .bool b, cs => cs = [.bool b]
  | .lit b, cs => cs = [.bool b]
  | .str s, cs => cs = [.string s]
  | .nilp, cs => cs = [.pointer none]
  | .nils, cs => cs = [.slice none 0 0]
  | .nilm, cs => cs = [.map none]
  | .nilf, cs => cs = [.nilFunc]
  | .ptr n off, cs => ∃ b, β[n]? = some (.pointer (some ⟨b, 0, none⟩)) ∧ cs = [.pointer (some ⟨b, off, none⟩)]
  | .eptr n wd i off, cs => ∃ b m c, β[n]? = some (.slice (some ⟨b, 0, none⟩) m c) ∧ cs = [.pointer (some ⟨b, i * wd + off, none⟩)]
  | .fptr τ x off, cs => ∃ b o es, cs = [.pointer (some ⟨b, o + off, none⟩)] ∧ Z b ∧ τ.Enc Z w x es ∧
      ∀ j u, es[j]? = some u → w.cell? ⟨b, o + j, none⟩ = some u
  | .aptr n off _ wd i o, cs => ∃ b, β[n]? = some (.pointer (some ⟨b, 0, none⟩)) ∧ cs = [.pointer (some ⟨b, off + i * wd + o, none⟩)]
  | .hd n, cs => ∃ A m c, β[n]? = some (.slice A m c) ∧ cs = [.slice A m c]
  | .sub n wd lo len, cs => ∃ A m c A' c', β[n]? = some (.slice A m c) ∧ cs = [.slice A' len c'] ∧ lo + len ≤ m ∧ m ≤ c ∧ lo + c' = c ∧ c ≤ maxLen ∧
      (len ≠ 0 → ∃ b, A = some ⟨b, 0, none⟩ ∧ A' = some ⟨b, lo * wd, none⟩)
  | .fsl _ τ xs, cs => ∃ v, cs = [v] ∧ FrozenAt Z w (EncAll (τ.Enc Z w) xs) xs.length v
  | .map n, cs => ∃ b, β[n]? = some (.map (some b)) ∧ cs = [.map (some b)]
  | .fn f caps, cs => ∃ vs, cs = [.func (.func f) #[] vs.toArray] ∧ CapsOK β caps vs
  | .arr m τ xs, cs => xs.length = m ∧ EncAll (τ.Enc Z w) xs cs
  | .nz t p, cs => ∃ b, cs = [.bool b] ∧ (b = t → p)
  | .pre n len, cs => ∃ A m c, β[n]? = some (.slice A m c) ∧ cs = [.slice A len c] ∧ len ≤ m ∧ m ≤ c ∧ c ≤ maxLen
  | .prec n len, cs => ∃ A m c, β[n]? = some (.slice A m c) ∧ cs = [.slice A len c] ∧ len ≤ c ∧ c ≤ maxLen
  | .win n wd lo len, cs => ∃ A m c A' c', β[n]? = some (.slice A m c) ∧ cs = [.slice A' len c'] ∧ lo + len ≤ c ∧ lo + c' = c ∧ c ≤ maxLen ∧
      (len ≠ 0 → ∃ b, A = some ⟨b, 0, none⟩ ∧ A' = some ⟨b, lo * wd, none⟩)

def ConcL (β : List Value) (Z : Nat → Prop) (w : World) : List BV → List Value → Prop
  | [], vs => vs = []
  | c :: cs, vs => ∃ v1 v2, vs = v1 ++ v2 ∧ c.conc β Z w v1 ∧ ConcL β Z w cs v2

def TV.conc (β : List Value) (Z : Nat → Prop) (w : World) : TV → Value → Prop
  | .one v, x => v.conc β Z w [x]
  | .agg cs, x => ∃ vs, x = .agg vs ∧ ConcL β Z w cs vs.toList

def TVs (β : List Value) (Z : Nat → Prop) (w : World) : List TV → List Value → Prop
  | [], xs => xs = []
  | t :: ts, xs => ∃ x r, xs = x :: r ∧ t.conc β Z w x ∧ TVs β Z w ts r

def SV.conc (β : List Value) (Z : Nat → Prop) (w : World) : SV → Value → Prop
  | .any, _ => True
  | .t v, x => v.conc β Z w x
  | .tup ts, x => ∃ xs, x = .tuple xs ∧ TVs β Z w ts xs.toList
  | .cond _ g v, x => (g = true → v.conc β Z w x) ∧ (g = false → x = undef)

/-- A value by its cells: one cell by itself, or an aggregate. -/
def valOf (agg : Bool) (cs : List Value) : Value := if agg then .agg cs.toArray else cs.headD undef

def MapEnc {κ τ : Ty} (agg : Bool) (Z : Nat → Prop) (w : World) : List (κ.D × τ.D) → List MapEntry → Prop
  | [], ms => ms = []
  | (k, x) :: r, ms => ∃ e ms', ms = e :: ms' ∧ κ.Enc Z w k [e.key] ∧ (∃ cv, e.val = valOf agg cv ∧ τ.Enc Z w x cv) ∧ MapEnc agg Z w r ms'

/-- The cells of a slice's block from the k-th on are elements of the type as well. -/
def Spare (τ : Ty) (Z : Nat → Prop) (w : World) (v : Value) (k : Nat) : Prop :=
  ∀ (g n cap : Nat) (cur : Array Value) (t : TypeId) (o : Nat × Nat), v = .slice (some ⟨g, 0, none⟩) n cap → w.heap[g]? = some (.cells cur t o) → ∃ js, EncAll (τ.Enc Z w) js (cur.toList.drop k)

def ObjOK (β : List Value) (Z : Nat → Prop) (w : World) (v : Value) : AObj → Prop
  | .cells t cs => ∃ b vs, v = .pointer (some ⟨b, 0, none⟩) ∧ w.heap[b]? = some (.cells vs t (0, 0)) ∧ ConcL β Z w cs vs.toList
  | .row e τ xs => ∃ cs, w.ownsRow 0 e τ.wd v xs.length cs ∧ EncAll (τ.Enc Z w) xs cs ∧ Spare τ Z w v (xs.length * τ.wd)
  | .map agg κ τ es => ∃ b ms clock, v = .map (some b) ∧ w.heap[b]? = some (.map ms clock) ∧ MapEnc (κ := κ) (τ := τ) agg Z w es ms.toList
  | .frow _ τ xs => FrozenAt Z w (EncAll (τ.Enc Z w) xs) xs.length v ∧ ∀ A n c, v = .slice A n c → n ≠ 0 → ∃ b, A = some ⟨b, 0, none⟩
  | .buf e τ ys k => ∃ A cs, v = .slice A k ys.length ∧ k ≤ ys.length ∧ w.ownsRow 0 e τ.wd (.slice A ys.length ys.length) ys.length cs ∧ EncAll (τ.Enc Z w) ys cs
  | .dead => True

def blockOf : Value → Option Nat
  | .pointer (some a) => some a.block
  | .slice (some a) _ _ => some a.block
  | .map (some b) => some b
  | _ => none

def AObj.live : AObj → Bool
  | .frow _ _ _ => false
  | .dead => false
  | _ => true

/-- The blocks that belong to a heap's live objects. -/
def LiveB (β : List Value) (H : List AObj) (b : Nat) : Prop := ∃ (n : Nat) (o : AObj) (v : Value), H[n]? = some o ∧ o.live = true ∧ β[n]? = some v ∧ blockOf v = some b

structure HeapOK (β : List Value) (H : List AObj) (Z : Nat → Prop) (w : World) : Prop where
  len : β.length = H.length
  objs : ∀ (n : Nat) (o : AObj) (v : Value), H[n]? = some o → β[n]? = some v → ObjOK β Z w v o
  apart : ∀ (n m : Nat) (o p : AObj) (u v : Value) (b : Nat), H[n]? = some o → H[m]? = some p → o.live = true → p.live = true → β[n]? = some u → β[m]? = some v →
    blockOf u = some b → blockOf v = some b → n = m
  frz : ∀ b, LiveB β H b → ¬ Z b
  zlt : ∀ b, Z b → b < w.heap.size

/-- From world to world: nothing has turned but the blocks of 'L' and what is new. -/
structure Keep (L : Nat → Prop) (w w' : World) : Prop where
  os : w'.os = w.os
  tape : w'.tape = w.tape
  output : w'.output = w.output
  size : w.heap.size ≤ w'.heap.size
  block : ∀ b, b < w.heap.size → ¬ L b → w'.heap[b]? = w.heap[b]?

theorem Keep.refl (L : Nat → Prop) (w : World) : Keep L w w := ⟨rfl, rfl, rfl, Nat.le_refl _, fun _ _ _ => rfl⟩
theorem Keep.drew {L : Nat → Prop} {w w' : World} (h : Keep L w w') : Keep L w w'.drew := ⟨h.os, h.tape, h.output, h.size, h.block⟩
theorem Keep.mono {L L' : Nat → Prop} {w w' : World} (h : Keep L w w') (hL : ∀ b, L b → L' b) : Keep L' w w' :=
  ⟨h.os, h.tape, h.output, h.size, fun b hb hn => h.block b hb fun hl => hn (hL b hl)⟩
theorem Keep.trans {L L' : Nat → Prop} {a b c : World} (h : Keep L a b) (k : Keep L' b c) (hL : ∀ x, x < a.heap.size → L' x → L x) : Keep L a c :=
  ⟨k.os.trans h.os, k.tape.trans h.tape, k.output.trans h.output, Nat.le_trans h.size k.size, fun x hx hn =>
    (k.block x (Nat.lt_of_lt_of_le hx h.size) fun hl => hn (hL x hx hl)).trans (h.block x hx hn)⟩
theorem Keep.alloc {L : Nat → Prop} {w w' : World} (h : Keep L w w') (o : Obj) : Keep L w (w'.alloc o) :=
  h.trans (L' := fun _ => False) ⟨rfl, rfl, rfl, by simp, fun b hb _ => heap_alloc_old _ _ _ hb⟩ (fun _ _ h => h.elim)

/-! ### What is kept when frozen blocks stay as they are -/
structure ZKeep (Z Z' : Nat → Prop) (w w' : World) : Prop where
  sub : ∀ b, Z b → Z' b
  block : ∀ b, Z b → w'.heap[b]? = w.heap[b]?

theorem EncAll.mono {α : Type} {R R' : α → List Value → Prop} (h : ∀ x cs, R x cs → R' x cs) : ∀ {xs : List α} {cs : List Value}, EncAll R xs cs → EncAll R' xs cs
  | [], _, hh => hh
  | _ :: _, _, ⟨c1, c2, e, h1, h2⟩ => ⟨c1, c2, e, h _ _ h1, EncAll.mono h h2⟩

theorem ZKeep.cell {Z Z' : Nat → Prop} {w w' : World} (k : ZKeep Z Z' w w') {a : Addr} (h : Z a.block) : w'.cell? a = w.cell? a := World.cell?_of_block (k.block _ h)

theorem Addr.add_block (a : Addr) (j : Nat) : (a.add j).block = a.block := by unfold Addr.add; split <;> rfl

theorem FrozenAt.mono {Z Z' : Nat → Prop} {w w' : World} (k : ZKeep Z Z' w w') {R R' : List Value → Prop} (hR : ∀ cs, R cs → R' cs) {n : Nat} {v : Value} (h : FrozenAt Z w R n v) : FrozenAt Z' w' R' n v := by
  obtain ⟨A, c, cs, e, h1, h2, h3, h4⟩ := h
  refine ⟨A, c, cs, e, h1, h2, hR _ h3, fun hn => ?_⟩
  obtain ⟨ad, e1, e2, e3, e4⟩ := h4 hn
  exact ⟨ad, e1, e2, k.sub _ e3, fun j u hj => (k.cell (by rw [Addr.add_block]; exact e3)).trans (e4 j u hj)⟩

theorem Ty.Enc.mono {Z Z' : Nat → Prop} {w w' : World} (k : ZKeep Z Z' w w') : ∀ (τ : Ty) {x : τ.D} {cs : List Value}, τ.Enc Z w x cs → τ.Enc Z' w' x cs
  | .int _, _, _, h => h
  | .bool, _, _, h => h
  | .str, _, _, h => h
  | .pair a b, _, _, ⟨c1, c2, e, h1, h2⟩ => ⟨c1, c2, e, Ty.Enc.mono k a h1, Ty.Enc.mono k b h2⟩
  | .sl _ a, _, _, ⟨v, e, h⟩ => ⟨v, e, h.mono k fun _ hh => hh.mono fun _ _ => Ty.Enc.mono k a⟩
  | .arr _ a, _, _, ⟨e, h⟩ => ⟨e, h.mono fun _ _ => Ty.Enc.mono k a⟩

theorem get_app {β ext : List Value} {n : Nat} {v : Value} (h : β[n]? = some v) : (β ++ ext)[n]? = some v := by
  have hn : n < β.length := (List.getElem?_eq_some_iff.1 h).1
  rw [List.getElem?_append_left hn]; exact h

theorem CapsOK.mono {β ext : List Value} : ∀ {ns : List Nat} {vs : List Value}, CapsOK β ns vs → CapsOK (β ++ ext) ns vs
  | [], _, h => h
  | _ :: _, _, ⟨b, r, e, h, hr⟩ => ⟨b, r, e, get_app h, CapsOK.mono hr⟩

theorem BV.conc.mono {β ext : List Value} {Z Z' : Nat → Prop} {w w' : World} (k : ZKeep Z Z' w w') : ∀ {v : BV} {cs : List Value}, v.conc β Z w cs → v.conc (β ++ ext) Z' w' cs
  | .any, _, h => h
  | .int _ _, _, h => h
  | .bool _, _, h => h
  | .lit _, _, h => h
  | .str _, _, h => h
  | .nilp, _, h => h
  | .nils, _, h => h
  | .nilm, _, h => h
  | .nilf, _, h => h
  | .ptr _ _, _, ⟨b, h, e⟩ => ⟨b, get_app h, e⟩
  | .eptr _ _ _ _, _, ⟨b, m, c, h, e⟩ => ⟨b, m, c, get_app h, e⟩
  | .fptr τ _ _, _, ⟨b, o, es, e, hz, he, hc⟩ => ⟨b, o, es, e, k.sub _ hz, he.mono k, fun j u hj => (k.cell (a := ⟨b, o + j, none⟩) hz).trans (hc j u hj)⟩
  | .aptr _ _ _ _ _ _, _, ⟨b, h, e⟩ => ⟨b, get_app h, e⟩
  | .hd _, _, ⟨A, m, c, h, e⟩ => ⟨A, m, c, get_app h, e⟩
  | .sub _ _ _ _, _, ⟨A, m, c, A', c', h, r⟩ => ⟨A, m, c, A', c', get_app h, r⟩
  | .fsl _ τ _, _, ⟨v, e, h⟩ => ⟨v, e, h.mono k fun _ hh => hh.mono fun _ _ => Ty.Enc.mono k τ⟩
  | .map _, _, ⟨b, h, e⟩ => ⟨b, get_app h, e⟩
  | .fn _ _, _, ⟨vs, e, h⟩ => ⟨vs, e, h.mono⟩
  | .arr _ τ _, _, ⟨e, h⟩ => ⟨e, h.mono fun _ _ => Ty.Enc.mono k τ⟩
  | .nz _ _, _, h => h
  | .pre _ _, _, ⟨A, m, c, h, e⟩ => ⟨A, m, c, get_app h, e⟩
  | .prec _ _, _, ⟨A, m, c, h, e⟩ => ⟨A, m, c, get_app h, e⟩
  | .win _ _ _ _, _, ⟨A, m, c, A', c', h, r⟩ => ⟨A, m, c, A', c', get_app h, r⟩

theorem ConcL.mono {β ext : List Value} {Z Z' : Nat → Prop} {w w' : World} (k : ZKeep Z Z' w w') : ∀ {cs : List BV} {vs : List Value}, ConcL β Z w cs vs → ConcL (β ++ ext) Z' w' cs vs
  | [], _, h => h
  | _ :: _, _, ⟨v1, v2, e, h1, h2⟩ => ⟨v1, v2, e, h1.mono k, ConcL.mono k h2⟩

theorem TV.conc.mono {β ext : List Value} {Z Z' : Nat → Prop} {w w' : World} (k : ZKeep Z Z' w w') : ∀ {t : TV} {x : Value}, t.conc β Z w x → t.conc (β ++ ext) Z' w' x
  | .one _, _, h => BV.conc.mono k h
  | .agg _, _, ⟨vs, e, h⟩ => ⟨vs, e, h.mono k⟩

theorem TVs.mono {β ext : List Value} {Z Z' : Nat → Prop} {w w' : World} (k : ZKeep Z Z' w w') : ∀ {ts : List TV} {xs : List Value}, TVs β Z w ts xs → TVs (β ++ ext) Z' w' ts xs
  | [], _, h => h
  | _ :: _, _, ⟨x, r, e, h1, h2⟩ => ⟨x, r, e, h1.mono k, TVs.mono k h2⟩

theorem SV.conc.mono {β ext : List Value} {Z Z' : Nat → Prop} {w w' : World} (k : ZKeep Z Z' w w') : ∀ {t : SV} {x : Value}, t.conc β Z w x → t.conc (β ++ ext) Z' w' x
  | .any, _, _ => trivial
  | .t _, _, h => TV.conc.mono k h
  | .tup _, _, ⟨xs, e, h⟩ => ⟨xs, e, h.mono k⟩
  | .cond _ _ _, _, h => ⟨fun hb => (h.1 hb).mono k, h.2⟩

theorem ZKeep.refl (Z : Nat → Prop) (w : World) : ZKeep Z Z w w := ⟨fun _ h => h, fun _ _ => rfl⟩
theorem ZKeep.drew (Z : Nat → Prop) (w : World) : ZKeep Z Z w w.drew := ⟨fun _ h => h, fun _ _ => rfl⟩

theorem MapEnc.mono {κ τ : Ty} {agg : Bool} {Z Z' : Nat → Prop} {w w' : World} (k : ZKeep Z Z' w w') : ∀ {es : List (κ.D × τ.D)} {ms : List MapEntry}, MapEnc agg Z w es ms → MapEnc agg Z' w' es ms
  | [], _, h => h
  | _ :: _, _, ⟨e, ms', h, h1, ⟨cv, e2, h2⟩, hr⟩ => ⟨e, ms', h, h1.mono k, ⟨cv, e2, h2.mono k⟩, hr.mono k⟩

theorem ownsRow_block {w w' : World} {base : Nat} {e : TypeId} {size n : Nat} {v : Value} {xs : List Value} (h : w.ownsRow base e size v n xs) (hb : ∀ b, blockOf v = some b → w'.heap[b]? = w.heap[b]?) : w'.ownsRow base e size v n xs := by
  refine ⟨h.1, ?_⟩
  rcases h.2 with hn | ⟨g, cap, cur, rfl, h1, h2, rest⟩
  · exact .inl hn
  · exact .inr ⟨g, cap, cur, rfl, h1, (hb g rfl).trans h2, rest⟩

theorem Spare.mono {τ : Ty} {Z Z' : Nat → Prop} {w w' : World} (k : ZKeep Z Z' w w') {v : Value} (hb : ∀ b, blockOf v = some b → w'.heap[b]? = w.heap[b]?) {n : Nat} (h : Spare τ Z w v n) : Spare τ Z' w' v n := by
  intro g m cap cur t o e hg
  obtain ⟨js, hj⟩ := h g m cap cur t o e (by rw [← hb g (by rw [e]; rfl)]; exact hg)
  exact ⟨js, hj.mono fun _ _ => Ty.Enc.mono k τ⟩

/-- An object whose own block stays as it is. -/
theorem ObjOK.mono {β ext : List Value} {Z Z' : Nat → Prop} {w w' : World} (k : ZKeep Z Z' w w') {v : Value} : ∀ {o : AObj}, (o.live = true → ∀ b, blockOf v = some b → w'.heap[b]? = w.heap[b]?) → ObjOK β Z w v o → ObjOK (β ++ ext) Z' w' v o
  | .cells _ _, hb, ⟨b, vs, e, h1, h2⟩ => ⟨b, vs, e, (hb rfl b (by rw [e]; rfl)).trans h1, h2.mono k⟩
  | .row _ τ _, hb, ⟨cs, h1, h2, h3⟩ => ⟨cs, ownsRow_block h1 (hb rfl), h2.mono fun _ _ => Ty.Enc.mono k τ, h3.mono k (hb rfl)⟩
  | .map _ _ _ _, hb, ⟨b, ms, cl, e, h1, h2⟩ => ⟨b, ms, cl, e, (hb rfl b (by rw [e]; rfl)).trans h1, h2.mono k⟩
  | .frow _ τ _, _, ⟨h, hA⟩ => ⟨h.mono k fun _ hh => hh.mono fun _ _ => Ty.Enc.mono k τ, hA⟩
  | .buf _ τ _ _, hb, ⟨A, cs, e, h1, h2, h3⟩ => ⟨A, cs, e, h1, ownsRow_block h2 (fun b hbb => hb rfl b (by rw [e]; cases A with | none => cases hbb | some a => exact hbb)), h3.mono fun _ _ => Ty.Enc.mono k τ⟩
  | .dead, _, _ => trivial

theorem app_nil_conc {P : List Value → Prop} {β : List Value} (h : P (β ++ [])) : P β := by simpa using h

end Go.Proofs.Ythjogeodclpafaa.AM
