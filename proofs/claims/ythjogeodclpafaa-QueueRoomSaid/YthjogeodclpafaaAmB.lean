/- Slices up to their capacity: rows opened to buffers, windows, copies, clears, appends to prefixes: definitions and that they are right. -/
import Derived.Test.YthjogeodclpafaaAm14
import Derived.Lib.AppendZerosOnto
import Derived.Laws.Externs
set_option linter.unusedVariables false
set_option linter.unusedSimpArgs false
namespace Go.Proofs.Ythjogeodclpafaa.AM
open Go

def conj : List Prop → Prop → Prop
  | [], q => q
  | p :: ps, q => p ∧ conj ps q

/-- Elements from 'lo' on are written over. -/
def spl {α : Type} (xs : List α) (lo : Nat) (zs : List α) : List α := xs.take lo ++ (zs ++ xs.drop (lo + zs.length))

theorem length_spl {α : Type} (xs : List α) (lo : Nat) (zs : List α) (h : lo + zs.length ≤ xs.length) : (spl xs lo zs).length = xs.length := by
  simp only [spl, List.length_append, List.length_take, List.length_drop]; omega

/-- The row of a name is opened to its whole capacity. -/
def openK (H : List AObj) (n : Nat) (τ : Ty) (K : List AObj → TypeId → List τ.D → Nat → Prop) : Prop :=
  match objAt H n with
  | .row e a xs => match decEq a τ with
    | isTrue q => ∀ js : List τ.D, xs.length + js.length ≤ 9223372036854775807 → K (H.set n (.buf e τ (castL q xs ++ js) xs.length)) e (castL q xs ++ js) xs.length
    | isFalse _ => False
  | .buf e a ys k => match decEq a τ with
    | isTrue q => K H e (castL q ys) k
    | isFalse _ => False
  | _ => False

/-- Name, begin and length of a slice of an object of our own. -/
def spanOf (H : List AObj) (wd : Nat) (v : BV) : Option (Nat × Nat × Nat) :=
  match v with
  | .hd n => match lenOf H (.hd n) with
    | some l => some (n, 0, l)
    | none => none
  | .pre n len => match lenOf H (.hd n) with
    | some _ => some (n, 0, len)
    | none => none
  | .prec n len => match objAt H n with
    | .buf _ _ _ _ => some (n, 0, len)
    | _ => none
  | .sub n wd' lo len => match Nat.beq wd wd' with
    | true => some (n, lo, len)
    | false => none
  | .win n wd' lo len => match Nat.beq wd wd' with
    | true => some (n, lo, len)
    | false => none
  | _ => none

/-- Elements of an object are written over. -/
def overw (H : List AObj) (n lo : Nat) (τ : Ty) (zs : List τ.D) : Option (List Prop × List AObj) :=
  match objAt H n with
  | .row e a xs => match decEq a τ with
    | isTrue q => some ([lo + zs.length ≤ xs.length], H.set n (.row e τ (spl (castL q xs) lo zs)))
    | isFalse _ => none
  | .buf e a ys k => match decEq a τ with
    | isTrue q => some ([lo + zs.length ≤ ys.length], H.set n (.buf e τ (spl (castL q ys) lo zs) k))
    | isFalse _ => none
  | _ => none

def nameOf : BV → Option Nat
  | .hd n => some n
  | .pre n _ => some n
  | .prec n _ => some n
  | _ => none

def capK (P : Program) (H : List AObj) (ts : List TypeId) (v : BV) (K : SV → List AObj → Prop) : Prop :=
  match ts with
  | t :: _ => match elemOf? P t with
    | some (_, τ, _) => match v with
      | .nils => K (.b (.int .i64 0)) H
      | v => match nameOf v with
        | some n => openK H n τ fun H' _ ys _ => K (.b (.int .i64 (ys.length : Nat))) H'
        | none => False
    | none => False
  | [] => False

def copyK (P : Program) (H : List AObj) (ts : List TypeId) (d x : BV) (K : SV → List AObj → Prop) : Prop :=
  match ts with
  | t :: _ => match elemOf? P t with
    | some (_, τ, _) => match spanOf H τ.wd d, listOf H τ x with
      | some (n, lo, len), some ys => match overw H n lo τ (ys.take len) with
        | some (obs, H') => conj obs (K (.b (.int .i64 (min ys.length len : Nat))) H')
        | none => False
      | _, _ => False
    | none => False
  | [] => False

def clearK (P : Program) (H : List AObj) (ts : List TypeId) (d : BV) (K : SV → List AObj → Prop) : Prop :=
  match ts with
  | t :: _ => match elemOf? P t with
    | some (e, τ, _) => match d with
      | .nils => K .any H
      | d => match zeroOK P e (aggOf P e) τ, spanOf H τ.wd d with
        | true, some (n, lo, len) => match overw H n lo τ (List.replicate len τ.zero) with
          | some (obs, H') => conj obs (K .any H')
          | none => False
        | _, _ => False
    | none => False
  | [] => False

/-- What is appended: the elements of a slice, or that many zeros. -/
def newsOf (P : Program) (H : List AObj) (τ : Ty) (bytes : Nat) (t t' : TypeId) (x : BV) : Option (List Prop × List τ.D) :=
  match Nat.beq t t' with
  | true => match listOf H τ x with
    | some ys => some ([], ys)
    | none => none
  | false => match P.underlying t', x with
    | some (.int _), .int _ n => some ([0 ≤ n, n * (bytes : Int) ≤ 140737488355328, n ≤ 140737488355328], List.replicate n.toNat τ.zero)
    | _, _ => none

/-- The length of a slice that begins at its block's begin. -/
def headLen (H : List AObj) : BV → Option Nat
  | .hd n => lenOf H (.hd n)
  | .pre _ len => some len
  | .prec _ len => some len
  | _ => none

def appendK (P : Program) (H : List AObj) (ts : List TypeId) (s x : BV) (K : SV → List AObj → Prop) : Prop :=
  match ts with
  | [t, t'] => match elemOf? P t with
    | some (e, τ, bytes) => match zeroOK P e (aggOf P e) τ, newsOf P H τ bytes t t' x with
      | true, some (obs, zs) => conj obs (match s with
        | .nils => conj [((zs.length : Nat) : Int) * bytes ≤ 140737488355328, ((zs.length : Nat) : Int) ≤ 140737488355328] (K (.b (.hd H.length)) (H ++ [.row e τ zs]))
        | s => match nameOf s, headLen H s with
          | some n, some len => openK H n τ fun H' e' ys k => match Nat.beq e e' with
            | true => conj [len ≤ ys.length] ((len + zs.length ≤ ys.length → K (.b (.prec n (len + zs.length))) (H'.set n (.buf e τ (spl ys len zs) k))) ∧
                (ys.length < len + zs.length → conj [((len + zs.length : Nat) : Int) * bytes ≤ 140737488355328, ((len + zs.length : Nat) : Int) ≤ 140737488355328]
                  (K (.b (.hd H'.length)) (H' ++ [.row e τ (ys.take len ++ zs)]))))
            | false => False
          | _, _ => False)
      | _, _ => False
    | none => False
  | _ => False

/-- Slices of buffers. -/
def bsliceK (P : Program) (H : List AObj) (t : TypeId) (x : BV) (lo hi : Option TV) (K : SV → List AObj → Prop) : Prop :=
  match elemOf? P t, headLen H x, nameOf x with
  | some (_, τ, _), some n, some m => match objAt H m, boundOf 0 lo, boundOf n hi with
    | .buf _ a ys _, some l, some h => match decEq a τ with
      | isTrue _ => match lo with
        | none => conj [0 ≤ h ∧ h ≤ ys.length, 0 ≤ l ∧ l ≤ h] (K (.b (.prec m h.toNat)) H)
        | some _ => conj [0 ≤ h ∧ h ≤ ys.length, 0 ≤ l ∧ l ≤ h] (K (.b (.win m τ.wd l.toNat (h.toNat - l.toNat))) H)
      | isFalse _ => False
    | _, _, _ => False
  | _, _, _ => False

def isStrB : BV → Bool
  | .str _ => true
  | _ => false

/-- A slice with a capacity: the bounds are checked, the value is not known. -/
def slice3K (P : Program) (H : List AObj) (t : TypeId) (x : BV) (lo hi mx : Option TV) (K : SV → List AObj → Prop) : Prop :=
  match elemOf? P t, lenOf H x, isStrB x with
  | some _, some n, false => match boundOf 0 lo, boundOf n hi, mx with
    | some l, some h, some (.one (.int _ m)) => conj [0 ≤ m ∧ m ≤ n, 0 ≤ h ∧ h ≤ m, 0 ≤ l ∧ l ≤ h] (K .any H)
    | _, _, _ => False
  | _, _, _ => False

def ownOf : BV → Option Nat
  | .hd n => some n
  | .pre n _ => some n
  | .prec n _ => some n
  | .sub n _ _ _ => some n
  | .win n _ _ _ => some n
  | _ => none

def rowWd : AObj → Option Nat
  | .row _ τ _ => some τ.wd
  | .buf _ τ _ _ => some τ.wd
  | _ => none

/-- The function that asks whether two slices overlap. -/
def OverP (P : Program) (f : FuncId) : Prop :=
  ∃ (fn : Func) (t e tr : TypeId), P.funcs[f]? = some fn ∧ (fn.name == "runtime.NumGoroutine") = false ∧ fn.body.isNone = true ∧ Extern.findNext fn = none ∧
    Extern.find fn = some (Extern.SlicesOverlaps.overlaps #[t, t] #[tr]) ∧ P.underlying t = some (.slice e) ∧ (P.info? e).isSome = true

/-- Two slices of two objects do not overlap. -/
def apartK (P : Program) (H : List AObj) (f : FuncId) (a b : BV) (K : SV → List AObj → Prop) : Prop :=
  OverP P f ∧
  match ownOf a, ownOf b with
  | some n, some m => match Nat.beq n m, rowWd (objAt H n), rowWd (objAt H m) with
    | false, some _, some k => match Nat.beq k 0 with
      | false => K (.b (.lit false)) H
      | true => False
    | _, _, _ => False
  | _, _ => False

/-- The operations on capacities. -/
def bufOp (P : Program) (op : Op) (vs : List SV) (H : List AObj) (K : SV → List AObj → Prop) : Prop :=
  match op, vs with
  | .slice t _ none none none, [.t (.one x)] => bsliceK P H t x none none K
  | .slice t _ (some _) none none, [.t (.one x), .t l] => bsliceK P H t x (some l) none K
  | .slice t _ none (some _) none, [.t (.one x), .t h] => bsliceK P H t x none (some h) K
  | .slice t _ (some _) (some _) none, [.t (.one x), .t l, .t h] => bsliceK P H t x (some l) (some h) K
  | .slice t _ none (some _) (some _), [.t (.one x), .t h, .t m] => slice3K P H t x none (some h) (some m) K
  | .slice t _ (some _) (some _) (some _), [.t (.one x), .t l, .t h, .t m] => slice3K P H t x (some l) (some h) (some m) K
  | .call c, vs => match c.callee with
    | .builtin .cap => match vs with
      | [.t (.one v)] => capK P H c.argTypes.toList v K
      | _ => False
    | .builtin .clear => match vs with
      | [.t (.one v)] => clearK P H c.argTypes.toList v K
      | _ => False
    | .builtin .copy => match vs with
      | [.t (.one d), .t (.one x)] => copyK P H c.argTypes.toList d x K
      | _ => False
    | .builtin .append => match vs with
      | [.t (.one s), .t (.one x)] => appendK P H c.argTypes.toList s x K
      | _ => False
    | .value _ => match vs with
      | [.t (.one (.fn f [])), .t (.one a), .t (.one b)] => apartK P H f a b K
      | _ => False
    | _ => False
  | _, _ => False

section
variable {P : Program} {β : List Value} {Z : Nat → Prop} {w : World} {H : List AObj}

theorem openRow (hh : HeapOK β H Z w) {n : Nat} {e : TypeId} {τ : Ty} {xs : List τ.D} (hwd : 0 < τ.wd) (ho : objAt H n = .row e τ xs) :
    ∃ js : List τ.D, xs.length + js.length ≤ maxLen ∧ Trans β H Z w β (H.set n (.buf e τ (xs ++ js) xs.length)) Z w := by
  have hget := objAt_get ho (by simp)
  have hn : n < H.length := (List.getElem?_eq_some_iff.1 hget).1
  obtain ⟨v, hb, _, _, _⟩ := hh.get hn
  obtain ⟨cs, g1, g2, g3⟩ := hh.objs n _ _ hget hb
  rcases g1.2 with ⟨rfl, e2⟩ | ⟨g, cap, cur, rfl, q1, q2, q3, q4, q5, q6⟩
  · have : xs = [] := List.eq_nil_of_length_eq_zero e2
    subst this
    refine ⟨[], by simp [maxLen], Trans.upd hh hget hb (.inl rfl) (Keep.refl _ _) rfl ⟨none, cs, rfl, by simp, by simpa using g1, by simpa using g2⟩⟩
  · obtain ⟨js, hj⟩ := g3 g _ cap cur _ _ rfl q2
    have hall := EncAll.app g2 hj
    rw [← q6, List.take_append_drop] at hall
    have hlen := EncAll.length (fun _ _ => Ty.Enc.length τ) hall
    rw [Array.length_toList, q5] at hlen
    have hcap : cap = (xs ++ js).length := Nat.eq_of_mul_eq_mul_right hwd hlen
    refine ⟨js, by rw [← List.length_append, ← hcap]; exact q4, Trans.upd hh hget hb (.inl rfl) (Keep.refl _ _) rfl ⟨some ⟨g, 0, none⟩, cur.toList, by rw [hcap], by rw [List.length_append]; omega, ?_, hall⟩⟩
    refine ⟨by rw [Array.length_toList, q5, hcap], .inr ⟨g, cap, cur, by rw [hcap], q1, q2, by rw [← hcap]; exact Nat.le_refl _, q4, q5, ?_⟩⟩
    rw [← hcap, ← q5, ← Array.length_toList, List.take_length]

theorem openK_sound (hh : HeapOK β H Z w) {n : Nat} {τ : Ty} (hwd : 0 < τ.wd) {K : List AObj → TypeId → List τ.D → Nat → Prop} (h : openK H n τ K) :
    ∃ H' e ys k, K H' e ys k ∧ Trans β H Z w β H' Z w ∧ objAt H' n = .buf e τ ys k ∧ H'.length = H.length ∧ (lenOf H (.hd n) = some k) := by
  unfold openK at h
  split at h
  · rename_i e a xs ho
    split at h
    · rename_i q _
      subst q
      obtain ⟨js, hjs, t⟩ := openRow hh hwd ho
      have hget := objAt_get ho (by simp)
      refine ⟨_, _, _, _, h js (by simpa [maxLen] using hjs), t, objAt_set hget, by simp, ?_⟩
      simp only [lenOf, ho]
    · exact h.elim
  · rename_i e a ys k ho
    split at h
    · rename_i q _
      subst q
      exact ⟨_, _, _, _, h, Trans.refl hh, ho, rfl, by simp only [lenOf, ho]⟩
    · exact h.elim
  · exact h.elim

theorem span_conc (hh : HeapOK β H Z w) {wd : Nat} {v : BV} {n lo len : Nat} (h : spanOf H wd v = some (n, lo, len)) {x : Value} (hv : v.conc β Z w [x]) :
    ∃ A m c A' c', β[n]? = some (.slice A m c) ∧ x = .slice A' len c' ∧ (len ≠ 0 → ∃ b, A = some ⟨b, 0, none⟩ ∧ A' = some ⟨b, lo * wd, none⟩) := by
  have hH := hh.objsOK
  unfold spanOf at h
  split at h
  · split at h
    · rename_i m _ l hl
      cases h
      obtain ⟨A, m', c, hb, ee⟩ := hv
      cases ee
      obtain ⟨rfl, _, _, hA⟩ := header_at hH hb hl
      refine ⟨A, _, c, A, c, hb, rfl, fun hne => ?_⟩
      obtain ⟨b, rfl⟩ := hA hne
      exact ⟨b, rfl, by rw [Nat.zero_mul]⟩
    · cases h
  · split at h
    · rename_i m len' _ l hl
      cases h
      obtain ⟨A, m', c, hb, ee, h1, _⟩ := hv
      cases ee
      obtain ⟨rfl, _, _, hA⟩ := header_at hH hb hl
      refine ⟨A, _, c, A, c, hb, rfl, fun hne => ?_⟩
      obtain ⟨b, rfl⟩ := hA (by omega)
      exact ⟨b, rfl, by rw [Nat.zero_mul]⟩
    · cases h
  · split at h
    · rename_i m len' _ e τ ys k ho
      cases h
      obtain ⟨A, m', c, hb, ee, h1, _⟩ := hv
      cases ee
      have hob := hH.at_ hb
      rw [ho] at hob
      obtain ⟨A', e1, _, _, hr, hA⟩ := buf_reads hob
      cases e1
      refine ⟨A, _, _, A, _, hb, rfl, fun hne => ?_⟩
      obtain ⟨_, _, _, e3, _, _, _, h4⟩ := hr
      cases e3
      obtain ⟨ad, rfl, _⟩ := h4 (by omega)
      obtain ⟨b, rfl⟩ := hA ad rfl
      exact ⟨b, rfl, by rw [Nat.zero_mul]⟩
    · cases h
  · split at h
    · rename_i hw
      have hw := Nat.eq_of_beq_eq_true hw
      cases h
      subst hw
      obtain ⟨A, m', c, A', c', hb, ee, _, _, _, _, hA⟩ := hv
      cases ee
      exact ⟨A, m', c, A', c', hb, rfl, hA⟩
    · cases h
  · split at h
    · rename_i hw
      have hw := Nat.eq_of_beq_eq_true hw
      cases h
      subst hw
      obtain ⟨A, m', c, A', c', hb, ee, _, _, _, hA⟩ := hv
      cases ee
      exact ⟨A, m', c, A', c', hb, rfl, hA⟩
    · cases h
  · cases h

theorem EncAll.splice {α : Type} {R : α → List Value → Prop} {k : Nat} (hR : ∀ x cs, R x cs → cs.length = k) {xs zs : List α} {cs nv : List Value} (h : EncAll R xs cs) (hz : EncAll R zs nv) (lo : Nat) : EncAll R (spl xs lo zs) (splice cs (lo * k) nv) := by
  unfold spl AM.splice
  rw [List.append_assoc]
  refine EncAll.app (h.take hR lo) (EncAll.app hz ?_)
  have := h.drop hR (lo + zs.length)
  rwa [Nat.add_mul, ← EncAll.length hR hz] at this

theorem overw_sound (hh : HeapOK β H Z w) {n lo : Nat} {τ : Ty} {zs : List τ.D} {obs : List Prop} {H' : List AObj} (h : overw H n lo τ zs = some (obs, H')) (ho : ∀ q ∈ obs, q) {nv : List Value} (hz : EncAll (τ.Enc Z w) zs nv)
    {A : Option Addr} {m c : Nat} (hb : β[n]? = some (.slice A m c)) :
    ∃ w', Trans β H Z w β H' Z w' ∧ (nv = [] → w' = w) ∧ (A = none → nv = []) ∧ ∀ b, A = some b → ∃ g, b = ⟨g, 0, none⟩ ∧ (storeCells ⟨g, lo * τ.wd, none⟩ nv).run P w = .ok () w' := by
  have hR : ∀ (x : τ.D) cs, τ.Enc Z w x cs → cs.length = τ.wd := fun _ _ => Ty.Enc.length τ
  have hones := EncAll.one (fun _ _ => Ty.Enc.one τ) hz
  have hnl := EncAll.length hR hz
  have key : ∀ (ys : List τ.D) (cs : List Value) (e : TypeId) (B : Option Addr) (c : Nat), lo + zs.length ≤ ys.length → w.ownsRow 0 e τ.wd (.slice B ys.length c) ys.length cs → EncAll (τ.Enc Z w) ys cs →
      ∃ w', w'.heap.size = w.heap.size ∧ Keep (fun b => blockOf (.slice B ys.length c) = some b) w w' ∧ (nv = [] → w' = w) ∧ (B = none → nv = []) ∧ (∀ b, B = some b → ∃ g, b = ⟨g, 0, none⟩ ∧ (storeCells ⟨g, lo * τ.wd, none⟩ nv).run P w = .ok () w') ∧
        w'.ownsRow 0 e τ.wd (.slice B (spl ys lo zs).length c) (spl ys lo zs).length (splice cs (lo * τ.wd) nv) ∧ EncAll (τ.Enc Z w) (spl ys lo zs) (splice cs (lo * τ.wd) nv) ∧
        ∀ (g : Nat) (cur : Array Value) (t : TypeId) (o : Nat × Nat), B = some ⟨g, 0, none⟩ → w'.heap[g]? = some (.cells cur t o) → ∃ cur0, w.heap[g]? = some (.cells cur0 e (0, 0)) ∧ cur.toList.drop (ys.length * τ.wd) = cur0.toList.drop (ys.length * τ.wd) := by
    intro ys cs e B c hlo hown hE
    have hsl := length_spl ys lo zs hlo
    have hb1 : lo * τ.wd + nv.length ≤ ys.length * τ.wd := by rw [hnl, ← Nat.add_mul]; exact Nat.mul_le_mul_right _ hlo
    have hE' := hE.splice hR hz lo
    rcases hown.2 with ⟨e1, e2⟩ | ⟨g, cap, cur, e1, q1, q2, q3, q4, q5, q6⟩
    · simp only [Value.slice.injEq] at e1
      obtain ⟨rfl, h0, rfl⟩ := e1
      have hy : ys = [] := List.eq_nil_of_length_eq_zero h0
      subst hy
      have hzs : zs = [] := List.eq_nil_of_length_eq_zero (by simp at hlo; simp [hlo])
      subst hzs
      have hnv : nv = [] := hz
      subst hnv
      have hl0 : lo = 0 := by simpa using hlo
      subst hl0
      have hcs : cs = [] := hE
      subst hcs
      refine ⟨w, rfl, Keep.refl _ _, fun _ => rfl, fun _ => rfl, (fun b hb => by cases hb), (by simpa [spl, AM.splice] using World.ownsRow_nil w 0 e τ.wd), hE', (fun _ _ _ _ hB => by cases hB)⟩
    · simp only [Value.slice.injEq] at e1
      obtain ⟨rfl, _, rfl⟩ := e1
      have hcap : ys.length * τ.wd ≤ c * τ.wd := Nat.mul_le_mul_right _ q3
      have hcl : cur.toList.length = c * τ.wd := by simpa using q5
      obtain ⟨w', r1, r2, r3, r4⟩ := run_storeCells_block (P := P) (o := lo * τ.wd) q2 (by rw [q5]; omega) hones
      refine ⟨w', r3, r4 _ rfl, fun hn => ?_, (fun hB => by cases hB), (fun b hb => ⟨g, (by cases hb; rfl), r1⟩), ?_, hE', ?_⟩
      · subst hn
        have : (storeCells ⟨g, lo * τ.wd, none⟩ []).run P w = .ok () w := by simp [storeCells]
        have := r1.symm.trans this
        cases this; rfl
      · refine ⟨by rw [splice_length _ _ _ (by rw [hown.1]; exact hb1), hown.1, hsl], .inr ⟨g, c, _, rfl, q1, r2, by rw [hsl]; exact q3, q4, ?_, ?_⟩⟩
        · rw [List.size_toArray, splice_length _ _ _ (by rw [hcl]; omega), hcl]
        · show (splice cur.toList _ _).take _ = _
          rw [← q6, hsl]
          exact splice_take hb1 (by rw [hcl]; exact hcap)
      · intro g' cur' t o hB hg'
        cases hB
        rw [r2] at hg'
        cases hg'
        exact ⟨cur, q2, splice_drop hb1 (by rw [hcl]; exact hcap)⟩
  unfold overw at h
  split at h
  · rename_i e a xs hob
    split at h
    · rename_i q _
      subst q
      cases h
      have hlo : lo + zs.length ≤ xs.length := ho _ (.head _)
      have hget := objAt_get hob (by simp)
      obtain ⟨cs, g1, g2, g3⟩ := hh.objs n _ _ hget hb
      obtain ⟨A0, c0, e0⟩ := owns_form g1
      cases e0
      obtain ⟨w', hsz, k, hnil, hnone, hrun, hown', hE', hsp⟩ := key xs cs e A c hlo g1 g2
      have kz : ZKeep Z Z w w' := hh.zkeep (k.mono fun q hq => ⟨n, _, _, hget, rfl, hb, hq⟩) fun _ h => h
      refine ⟨w', Trans.upd hh hget hb (.inl rfl) (k.mono fun b hb => ⟨rfl, hb⟩) hsz ⟨_, ?_, hE'.mono fun _ _ => Ty.Enc.mono kz _, ?_⟩, hnil, hnone, hrun⟩
      · show w'.ownsRow 0 e _ _ (spl xs lo zs).length _
        rw [length_spl xs lo zs hlo] at hown' ⊢
        exact hown'
      · intro g' n' cap' cur' t o e1 hg'
        cases e1
        obtain ⟨cur0, hc0, hd⟩ := hsp g' cur' t o rfl hg'
        obtain ⟨js, hj⟩ := g3 g' _ _ cur0 _ _ rfl hc0
        exact ⟨js, by simp only [castL]; rw [length_spl xs lo zs hlo, hd]; exact hj.mono fun _ _ => Ty.Enc.mono kz _⟩
    · cases h
  · rename_i e a ys k hob
    split at h
    · rename_i q _
      subst q
      cases h
      have hlo : lo + zs.length ≤ ys.length := ho _ (.head _)
      have hget := objAt_get hob (by simp)
      obtain ⟨A', cs, e1, hk, hown, hE⟩ := hh.objs n _ _ hget hb
      cases e1
      obtain ⟨w', hsz, kk, hnil, hnone, hrun, hown', hE', hsp⟩ := key ys cs e A ys.length hlo hown hE
      have kz : ZKeep Z Z w w' := hh.zkeep (kk.mono fun q hq => ⟨n, _, _, hget, rfl, hb, by cases A with | none => cases hq | some a => exact hq⟩) fun _ h => h
      refine ⟨w', Trans.upd hh hget hb (.inl rfl) (kk.mono fun b hb => ⟨rfl, by cases A with | none => cases hb | some a => exact hb⟩) hsz ⟨A, _, ?_, ?_, ?_, hE'.mono fun _ _ => Ty.Enc.mono kz _⟩, hnil, hnone, hrun⟩
      · simp only [castL]; rw [length_spl ys lo zs hlo]
      · simp only [castL]; rw [length_spl ys lo zs hlo]; exact hk
      · show w'.ownsRow 0 e _ (.slice A (spl ys lo zs).length (spl ys lo zs).length) (spl ys lo zs).length _
        rw [length_spl ys lo zs hlo] at hown' ⊢
        exact hown'
    · cases h
  · cases h

/-- An operation that yields a value and may go on to a heap. -/
def KDoes (P : Program) (β : List Value) (H : List AObj) (Z : Nat → Prop) (w : World) (s : Sem Value) (K : SV → List AObj → Prop) : Prop :=
  ∃ x w' r H' β' Z', s.run P w = .ok x w' ∧ K r H' ∧ r.conc β' Z' w' x ∧ Trans β H Z w β' H' Z' w'

theorem wd_pos {t e : TypeId} {τ : Ty} {by_ : Nat} (h : elemOf? P t = some (e, τ, by_)) : 0 < τ.wd := by
  obtain ⟨_, _, i, _, h1, h2, _⟩ := elemOf_spec h
  omega

theorem name_conc {v : BV} {n : Nat} (h : nameOf v = some n) {x : Value} (hv : v.conc β Z w [x]) : ∃ A m c l, β[n]? = some (.slice A m c) ∧ x = .slice A l c := by
  unfold nameOf at h
  split at h
  · cases h; obtain ⟨A, m, c, hb, ee⟩ := hv; cases ee; exact ⟨A, m, c, m, hb, rfl⟩
  · cases h; obtain ⟨A, m, c, hb, ee, _⟩ := hv; cases ee; exact ⟨A, m, c, _, hb, rfl⟩
  · cases h; obtain ⟨A, m, c, hb, ee, _⟩ := hv; cases ee; exact ⟨A, m, c, _, hb, rfl⟩
  · cases h

theorem cap_does (hh : HeapOK β H Z w) (ts : Array TypeId) (ty : TypeId) (v : BV) (a : Value) (ha : v.conc β Z w [a]) {K : SV → List AObj → Prop} (h : capK P H ts.toList v K) : KDoes P β H Z w (Builtin.cap_ ts ty #[a]) K := by
  unfold capK at h
  split at h
  · rename_i t r hts
    have h0 : ts[0]? = some t := by rw [← Array.getElem?_toList, hts]; rfl
    split at h
    · rename_i e τ by_ he
      obtain ⟨hu, _⟩ := elemOf_spec he
      split at h
      · have ha' : a = .slice none 0 0 := by simpa [BV.conc] using ha
        subst ha'
        exact ⟨.int .i64 0, w, _, _, β, Z, by simp [Builtin.cap_, h0, run_underlying hu, goInt], h, rfl, Trans.refl hh⟩
      · split at h
        · rename_i n hn
          obtain ⟨A, m, c, l, hb, rfl⟩ := name_conc hn ha
          obtain ⟨H', e', ys, k, hK, t, ho, _⟩ := openK_sound hh (wd_pos he) h
          have hob := t.heap.objsOK.at_ hb
          rw [ho] at hob
          obtain ⟨A', e1, _⟩ := buf_reads hob
          cases e1
          exact ⟨.int .i64 (ys.length : Nat), w, _, _, β, Z, by simp [Builtin.cap_, h0, run_underlying hu, goInt], hK, rfl, t⟩
        · exact h.elim
    · exact h.elim
  · exact h.elim

theorem conjI {ps : List Prop} {q : Prop} (h : conj ps q) : (∀ p ∈ ps, p) ∧ q := by
  induction ps with
  | nil => exact ⟨fun _ h => (by cases h), h⟩
  | cons p ps ih =>
    obtain ⟨h1, h2⟩ := h
    obtain ⟨h3, h4⟩ := ih h2
    refine ⟨fun x hx => ?_, h4⟩
    rcases List.mem_cons.1 hx with rfl | hx
    · exact h1
    · exact h3 x hx

/-- The store into a slice. -/
theorem dst_store (hh : HeapOK β H Z w) {τ : Ty} {d : BV} {n lo len : Nat} (hs : spanOf H τ.wd d = some (n, lo, len)) {x : Value} (hx : d.conc β Z w [x]) {zs : List τ.D} (hlen : zs.length ≤ len) {obs : List Prop} {H' : List AObj}
    (h : overw H n lo τ zs = some (obs, H')) (ho : ∀ q ∈ obs, q) {nv : List Value} (hz : EncAll (τ.Enc Z w) zs nv) :
    ∃ A' c' w', x = .slice A' len c' ∧ Trans β H Z w β H' Z w' ∧ (nv = [] → w' = w) ∧ ∀ a, A' = some a → (storeCells a nv).run P w = .ok () w' := by
  obtain ⟨A, m, c, A', c', hb, rfl, hA⟩ := span_conc hh hs hx
  obtain ⟨w', t, hnil, hnone, hrun⟩ := overw_sound (P := P) hh h ho hz hb
  refine ⟨A', c', w', rfl, t, hnil, fun a ha => ?_⟩
  by_cases hzs : zs = []
  · subst hzs
    have hnv : nv = [] := hz
    subst hnv
    rw [hnil rfl]
    simp [storeCells]
  · have hne : len ≠ 0 := by
      intro e; rw [e] at hlen
      exact hzs (List.eq_nil_of_length_eq_zero (by omega))
    obtain ⟨b, rfl, e2⟩ := hA hne
    rw [ha] at e2; cases e2
    obtain ⟨g, e3, hr⟩ := hrun _ rfl
    cases e3
    exact hr

theorem copy_does (hh : HeapOK β H Z w) (ts : Array TypeId) (ty : TypeId) (d x : BV) (a b : Value) (ha : d.conc β Z w [a]) (hb : x.conc β Z w [b]) {K : SV → List AObj → Prop} (h : copyK P H ts.toList d x K) : KDoes P β H Z w (Builtin.copy_ ts ty #[a, b]) K := by
  unfold copyK at h
  split at h
  · rename_i t r hts
    have h0 : ts[0]? = some t := by rw [← Array.getElem?_toList, hts]; rfl
    split at h
    · rename_i e τ by_ he
      obtain ⟨hu, _, inf, hin, hsz, hne, hby⟩ := elemOf_spec he
      split at h
      · rename_i n lo len ys hs hl
        split at h
        · rename_i obs H' hov
          obtain ⟨ho, hK⟩ := conjI h
          obtain ⟨B, c2, cs, rfl, q1, q2, q3, q4⟩ := listOf_conc hh.objsOK hl hb
          have hz := q3.take (fun _ _ => Ty.Enc.length τ) len
          obtain ⟨A', c', w', rfl, t, hnil, hrun⟩ := dst_store (P := P) hh hs ha (by rw [List.length_take]; omega) hov ho hz
          have hcl := EncAll.length (fun _ _ => Ty.Enc.length τ) q3
          have hzl := EncAll.length (fun _ _ => Ty.Enc.length τ) hz
          have hzl' : (cs.take (len * τ.wd)).length = Nat.min ys.length len * inf.size := by
            rw [hzl, List.length_take, hsz, Nat.min_comm]
          have hfc : (Builtin.firstCells inf.size (Nat.min ys.length len) (.slice B ys.length c2)).run P w = .ok (cs.take (len * τ.wd)).toArray w := by
            cases B with
            | none =>
              have : ys = [] := by
                cases ys with
                | nil => rfl
                | cons y ys => obtain ⟨ad, e1, _⟩ := q4 (by simp); cases e1
              subst this
              have : cs = [] := q3
              subst this
              simp [Builtin.firstCells]
            | some ad =>
              refine run_firstCells_some (P := P) w inf.size _ ad _ _ _ hzl' fun j u hj => ?_
              by_cases hy : ys.length = 0
              · have : cs = [] := List.eq_nil_of_length_eq_zero (by rw [hcl, hy, Nat.zero_mul])
                subst this; simp at hj
              · obtain ⟨ad', e1, _, hc⟩ := q4 hy
                cases e1
                refine hc j u ?_
                rw [List.getElem?_take] at hj
                split at hj
                · exact hj
                · cases hj
          refine ⟨.int .i64 (min ys.length len : Nat), w', _, _, β, Z, ?_, hK, rfl, t⟩
          cases A' with
          | none =>
            have hw : w' = w := by
              refine hnil ?_
              obtain ⟨A, m, c, A', c', _, e1, hA⟩ := span_conc hh hs ha
              cases e1
              by_cases hl0 : len = 0
              · rw [hl0, Nat.zero_mul, List.take_zero]
              · obtain ⟨b, _, e2⟩ := hA hl0
                cases e2
            subst hw
            simp [Builtin.copy_, h0, run_underlying hu, run_sizeOf' hin, Builtin.lenOf, hfc, goInt]
          | some ad =>
            simp [Builtin.copy_, h0, run_underlying hu, run_sizeOf' hin, Builtin.lenOf, hfc, goInt, hrun ad rfl]
        · exact h.elim
      · exact h.elim
    · exact h.elim
  · exact h.elim

theorem zeros_enc {e : TypeId} {τ : Ty} {z : Value} (hzs : z.cells.size = τ.wd) (hzc : z.cells.toList = τ.zcells) (hze : τ.Enc Z w τ.zero τ.zcells) (k : Nat) : EncAll (τ.Enc Z w) (List.replicate k τ.zero) (Builtin.zeroCells z.cells k).toList := by
  have h1 : (Builtin.zeroCells z.cells k).toList = (madeCells z.cells (k * τ.wd)).toList := by
    unfold Builtin.zeroCells madeCells; rw [hzs]
  rw [h1, made_replicate z.cells τ.wd hzs k, hzc]
  exact EncAll.replicate hze k

theorem clear_does (hh : HeapOK β H Z w) (ts : Array TypeId) (ty : TypeId) (d : BV) (a : Value) (ha : d.conc β Z w [a]) {K : SV → List AObj → Prop} (h : clearK P H ts.toList d K) : KDoes P β H Z w (Builtin.clear_ ts ty #[a]) K := by
  unfold clearK at h
  split at h
  · rename_i t r hts
    have h0 : ts[0]? = some t := by rw [← Array.getElem?_toList, hts]; rfl
    split at h
    · rename_i e τ by_ he
      obtain ⟨hu, _, inf, hin, hsz, hne, hby⟩ := elemOf_spec he
      split at h
      · have ha' : a = .slice none 0 0 := by simpa [BV.conc] using ha
        subst ha'
        exact ⟨.tuple #[], w, _, _, β, Z, by simp [Builtin.clear_, h0, run_underlying hu], h, trivial, Trans.refl hh⟩
      · split at h
        · rename_i n lo len hz hs
          split at h
          · rename_i obs H' hov
            obtain ⟨ho, hK⟩ := conjI h
            obtain ⟨i', z, hi', hiz, hzr, _, hzc, hze⟩ := zeroOK_spec (Z := Z) (w := w) hz
            have hzs : z.cells.size = τ.wd := by rw [← Array.length_toList, hzc, Ty.Enc.length _ hze]
            obtain ⟨A', c', w', rfl, t, hnil, hrun⟩ := dst_store (P := P) hh hs ha (by simp) hov ho (zeros_enc (e := e) hzs hzc hze len)
            refine ⟨.tuple #[], w', _, _, β, Z, ?_, hK, trivial, t⟩
            cases len with
            | zero =>
              have hw : w' = w := hnil (by simp [Builtin.zeroCells])
              subst hw
              cases A' <;> simp [Builtin.clear_, h0, run_underlying hu]
            | succ len =>
              obtain ⟨A, m, c, A2, c2, _, e1, hA⟩ := span_conc hh hs ha
              cases e1
              obtain ⟨b, _, rfl⟩ := hA (by omega)
              simp [Builtin.clear_, h0, run_underlying hu, hzr, hrun _ rfl]
          · exact h.elim
        · exact h.elim
    · exact h.elim
  · exact h.elim

end

end Go.Proofs.Ythjogeodclpafaa.AM
