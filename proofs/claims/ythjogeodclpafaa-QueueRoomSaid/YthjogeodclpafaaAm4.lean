/- The quiet operations of the abstract machine do what the model's do. -/
import Derived.Test.YthjogeodclpafaaAm3
import Derived.Laws.StructEq
import Derived.Laws.Slices
import Derived.Laws.Cells
import Derived.Laws.Small
import Derived.Tactics
set_option linter.unusedVariables false
set_option linter.unusedSimpArgs false
namespace Go.Proofs.Ythjogeodclpafaa.AM
open Go

section
variable {P : Program} {β : List Value} {Z : Nat → Prop} {w : World} {H : List AObj}

/-- A quiet operation is right: whatever it says, the model's operation comes to it and leaves the world alone. -/
def Yields1 (P : Program) (β : List Value) (Z : Nat → Prop) (w : World) (s : Sem Value) (r : YR) : Prop :=
  ∀ obs v, r = some (obs, v) → (∀ q ∈ obs, q) → ∃ x, s.run P w = .ok x w ∧ v.conc β Z w x

theorem yields_none (s : Sem Value) : Yields1 P β Z w s none := fun _ _ h => by cases h
theorem yields_yv {s : Sem Value} {v : BV} {x : Value} (h : s.run P w = .ok x w) (hv : v.conc β Z w [x]) : Yields1 P β Z w s (yv v) := by
  intro obs v' e _
  cases e
  exact ⟨x, h, hv⟩
theorem yields_some {s : Sem Value} {obs : List Prop} {v : SV} (h : (∀ q ∈ obs, q) → ∃ x, s.run P w = .ok x w ∧ v.conc β Z w x) : Yields1 P β Z w s (some (obs, v)) := by
  intro obs' v' e ho
  cases e
  exact h ho

theorem one_int {k : IntKind} {n : Int} {x : Value} (h : (TV.one (.int k n)).conc β Z w x) : x = .int k n := by simpa [TV.conc, BV.conc] using h
theorem one_bool {b : Bool} {x : Value} (h : (TV.one (.bool b)).conc β Z w x) : x = .bool b := by simpa [TV.conc, BV.conc] using h
theorem one_lit {b : Bool} {x : Value} (h : (TV.one (.lit b)).conc β Z w x) : x = .bool b := by simpa [TV.conc, BV.conc] using h
theorem one_str {s : ByteArray} {x : Value} (h : (TV.one (.str s)).conc β Z w x) : x = .string s := by simpa [TV.conc, BV.conc] using h
theorem one_nilp {x : Value} (h : (TV.one .nilp).conc β Z w x) : x = .pointer none := by simpa [TV.conc, BV.conc] using h
theorem one_ptr {n o : Nat} {x : Value} (h : (TV.one (.ptr n o)).conc β Z w x) : ∃ b, β[n]? = some (.pointer (some ⟨b, 0, none⟩)) ∧ x = .pointer (some ⟨b, o, none⟩) := by
  obtain ⟨b, h1, h2⟩ := h; cases h2; exact ⟨b, h1, rfl⟩

/-! ### '==' on aggregates -/
theorem kindOf_spec {t : TypeId} {agg : Bool} {n : Nat} (h : kindOf P t = some (agg, n)) :
    ∃ d i, P.underlying t = some d ∧ P.info? t = some i ∧ n = i.size ∧ (isAgg t).run P w = .ok agg w ∧ ((∃ fs, d = .struct fs) → agg = true) ∧ ((∃ m e, d = .array m e) → agg = true) ∧
      (agg = true → (∃ fs, d = .struct fs) ∨ (∃ m e, d = .array m e)) := by
  unfold kindOf at h
  split at h
  · rename_i i hu hi; cases h
    exact ⟨_, i, hu, hi, rfl, by simp [isAgg, run_underlying hu], fun _ => rfl, fun _ => rfl, fun _ => .inl ⟨_, rfl⟩⟩
  · rename_i i hu hi; cases h
    exact ⟨_, i, hu, hi, rfl, by simp [isAgg, run_underlying hu], fun _ => rfl, fun _ => rfl, fun _ => .inr ⟨_, _, rfl⟩⟩
  · rename_i d i hns hna hu hi; cases h
    refine ⟨d, i, hu, hi, rfl, ?_, fun ⟨fs, e⟩ => (hns fs e).elim, fun ⟨m, e, q⟩ => (hna m e q).elim, fun h => by cases h⟩
    simp only [isAgg, Sem.run_bind, run_underlying hu, Result.andThen_ok]
    cases d <;> first | rfl | exact (hns _ rfl).elim | exact (hna _ _ rfl).elim
  · cases h

theorem run_sizeOf' {t : TypeId} {i : TypeInfo} (h : P.info? t = some i) : (sizeOf t).run P w = .ok i.size w := by simp [sizeOf, typeInfo, h]

theorem run_part (t : TypeId) (agg : Bool) (sz : Nat) (hk : kindOf P t = some (agg, sz)) (xs : Array Value) (off : Nat) (pre cs post : List Value) (hx : xs.toList = pre ++ (cs ++ post)) (hp : pre.length = off) (hc : cs.length = sz) (h1 : agg = false → sz = 1) :
    (part t xs off).run P w = .ok (valOf agg cs) w := by
  obtain ⟨xs⟩ := xs
  simp only at hx
  subst hx
  obtain ⟨d, i, hu, hi, hn, ha, _⟩ := kindOf_spec (w := w) hk
  subst hn
  cases agg with
  | true =>
    simp only [part, Sem.run_bind, ha, Result.andThen_ok, if_true, run_sizeOf' hi, Sem.run_pure]
    simp [valOf, ← hp, ← hc]
  | false =>
    have hl : cs.length = 1 := by rw [hc]; exact h1 rfl
    obtain ⟨c, rfl⟩ : ∃ c, cs = [c] := by
      match cs, hl with
      | [c], _ => exact ⟨c, rfl⟩
    have hg : (pre ++ ([c] ++ post)).toArray[off]? = some c := by simp [← hp]
    simp only [part, Sem.run_bind, ha, Result.andThen_ok, hg]
    rfl

theorem tyEq_kind : ∀ (n : Nat) (t : TypeId) (τ : Ty) (i : TypeInfo), tyEq P n t = some τ → P.info? t = some i → i.size = τ.wd → ∃ agg, kindOf P t = some (agg, τ.wd) ∧ (agg = false → τ.wd = 1)
  | 0, t, τ, i, h, hi, hs => by cases h
  | n + 1, t, τ, i, h, hi, hs => by
    unfold tyEq at h
    unfold kindOf
    split at h
    · rename_i hu; cases h; rw [hu, hi]; exact ⟨false, by simp [hs], fun _ => rfl⟩
    · rename_i hu; cases h; rw [hu, hi]; exact ⟨false, by simp [hs], fun _ => rfl⟩
    · rename_i hu; cases h; rw [hu, hi]; exact ⟨false, by simp [hs], fun _ => rfl⟩
    · rename_i hu; rw [hu, hi]; exact ⟨true, by simp [hs], fun h => by cases h⟩
    · cases h

theorem run_eqFields {n d : Nat} (ih : ∀ (t : TypeId) (τ : Ty) (agg : Bool) (x y : τ.D) (cx cy : List Value), tyEq P n t = some τ → kindOf P t = some (agg, τ.wd) → τ.Enc Z w x cx → τ.Enc Z w y cy →
      (Op.equalIn d t (valOf agg cx) (valOf agg cy)).run P w = .ok (τ.eqb x y) w) :
    ∀ (fs : List Field) (o : Nat) (τ : Ty) (x y : τ.D) (xs ys : Array Value) (px py cx cy : List Value), tyEqFields P (tyEq P n) o fs = some τ →
      xs.toList = px ++ cx → ys.toList = py ++ cy → px.length = o → py.length = o → τ.Enc Z w x cx → τ.Enc Z w y cy →
      (Op.eqFields d xs ys fs).run P w = .ok (τ.eqb x y) w
  | [], o, τ, x, y, xs, ys, px, py, cx, cy, h, _, _, _, _, _, _ => by simp [tyEqFields] at h
  | [fd], o, τ, x, y, xs, ys, px, py, cx, cy, h, hx, hy, hpx, hpy, ex, ey => by
    simp only [tyEqFields] at h
    split at h
    · rename_i a i ho hn ht hi
      split at h
      · rename_i hs
        cases h
        have ho := Nat.eq_of_beq_eq_true ho
        have hs := Nat.eq_of_beq_eq_true hs
        obtain ⟨agg, hk, h1⟩ := tyEq_kind n _ _ _ ht hi hs
        have p1 := run_part (P := P) (w := w) fd.type agg _ hk xs fd.offset px cx [] (by simpa using hx) (by rw [ho]; exact hpx) (Ty.Enc.length _ ex) h1
        have p2 := run_part (P := P) (w := w) fd.type agg _ hk ys fd.offset py cy [] (by simpa using hy) (by rw [ho]; exact hpy) (Ty.Enc.length _ ey) h1
        have p3 := ih fd.type _ agg x y cx cy ht hk ex ey
        have hn' : fd.name ≠ "_" := by simpa using hn
        simp only [Op.eqFields, if_pos hn', Sem.run_bind, p1, p2, p3, Result.andThen_ok, Sem.run_ite, Sem.run_pure]
        cases Ty.eqb _ x y <;> simp
      · cases h
    · cases h
  | fd :: fd' :: r, o, τ, x, y, xs, ys, px, py, cx, cy, h, hx, hy, hpx, hpy, ex, ey => by
    simp only [tyEqFields] at h
    split at h
    · rename_i a i ho hn ht hi
      split at h
      · rename_i b hs hb
        cases h
        have ho := Nat.eq_of_beq_eq_true ho
        have hs := Nat.eq_of_beq_eq_true hs
        obtain ⟨agg, hk, h1⟩ := tyEq_kind n _ _ _ ht hi hs
        obtain ⟨x1, x2, rfl, ex1, ex2⟩ := ex
        obtain ⟨y1, y2, rfl, ey1, ey2⟩ := ey
        have p1 := run_part (P := P) (w := w) fd.type agg _ hk xs fd.offset px x1 x2 hx (by rw [ho]; exact hpx) (Ty.Enc.length _ ex1) h1
        have p2 := run_part (P := P) (w := w) fd.type agg _ hk ys fd.offset py y1 y2 hy (by rw [ho]; exact hpy) (Ty.Enc.length _ ey1) h1
        have p3 := ih fd.type _ agg x.1 y.1 x1 y1 ht hk ex1 ey1
        have p4 := run_eqFields ih (fd' :: r) (o + a.wd) b x.2 y.2 xs ys (px ++ x1) (py ++ y1) x2 y2 hb (by rw [hx, List.append_assoc]) (by rw [hy, List.append_assoc])
          (by rw [List.length_append, hpx, Ty.Enc.length _ ex1]) (by rw [List.length_append, hpy, Ty.Enc.length _ ey1]) ex2 ey2
        have hn' : fd.name ≠ "_" := by simpa using hn
        rw [Op.eqFields]
        simp only [if_pos hn', Sem.run_bind, p1, p2, p3, Result.andThen_ok, Sem.run_ite, Sem.run_pure, p4, Ty.eqb]
        cases Ty.eqb a x.1 y.1 <;> simp
      · cases h
    · cases h

theorem agg_false {t : TypeId} {agg : Bool} {n : Nat} {d : TypeDesc} (hk : kindOf P t = some (agg, n)) (hu : P.underlying t = some d) (hs : ∀ fs, d ≠ .struct fs) (ha : ∀ m e, d ≠ .array m e) : agg = false := by
  obtain ⟨d', i, hu', _, _, _, _, _, h⟩ := kindOf_spec (w := default) hk
  rw [hu] at hu'; cases hu'
  cases agg with
  | false => rfl
  | true => rcases h rfl with ⟨fs, e⟩ | ⟨m, e, q⟩
            · exact (hs _ e).elim
            · exact (ha _ _ q).elim

theorem run_equalIn : ∀ (n : Nat) (d : Nat) (t : TypeId) (τ : Ty) (agg : Bool) (x y : τ.D) (cx cy : List Value), n ≤ d → tyEq P n t = some τ → kindOf P t = some (agg, τ.wd) → τ.Enc Z w x cx → τ.Enc Z w y cy →
      (Op.equalIn d t (valOf agg cx) (valOf agg cy)).run P w = .ok (τ.eqb x y) w
  | 0, d, t, τ, agg, x, y, cx, cy, hd, h, hk, ex, ey => by cases h
  | n + 1, d, t, τ, agg, x, y, cx, cy, hd, h, hk, ex, ey => by
    obtain ⟨d, rfl⟩ : ∃ m, d = m + 1 := ⟨d - 1, by omega⟩
    unfold tyEq at h
    split at h
    · rename_i k hu; cases h
      have := agg_false hk hu (by simp) (by simp); subst this
      cases ex; cases ey
      exact run_equalIn_int w d t k k x y hu
    · rename_i hu; cases h
      have := agg_false hk hu (by simp) (by simp); subst this
      cases ex; cases ey
      exact run_equalIn_bool w d t x y hu
    · rename_i hu; cases h
      have := agg_false hk hu (by simp) (by simp); subst this
      cases ex; cases ey
      exact run_equalIn_string w d t x y hu
    · rename_i fs hu
      split at h
      · rename_i hst
        obtain ⟨d', _, hu', _, _, _, hs, _⟩ := kindOf_spec (w := w) hk
        rw [hu] at hu'; cases hu'
        have := hs ⟨_, rfl⟩; subst this
        have hf : P.fieldsOf t = fs := by simp [Program.fieldsOf, hu]
        rw [show valOf true cx = .agg cx.toArray from rfl, show valOf true cy = .agg cy.toArray from rfl, run_equalIn_struct w d t _ _ (by rw [hf]; exact hu) hst, hf]
        exact run_eqFields (fun t τ agg x y cx cy h1 h2 => run_equalIn n d t τ agg x y cx cy (by omega) h1 h2) fs.toList 0 τ x y _ _ [] [] cx cy h rfl rfl rfl rfl ex ey
      · cases h
    · cases h

theorem agg_yields (op : BinOp) (t : TypeId) (x y : Operand) (xs ys : List BV) (a b : Value) (ha : (TV.agg xs).conc β Z w a) (hb : (TV.agg ys).conc β Z w b) :
    Yields1 P β Z w (do eqGuard op t x y a b; binOp op t a b) (aggOp P op t xs ys) := by
  obtain ⟨va, rfl, hca⟩ := ha
  obtain ⟨vb, rfl, hcb⟩ := hb
  unfold aggOp
  split
  · rename_i τ sz ht hg hk
    split
    · rename_i dx dy hsz hx hy
      have hsz := Nat.eq_of_beq_eq_true hsz
      subst hsz
      have heq := run_equalIn depth 10000 t τ true dx dy _ _ (by decide) ht hk (dec_conc hx hca) (dec_conc hy hcb)
      simp only [valOf, if_true, Array.toArray_toList] at heq
      split
      · refine yields_yv (x := .bool _) ?_ rfl
        simp only [Sem.run_bind, run_eqGuard_agg w _ t x y va vb hg, Result.andThen_ok, run_eql_struct, heq]
      · refine yields_yv (x := .bool _) ?_ rfl
        simp only [Sem.run_bind, run_eqGuard_agg w _ t x y va vb hg, Result.andThen_ok, run_neq_struct, heq]
      · exact yields_none _
    · exact yields_none _
  · exact yields_none _

theorem guard_ok (op : BinOp) (t : TypeId) (x y : Operand) (a b : Value) (h1 : ∀ c d, ¬ (a = .agg c ∧ b = .agg d)) (h2 : ¬ (a = .nilIface ∧ b = .nilIface)) : (eqGuard op t x y a b).run P w = .ok () w := by
  unfold eqGuard
  cases op <;> simp <;> (split <;> first | rfl | (exfalso; exact h2 ⟨rfl, rfl⟩) | (exfalso; exact h1 _ _ ⟨rfl, rfl⟩) | skip)

theorem bin_bool (op : BinOp) (t : TypeId) (hu : P.underlying t = some .bool) (a b : Bool) : Yields1 P β Z w (binOp op t (.bool a) (.bool b)) (boolOp op a b) := by
  unfold boolOp
  split
  · exact yields_yv (run_eql_bool w t a b hu) rfl
  · exact yields_yv (run_neq_bool w t a b hu) rfl
  · exact yields_none _

theorem boolTy_spec {t : TypeId} (h : boolTy P t = true) : P.underlying t = some .bool := by
  unfold boolTy at h
  split at h
  · assumption
  · cases h

theorem ptrTy_spec {t : TypeId} (h : ptrTy P t = true) : ∃ e, P.underlying t = some (.pointer e) := by
  unfold ptrTy at h
  split at h
  · exact ⟨_, by assumption⟩
  · cases h

theorem bin_nil (op : BinOp) (t e : TypeId) (hu : P.underlying t = some (.pointer e)) (a b : Option Addr) (r : Bool) (hr : (a = none ∧ b = none ∧ r = true) ∨ (a = none ∧ b ≠ none ∧ r = false) ∨ (a ≠ none ∧ b = none ∧ r = false)) :
    Yields1 P β Z w (binOp op t (.pointer a) (.pointer b)) (litOp op r) := by
  have heq : ∀ d, (Op.equalIn (d + 1) t (.pointer a) (.pointer b)).run P w = .ok r w := by
    intro d
    rcases hr with ⟨rfl, rfl, rfl⟩ | ⟨rfl, h, rfl⟩ | ⟨h, rfl, rfl⟩
    · simp [Op.equalIn, run_underlying hu]
    · cases b with
      | none => exact absurd rfl h
      | some b => simp [Op.equalIn, run_underlying hu]
    · cases a with
      | none => exact absurd rfl h
      | some a => simp [Op.equalIn, run_underlying hu]
  have heq' : (Op.equal t (.pointer a) (.pointer b)).run P w = .ok r w := heq 9999
  unfold litOp
  split
  · refine yields_yv (x := .bool _) ?_ rfl
    simp only [binOp, Sem.run_bind, heq', Result.andThen_ok, Sem.run_pure]
  · refine yields_yv (x := .bool _) ?_ rfl
    simp only [binOp, Sem.run_bind, heq', Result.andThen_ok, Sem.run_pure]
  · exact yields_none _

theorem bin_int (op : BinOp) (t : TypeId) (k : IntKind) (a b : Int) (hs : op ≠ .shl) (hr : op ≠ .shr) : Yields1 P β Z w (binOp op t (.int k a) (.int k b)) (intOp op k a b) := by
  unfold intOp
  split <;> first
    | exact yields_none _
    | (refine yields_yv (x := .int _ _) ?_ rfl; simp [binOp, Op.intArith, Op.intBits]; done)
    | (refine yields_yv (x := .bool _) ?_ rfl; simp [binOp, Op.intCmp]; done)
    | (refine yields_some fun ho => ⟨.int _ _, ?_, rfl⟩
       have hb : b ≠ 0 := ho _ (List.mem_singleton.2 rfl)
       simp [binOp, Op.intDiv, hb])

theorem bin_sh (op : BinOp) (t : TypeId) (k k' : IntKind) (a b : Int) : Yields1 P β Z w (binOp op t (.int k a) (.int k' b)) (shOp op k a b) := by
  unfold shOp
  split
  · refine yields_some fun ho => ⟨.int _ _, ?_, rfl⟩
    have hb : 0 ≤ b := ho _ (List.mem_singleton.2 rfl)
    simp [binOp, Op.shift, Int.not_lt.2 hb]
  · refine yields_some fun ho => ⟨.int _ _, ?_, rfl⟩
    have hb : 0 ≤ b := ho _ (List.mem_singleton.2 rfl)
    simp [binOp, Op.shift, Int.not_lt.2 hb]
  · exact yields_none _

theorem bin_str (op : BinOp) (t : TypeId) (a b : ByteArray) : Yields1 P β Z w (binOp op t (.string a) (.string b)) (strOp op a b) := by
  unfold strOp
  split <;> first
    | exact yields_none _
    | (refine yields_yv (x := .bool _) ?_ rfl; simp [binOp, Op.stringOp]; done)
    | (refine yields_some fun ho => ⟨.string _, ?_, rfl⟩
       have hb : ((a.size + b.size : Nat) : Int) ≤ IntKind.i64.max := ho _ (List.mem_singleton.2 rfl)
       simp only [binOp, Op.stringOp]
       rw [if_neg (Int.not_lt.2 hb)]
       rfl)

theorem bin_yields (op : BinOp) (t : TypeId) (x y : Operand) (u v : TV) (a b : Value) (ha : u.conc β Z w a) (hb : v.conc β Z w b) :
    Yields1 P β Z w (do eqGuard op t x y a b; binOp op t a b) (binStep P op t u v) := by
  have plain : ∀ (r : YR), (∀ c d, ¬ (a = .agg c ∧ b = .agg d)) → ¬ (a = .nilIface ∧ b = .nilIface) → Yields1 P β Z w (binOp op t a b) r → Yields1 P β Z w (do eqGuard op t x y a b; binOp op t a b) r := by
    intro r h1 h2 h obs v' e ho
    obtain ⟨q, hq, hc⟩ := h obs v' e ho
    exact ⟨q, by simp only [Sem.run_bind, guard_ok op t x y a b h1 h2, Result.andThen_ok]; exact hq, hc⟩
  unfold binStep
  split
  · have := one_int ha; subst this
    have := one_int hb; subst this
    refine plain _ (by simp) (by simp) ?_
    split
    · exact bin_sh _ t _ _ _ _
    · exact bin_sh _ t _ _ _ _
    · split
      · rename_i h1 h2 _ he _; subst he; exact bin_int op t _ _ _ h1 h2
      · exact yields_none _
  · have := one_str ha; subst this
    have := one_str hb; subst this
    exact plain _ (by simp) (by simp) (bin_str op t _ _)
  · have := one_bool ha; subst this
    have := one_bool hb; subst this
    split
    · exact plain _ (by simp) (by simp) (bin_bool op t (boolTy_spec (by assumption)) _ _)
    · exact yields_none _
  · have := one_lit ha; subst this
    have := one_bool hb; subst this
    split
    · exact plain _ (by simp) (by simp) (bin_bool op t (boolTy_spec (by assumption)) _ _)
    · exact yields_none _
  · have := one_bool ha; subst this
    have := one_lit hb; subst this
    split
    · exact plain _ (by simp) (by simp) (bin_bool op t (boolTy_spec (by assumption)) _ _)
    · exact yields_none _
  · have := one_lit ha; subst this
    have := one_lit hb; subst this
    split
    · exact plain _ (by simp) (by simp) (bin_bool op t (boolTy_spec (by assumption)) _ _)
    · exact yields_none _
  · have := one_nilp ha; subst this
    have := one_nilp hb; subst this
    split
    · rename_i hp
      obtain ⟨e, hu⟩ := ptrTy_spec hp
      exact plain _ (by simp) (by simp) (bin_nil op t e hu _ _ _ (.inl ⟨rfl, rfl, rfl⟩))
    · exact yields_none _
  · obtain ⟨_, _, rfl⟩ := one_ptr ha
    have := one_nilp hb; subst this
    split
    · rename_i hp
      obtain ⟨e, hu⟩ := ptrTy_spec hp
      exact plain _ (by simp) (by simp) (bin_nil op t e hu _ _ _ (.inr (.inr ⟨by simp, rfl, rfl⟩)))
    · exact yields_none _
  · have := one_nilp ha; subst this
    obtain ⟨_, _, rfl⟩ := one_ptr hb
    split
    · rename_i hp
      obtain ⟨e, hu⟩ := ptrTy_spec hp
      exact plain _ (by simp) (by simp) (bin_nil op t e hu _ _ _ (.inr (.inl ⟨rfl, by simp, rfl⟩)))
    · exact yields_none _
  · exact agg_yields op t x y _ _ a b ha hb
  · exact yields_none _

theorem un_yields (op : UnOp) (u : TV) (a : Value) (ha : u.conc β Z w a) : Yields1 P β Z w (Op.unary op a) (unStep op u) := by
  unfold unStep
  split
  · have := one_bool ha; subst this
    exact yields_yv (x := .bool _) (by simp [Op.unary]) rfl
  · have := one_lit ha; subst this
    exact yields_yv (x := .bool _) (by simp [Op.unary]) rfl
  · have := one_int ha; subst this
    exact yields_yv (x := .int _ _) (by simp [Op.unary, Op.intArith]) rfl
  · exact yields_none _

end

end Go.Proofs.Ythjogeodclpafaa.AM
