/- The abstract machine is right: regions that draw their order. -/
import Derived.Test.YthjogeodclpafaaAm17
set_option linter.unusedVariables false
set_option linter.unusedSimpArgs false
namespace Go.Proofs.Ythjogeodclpafaa.AM
open Go

section
variable {P : Program} {T : Tab} {β0 : List Value} {H0 : List AObj} {Z0 : Nat → Prop} {w0 : World} {ops : Array Oper}

theorem beq_iff' {a b : Nat} : Nat.beq a b = true ↔ a = b := ⟨Nat.eq_of_beq_eq_true, fun h => by rw [h]; exact Nat.beq_refl b⟩

theorem numbered_mem {j : Nat} {o : Oper} : ∀ {l : List Oper} {i : Nat}, (j, o) ∈ numbered i l ↔ ∃ k, j = i + k ∧ l[k]? = some o
  | [], i => by simp [numbered]
  | x :: r, i => by
    simp only [numbered, List.mem_cons, Prod.mk.injEq, numbered_mem (l := r)]
    constructor
    · rintro (⟨rfl, rfl⟩ | ⟨k, rfl, h⟩)
      · exact ⟨0, rfl, rfl⟩
      · exact ⟨k + 1, by omega, by simpa using h⟩
    · rintro ⟨k, rfl, h⟩
      cases k with
      | zero => simp at h; exact .inl ⟨rfl, h.symm⟩
      | succ k => exact .inr ⟨k, by omega, by simpa using h⟩

theorem numbered_zero {j : Nat} {o : Oper} : (j, o) ∈ numbered 0 ops.toList ↔ ops[j]? = some o := by
  rw [numbered_mem]
  constructor
  · rintro ⟨k, rfl, h⟩; simpa using h
  · intro h; exact ⟨j, by omega, by simpa using h⟩

theorem boundB_iff {A : List Nat} : ∀ {es : List Edge}, boundB A es = true ↔ ∀ e ∈ es, Region.binds .any e = true → e.on ∈ A
  | [] => by simp [boundB]
  | e :: r => by
    unfold boundB
    split
    · rename_i q
      simp only [Bool.and_eq_true, memN_iff, boundB_iff (es := r), List.mem_cons]
      constructor
      · rintro ⟨h1, h2⟩ x (rfl | hx) hb
        · exact h1
        · exact h2 x hx hb
      · intro h; exact ⟨h e (.inl rfl) q, fun x hx => h x (.inr hx)⟩
    · rename_i q
      rw [boundB_iff (es := r)]
      simp only [List.mem_cons]
      constructor
      · rintro h x (rfl | hx) hb
        · rw [q] at hb; cases hb
        · exact h x hx hb
      · intro h x hx; exact h x (.inr hx)

theorem onB_iff {i : Nat} : ∀ {es : List Edge}, onB i es = true ↔ ∃ e ∈ es, Region.binds .any e = true ∧ e.on = i
  | [] => by simp [onB]
  | e :: r => by
    unfold onB
    split
    · rename_i q
      simp only [Bool.or_eq_true, beq_iff', onB_iff (es := r), List.mem_cons]
      constructor
      · rintro (h | ⟨x, hx, hb⟩)
        · exact ⟨e, .inl rfl, q, h⟩
        · exact ⟨x, .inr hx, hb⟩
      · rintro ⟨x, (rfl | hx), hb, he⟩
        · exact .inl he
        · exact .inr ⟨x, hx, hb, he⟩
    · rename_i q
      rw [onB_iff (es := r)]
      simp only [List.mem_cons]
      constructor
      · rintro ⟨x, hx, hb⟩; exact ⟨x, .inr hx, hb⟩
      · rintro ⟨x, (rfl | hx), hb, he⟩
        · rw [q] at hb; cases hb
        · exact ⟨x, hx, hb, he⟩

theorem memN_false {n : Nat} {l : List Nat} (h : memN n l = false) : n ∉ l := fun e => by rw [memN_iff.2 e] at h; cases h

theorem readyA_iff {A : List Nat} {j : Nat} {o : Oper} : ∀ {os : List (Nat × Oper)}, (j, o) ∈ readyA A os ↔ (j, o) ∈ os ∧ j ∉ A ∧ ∀ e ∈ o.after.toList, Region.binds .any e = true → e.on ∈ A
  | [] => by simp [readyA]
  | (i, x) :: r => by
    unfold readyA
    split
    · rename_i q
      rw [readyA_iff (os := r), List.mem_cons]
      constructor
      · rintro ⟨h1, h2⟩; exact ⟨.inr h1, h2⟩
      · rintro ⟨h1, h2, h3⟩
        rcases h1 with e | h1
        · cases e; exact absurd (memN_iff.1 q) h2
        · exact ⟨h1, h2, h3⟩
    · rename_i q
      split
      · rename_i q2
        rw [List.mem_cons, readyA_iff (os := r), List.mem_cons]
        constructor
        · rintro (e | ⟨h1, h2⟩)
          · cases e; exact ⟨.inl rfl, memN_false q, boundB_iff.1 q2⟩
          · exact ⟨.inr h1, h2⟩
        · rintro ⟨(e | h1), h2⟩
          · exact .inl e
          · exact .inr ⟨h1, h2⟩
      · rename_i q2
        rw [readyA_iff (os := r), List.mem_cons]
        constructor
        · rintro ⟨h1, h2⟩; exact ⟨.inr h1, h2⟩
        · rintro ⟨h1, h2, h3⟩
          rcases h1 with e | h1
          · cases e; rw [boundB_iff.2 h3] at q2; cases q2
          · exact ⟨h1, h2, h3⟩

theorem notIn_iff {d : Nat} : ∀ {l : List Nat}, notIn d l = true ↔ d ∉ l
  | [] => by simp [notIn]
  | e :: r => by
    unfold notIn
    split
    · rename_i q; simp [beq_iff'.1 q]
    · rename_i q
      have : d ≠ e := fun h => by rw [beq_iff'.2 h] at q; cases q
      rw [notIn_iff (l := r)]; simp [this]

/-- What was taken ahead does not touch what comes behind it in another order. -/
def Apart (ops : Array Oper) (p q : Nat × Oper) : Prop :=
  ∀ d, p.2.dst = some d → (d ∈ q.2.looksAt ops → onB p.1 q.2.after.toList = true) ∧ ∀ e, q.2.dst = some e → e ≠ d ∧ e ∉ p.2.looksAt ops

theorem apartB_spec {A : List Nat} {i d : Nat} {x : Oper} (hd : x.dst = some d) : ∀ {os : List (Nat × Oper)}, apartB ops A i d x os = true → ∀ j y, (j, y) ∈ os → j ≠ i → j ∉ A → Apart ops (i, x) (j, y)
  | [], _, j, y, h, _, _ => by cases h
  | (k, z) :: r, h, j, y, hm, hne, hA => by
    unfold apartB at h
    split at h
    · rename_i q
      rcases List.mem_cons.1 hm with e | hm
      · cases e
        simp only [Bool.or_eq_true, beq_iff', memN_iff] at q
        rcases q with q | q
        · exact absurd q hne
        · exact absurd q hA
      · exact apartB_spec hd h j y hm hne hA
    · simp only [Bool.and_eq_true, Bool.or_eq_true, notIn_iff] at h
      obtain ⟨h1, h2, h3⟩ := h
      rcases List.mem_cons.1 hm with e | hm
      · cases e
        intro d' hd'
        have : d' = d := by rw [hd] at hd'; cases hd'; rfl
        subst this
        refine ⟨fun hq => h1.resolve_right fun hn => hn hq, fun e he => ?_⟩
        dsimp only at he
        rw [he] at h2
        simp only [Bool.and_eq_true, Bool.not_eq_true', notIn_iff] at h2
        exact ⟨fun hh => by rw [beq_iff'.2 hh] at h2; exact absurd h2.1 (by simp), h2.2⟩
      · exact apartB_spec hd h3 j y hm hne hA

theorem takeOne_spec {os : List (Nat × Oper)} {s : St} {A : List Nat} {i : Nat} {x : Oper} {d : Nat} {obs : List Prop} {v : SV} : ∀ {l : List (Nat × Oper)}, takeOne P ops os s A l = some (i, x, d, obs, v) →
    (i, x) ∈ l ∧ x.dst = some d ∧ d < s.N ∧ d ∉ x.looksAt ops ∧ apartB ops A i d x os = true ∧ opQ P ops s x = some (obs, v)
  | [], h => by simp [takeOne] at h
  | (j, y) :: r, h => by
    unfold takeOne at h
    have go : takeOne P ops os s A r = some (i, x, d, obs, v) → (i, x) ∈ (j, y) :: r ∧ x.dst = some d ∧ d < s.N ∧ d ∉ x.looksAt ops ∧ apartB ops A i d x os = true ∧ opQ P ops s x = some (obs, v) := fun h =>
      let ⟨h1, h2⟩ := takeOne_spec h
      ⟨List.mem_cons_of_mem _ h1, h2⟩
    split at h
    · exact go h
    · rename_i e he
      split at h
      · exact go h
      · rename_i q
        split at h
        · rename_i obs' v' hq
          simp only [Option.some.injEq, Prod.mk.injEq] at h
          obtain ⟨rfl, rfl, rfl, rfl, rfl⟩ := h
          simp only [Bool.and_eq_true, notIn_iff] at q
          exact ⟨by simp, he, Nat.le_of_ble_eq_true q.1, q.2.1, q.2.2, hq⟩
        · exact go h

/-! ### What an operation looks at -/
theorem mem_looksAt {o : Oper} {t : Tmp} (h : (.tmp t : Operand) ∈ o.op.operands.toList) : t ∈ o.looksAt ops :=
  List.mem_append_left _ (List.mem_filterMap.2 ⟨.tmp t, h, rfl⟩)

theorem guard_looksAt {o : Oper} {g : Nat} {want : Bool} {d : Tmp} (hg : o.guard = some (g, want)) (hd : (ops.toList[g]?).bind (·.dst) = some d) : d ∈ o.looksAt ops := by
  refine List.mem_append_right _ ?_
  have hd' : (ops[g]?).bind (·.dst) = some d := by rw [← Array.getElem?_toList]; exact hd
  simp [hg, hd']

theorem guardOf_congr {s s' : St} {o : Oper} (h : ∀ d ∈ o.looksAt ops, sget s.sl d = sget s'.sl d) : guardOf s ops o = guardOf s' ops o := by
  unfold guardOf
  split
  · rfl
  · rename_i j want hg
    split
    · rfl
    · rename_i d hd
      rw [h d (guard_looksAt hg hd)]

theorem opSV_congr {s s' : St} {o : Oper} (h : ∀ d ∈ o.looksAt ops, sget s.sl d = sget s'.sl d) {x : Operand} (hx : x ∈ o.op.operands.toList) : opSV s.sl x = opSV s'.sl x := by
  cases x with
  | tmp t => exact h t (mem_looksAt hx)
  | _ => rfl

theorem argsR_congr {s s' : St} {ts : List (Nat × Bool)} {o : Oper} (h : ∀ d ∈ o.looksAt ops, sget s.sl d = sget s'.sl d) : argsR s ts o = argsR s' ts o := by
  unfold argsR
  exact List.map_congr_left fun x hx => by rw [opSV_congr h hx]

theorem quietOp_pure {H H' : List AObj} {op : Op} (hp : pureOp op = true) (xs : List TV) : quietOp P H op xs = quietOp P H' op xs := by
  unfold quietOp
  split <;> first
    | rfl
    | (simp [pureOp] at hp; done)
    | (simp only [pureOp] at hp
       split at hp
       · cases hp
       · rename_i q; rw [q])

theorem quiet_pure {H H' : List AObj} {op : Op} (hp : pureOp op = true) (vs : List SV) : quiet P H op vs = quiet P H' op vs := by
  unfold quiet
  split <;> first | rfl | skip
  split
  · rw [quietOp_pure (H := H) (H' := H') hp]
  · rfl

theorem quietX_congr {s s' : St} {ts : List (Nat × Bool)} {o : Oper} (h : ∀ d ∈ o.looksAt ops, sget s.sl d = sget s'.sl d) (hp : pureOp o.op = true ∨ s.H = s'.H) : quietX P s ts o = quietX P s' ts o := by
  unfold quietX
  split
  · rename_i c x y hop
    have hm : ∀ z ∈ [c, x, y], z ∈ o.op.operands.toList := by
      intro z hz
      rw [hop]
      simpa [Op.operands] using hz
    have ht : ∀ b, opTags s.sl b c = opTags s'.sl b c := by
      intro b
      cases c with
      | tmp d =>
        show tagsOf s.sl d b = tagsOf s'.sl d b
        unfold tagsOf
        rw [h d (mem_looksAt (hm (.tmp d) (by simp)))]
      | _ => rfl
    rw [opSV_congr h (hm c (by simp)), opSV_congr h (hm x (by simp)), opSV_congr h (hm y (by simp)), ht, ht]
  · rw [argsR_congr h]
    rcases hp with hp | hp
    · exact quiet_pure hp _
    · rw [hp]

theorem opQ_congr {s s' : St} {o : Oper} (h : ∀ d ∈ o.looksAt ops, sget s.sl d = sget s'.sl d) (hp : pureOp o.op = true ∨ s.H = s'.H) : opQ P ops s o = opQ P ops s' o := by
  unfold opQ
  rw [guardOf_congr h]
  split <;> first | rfl | (rw [quietX_congr h hp])

theorem noSel_spec : ∀ {l : List Oper}, noSel l = true → ∀ o ∈ l, ∀ cs b, o.op ≠ .select cs b
  | [], _, o, h, _, _ => by cases h
  | x :: r, h, o, hm, cs, b => by
    unfold noSel at h
    split at h
    · cases h
    · rename_i hx
      rcases List.mem_cons.1 hm with rfl | hm
      · exact fun e => hx _ _ e
      · exact noSel_spec h o hm cs b

theorem exec_agree {o : Oper} (hs : ∀ cs b, o.op ≠ .select cs b) {a a' : Act} (h : ∀ d ∈ o.looksAt ops, a.tmps[d]? = a'.tmps[d]?) : execOp a.eval o = execOp a'.eval o := by
  refine execOp_congr o hs fun x hx => ?_
  cases x with
  | tmp t =>
    have := h t (mem_looksAt (by simpa using hx))
    simp only [Act.eval, Array.getD_eq_getD_getElem?, this]
  | _ => rfl

theorem wanted_agree {o : Oper} {a a' : Act} (h : ∀ d ∈ o.looksAt ops, a.tmps[d]? = a'.tmps[d]?) : Region.wanted o (yielded ops a.tmps) = Region.wanted o (yielded ops a'.tmps) := by
  unfold Region.wanted
  cases hg : o.guard with
  | none => rfl
  | some gw =>
    obtain ⟨g, want⟩ := gw
    have hy : yielded ops a.tmps g = yielded ops a'.tmps g := by
      unfold yielded
      cases ht : (ops[g]?).bind (·.dst) with
      | none => rfl
      | some t =>
        have : t ∈ o.looksAt ops := List.mem_append_right _ (by simp [hg, ht])
        simp only [Option.bind_some, h t this]
    simp only [hy]

theorem YieldsAt.agree {o : Oper} (hs : ∀ cs b, o.op ≠ .select cs b) {x : Value} {a a' : Act} {w : World} (h : ∀ d ∈ o.looksAt ops, a.tmps[d]? = a'.tmps[d]?) (hy : YieldsAt P ops o x a w) : YieldsAt P ops o x a' w := by
  unfold YieldsAt at *
  rw [← exec_agree hs h, ← wanted_agree h]
  exact hy

theorem put_tmps_ne {a : Act} {d i : Nat} {x : Value} (h : d ≠ i) : (a.put (some d) x).tmps[i]? = a.tmps[i]? := by
  simp [Act.put, Array.getElem?_setIfInBounds_ne h]

theorem put_tmps_eq {a : Act} {d : Nat} {x : Value} (h : d < a.tmps.size) : (a.put (some d) x).tmps[d]? = some x := by
  simp [Act.put, h]

theorem put_tmps_size {a : Act} {dst : Option Tmp} {x : Value} : (a.put dst x).tmps.size = a.tmps.size := by
  cases dst <;> simp [Act.put]

theorem put_defers' {a : Act} {dst : Option Tmp} {x : Value} : (a.put dst x).defers = a.defers := by
  cases dst <;> rfl

/-! ### The same value -/
theorem castL_rfl {a : Ty} (xs : List a.D) : castL (rfl : a = a) xs = xs := rfl

theorem sameB_spec {a b : BV} {es : List Prop} (h : sameB a b = some es) (he : ∀ q ∈ es, q) : a = b := by
  unfold sameB at h
  split at h <;> first | rfl | skip
  all_goals try (split at h)
  all_goals first | (cases h; done) | (simp only [Option.some.injEq] at h; subst h)
  all_goals simp only [List.mem_cons, List.not_mem_nil, or_false, forall_eq_or_imp, forall_eq, false_imp_iff, implies_true] at he
  all_goals first
    | (rw [he]; done)
    | (rename_i h1; rw [beq_iff'.1 h1]; done)
    | (rename_i h1; rw [beq_iff'.1 h1, he]; done)
    | (rename_i h1 h2; rw [beq_iff'.1 h1, beq_iff'.1 h2]; done)
    | (rename_i h1 h2; rw [beq_iff'.1 h1, eqList_eq h2]; done)
    | (rename_i h1 h2; rw [beq_iff'.1 h1, beq_iff'.1 h2, he.1, he.2]; done)
    | (rename_i h1 h2 h3; rw [beq_iff'.1 h1, beq_iff'.1 h2, beq_iff'.1 h3, he]; done)
    | (rename_i h _; subst h; rw [he]; done)
    | (rename_i h h1 _; subst h; rw [beq_iff'.1 h1, ← he]; rfl)

theorem sameL_spec : ∀ {a b : List BV} {es : List Prop}, sameL a b = some es → (∀ q ∈ es, q) → a = b
  | [], [], _, _, _ => rfl
  | [], _ :: _, _, h, _ => by simp [sameL] at h
  | _ :: _, [], _, h, _ => by simp [sameL] at h
  | a :: as, b :: bs, es, h, he => by
    simp only [sameL] at h
    split at h
    · rename_i p q h1 h2
      simp only [Option.some.injEq] at h
      subst h
      rw [sameB_spec h1 fun x hx => he x (by simp [hx]), sameL_spec h2 fun x hx => he x (by simp [hx])]
    · cases h

theorem sameT_spec {a b : TV} {es : List Prop} (h : sameT a b = some es) (he : ∀ q ∈ es, q) : a = b := by
  unfold sameT at h
  split at h
  · rw [sameB_spec h he]
  · rw [sameL_spec h he]
  · cases h

theorem sameTs_spec : ∀ {a b : List TV} {es : List Prop}, sameTs a b = some es → (∀ q ∈ es, q) → a = b
  | [], [], _, _, _ => rfl
  | [], _ :: _, _, h, _ => by simp [sameTs] at h
  | _ :: _, [], _, h, _ => by simp [sameTs] at h
  | a :: as, b :: bs, es, h, he => by
    simp only [sameTs] at h
    split at h
    · rename_i p q h1 h2
      simp only [Option.some.injEq] at h
      subst h
      rw [sameT_spec h1 fun x hx => he x (by simp [hx]), sameTs_spec h2 fun x hx => he x (by simp [hx])]
    · cases h

theorem sameTags_spec : ∀ {a b : List (Nat × Bool)}, sameTags a b = true → a = b
  | [], [], _ => rfl
  | [], _ :: _, h => by simp [sameTags] at h
  | _ :: _, [], h => by simp [sameTags] at h
  | (d, w) :: r, (e, v) :: r', h => by
    unfold sameTags at h
    split at h
    · rename_i q; rw [beq_iff'.1 q, sameTags_spec h]
    · rename_i q; rw [beq_iff'.1 q, sameTags_spec h]
    · cases h

theorem sameS_spec {a b : SV} {es : List Prop} (h : sameS a b = some es) (he : ∀ q ∈ es, q) : a = b := by
  unfold sameS at h
  split at h
  · rfl
  · rw [sameT_spec h he]
  · rw [sameTs_spec h he]
  · split at h
    · rename_i p h1 h2
      simp only [Option.some.injEq] at h
      subst h
      rw [sameT_spec h1 fun x hx => he x (by simp [hx]), he (_ = _) List.mem_cons_self, sameTags_spec h2]
    · cases h
  · cases h

/-! ### What is pending -/
/-- Taken ahead, in the state 's'. -/
def Taken (P : Program) (ops : Array Oper) (s : St) (p : Nat × Oper) : Prop :=
  ops[p.1]? = some p.2 ∧ ∃ d obs v, p.2.dst = some d ∧ d < s.N ∧ d ∉ p.2.looksAt ops ∧ opQ P ops s p.2 = some (obs, v) ∧ (∀ q ∈ obs, q) ∧ sget s.sl d = v

theorem recheck_spec {s : St} : ∀ {L : List (Nat × Oper)} {obs : List Prop}, recheck P ops s L = some obs → (∀ q ∈ obs, q) → ∀ p ∈ L, pureOp p.2.op = true ∨
    ∃ d obs' v, p.2.dst = some d ∧ opQ P ops s p.2 = some (obs', v) ∧ (∀ q ∈ obs', q) ∧ sget s.sl d = v
  | [], _, _, _, p, hp => by cases hp
  | (i, x) :: r, obs, h, ho, p, hp => by
    unfold recheck at h
    split at h
    · rename_i hpure
      rcases List.mem_cons.1 hp with rfl | hp
      · exact .inl hpure
      · exact recheck_spec h ho p hp
    · split at h
      · rename_i d obs' v hd hq
        split at h
        · rename_i es q h1 h2
          simp only [Option.some.injEq] at h
          subst h
          rcases List.mem_cons.1 hp with rfl | hp
          · exact .inr ⟨d, obs', v, hd, hq, fun x hx => ho x (by simp [hx]), (sameS_spec h1 fun x hx => ho x (by simp [hx])).symm⟩
          · exact recheck_spec h2 (fun x hx => ho x (by simp [hx])) p hp
        · cases h
      · cases h

def cb (C : Array Bool) (j : Nat) : Bool := C.getD j false

/-- The pending operations' values are taken anew. -/
theorem retake (hsel : ∀ (j : Nat) (o : Oper) cs b, ops[j]? = some o → o.op ≠ .select cs b) {s : St} {w : World} (C : Array Bool) {as : Act} (hr : Rel β0 H0 Z0 w0 s as w) : ∀ (L : List (Nat × Oper)), (∀ p ∈ L, Taken P ops s p) → L.Pairwise (fun p q => Apart ops q p) →
    ∃ as', Rel β0 H0 Z0 w0 s as' w ∧ as'.tmps.size = as.tmps.size ∧ as'.defers = as.defers ∧ (∀ d, (∀ p ∈ L, cb C p.1 = false → p.2.dst ≠ some d) → as'.tmps[d]? = as.tmps[d]?) ∧
      ∀ p ∈ L, cb C p.1 = false → ∀ d, p.2.dst = some d → YieldsAt P ops p.2 (as'.tmps.getD d undef) as' w
  | [], _, _ => ⟨as, hr, rfl, rfl, fun _ _ => rfl, fun p hp => by cases hp⟩
  | (i, x) :: r, ht, hp => by
    obtain ⟨hp1, hp2⟩ := List.pairwise_cons.1 hp
    obtain ⟨a1, g1, g2, g3, g4, g5⟩ := retake hsel C hr r (fun p hp => ht p (by simp [hp])) hp2
    cases hC : cb C i with
    | true =>
      refine ⟨a1, g1, g2, g3, fun d h => g4 d fun p hp hc => h p (by simp [hp]) hc, fun p hp hc d hd => ?_⟩
      rcases List.mem_cons.1 hp with rfl | hp
      · rw [hC] at hc; cases hc
      · exact g5 p hp hc d hd
    | false =>
      obtain ⟨hi, d, obs, v, hd, hdN, hdl, hq, ho, hsl⟩ := ht (i, x) (by simp)
      obtain ⟨r1, r2, r3, r4, β, Z, t, hwf, hs⟩ := id g1
      obtain ⟨⟨xv, hy, hc⟩, hvw⟩ := opQ_sound t.heap hwf hs hq ho
      have hsz : d < a1.tmps.size := by rw [r4]; exact hdN
      refine ⟨a1.put (some d) xv, ⟨r1, r2, by rw [put_defers']; exact r3, by rw [put_tmps_size]; exact r4, β, Z, t, hwf, fun k => ?_⟩, by rw [put_tmps_size]; exact g2, by rw [put_defers']; exact g3, fun k hk => ?_, fun p hp hc' e he => ?_⟩
      · rw [getD_put]
        split
        · rename_i hkd; subst hkd; rw [hsl]; exact hc
        · exact hs k
      · have : d ≠ k := fun e => hk (i, x) (by simp) hC (by rw [hd, e])
        rw [put_tmps_ne this]
        exact g4 k fun p hp hc => hk p (by simp [hp]) hc
      · rcases List.mem_cons.1 hp with rfl | hp
        · have : e = d := by rw [hd] at he; cases he; rfl
          subst this
          rw [getD_put, if_pos rfl, if_pos hsz]
          exact hy.agree (hsel i x · · hi) fun k hk => (put_tmps_ne fun e => hdl (by rw [e]; exact hk)).symm
        · have hap := hp1 p hp e he
          have h2 := hap.2 d hd
          rw [getD_put, if_neg (fun e => h2.1 e.symm)]
          exact (g5 p hp hc' e he).agree (hsel p.1 p.2 · · (ht p (by simp [hp])).1) fun k hk => (put_tmps_ne fun e => h2.2 (by rw [e]; exact hk)).symm

/-- Each pending operation came behind what is carried out or was taken ahead of it. -/
def InOrder (C : Array Bool) : List (Nat × Oper) → Prop
  | [] => True
  | p :: r => (∀ e ∈ p.2.after.toList, Region.binds .any e = true → cb C e.on = true ∨ ∃ y, (e.on, y) ∈ r) ∧ InOrder C r

theorem InOrder.mono {C C' : Array Bool} (h : ∀ j, cb C j = true → cb C' j = true) : ∀ {L : List (Nat × Oper)}, InOrder C L → InOrder C' L
  | [], _ => trivial
  | _ :: _, hl => ⟨fun e he hb => (hl.1 e he hb).imp (h _) id, InOrder.mono h hl.2⟩

theorem dropDone_spec {C : Array Bool} (hcl : ∀ (j : Nat) (y : Oper), ops[j]? = some y → cb C j = true → ∀ e ∈ y.after.toList, Region.binds .any e = true → cb C e.on = true) :
    ∀ (L : List (Nat × Oper)) (es : List Edge), (∀ e ∈ es, Region.binds .any e = true → cb C e.on = true) → (∀ p ∈ L, ops[p.1]? = some p.2) → InOrder C L →
      (∀ p ∈ L, p ∈ dropDone L es ∨ cb C p.1 = true) ∧ (dropDone L es).Sublist L ∧ InOrder C (dropDone L es)
  | [], es, _, _, _ => ⟨(fun p hp => by cases hp), List.Sublist.refl _, trivial⟩
  | (i, x) :: r, es, he, hL, ⟨ho1, ho2⟩ => by
    unfold dropDone
    split
    · rename_i hon
      obtain ⟨e, hem, heb, hei⟩ := onB_iff.1 hon
      have hCi : cb C i = true := by rw [← hei]; exact he e hem heb
      have hx := hcl i x (hL (i, x) (by simp)) hCi
      obtain ⟨g1, g2, g3⟩ := dropDone_spec hcl r (x.after.toList ++ es) (fun e hm hb => by
        rcases List.mem_append.1 hm with hm | hm
        · exact hx e hm hb
        · exact he e hm hb) (fun p hp => hL p (by simp [hp])) ho2
      refine ⟨fun p hp => ?_, g2.trans (List.sublist_cons_self _ _), g3⟩
      rcases List.mem_cons.1 hp with rfl | hp
      · exact .inr hCi
      · exact g1 p hp
    · obtain ⟨g1, g2, g3⟩ := dropDone_spec hcl r es he (fun p hp => hL p (by simp [hp])) ho2
      refine ⟨fun p hp => ?_, g2.cons_cons _, fun e hm hb => ?_, g3⟩
      · rcases List.mem_cons.1 hp with rfl | hp
        · exact .inl (by simp)
        · rcases g1 p hp with h | h
          · exact .inl (List.mem_cons_of_mem _ h)
          · exact .inr h
      · rcases ho1 e hm hb with h | ⟨y, hy⟩
        · exact .inl h
        · rcases g1 _ hy with h | h
          · exact .inr ⟨y, h⟩
          · exact .inl h

/-- The concrete machine, with some of what was taken ahead still pending. -/
structure Sim (P : Program) (ops : Array Oper) (β0 : List Value) (H0 : List AObj) (Z0 : Nat → Prop) (w0 : World) (C : Array Bool) (A : List Nat) (L : List (Nat × Oper)) (s : St) (a : Act) (w : World) (as : Act) : Prop where
  size : C.size = ops.size
  sub : ∀ j, cb C j = true → j ∈ A
  pend : ∀ j ∈ A, cb C j = false → ∃ x, (j, x) ∈ L
  mem : ∀ p ∈ L, p.1 ∈ A
  closed : ∀ (j : Nat) (y : Oper), ops[j]? = some y → cb C j = true → ∀ e ∈ y.after.toList, Region.binds .any e = true → cb C e.on = true
  order : InOrder C L
  taken : ∀ p ∈ L, Taken P ops s p
  apart : ∀ p ∈ L, ∀ (j : Nat) (y : Oper), ops[j]? = some y → j ∉ A → Apart ops p (j, y)
  pair : L.Pairwise (fun p q => Apart ops q p)
  rel : Rel β0 H0 Z0 w0 s as w
  sz : a.tmps.size = as.tmps.size
  defers : a.defers = as.defers
  agree : ∀ d, (∀ p ∈ L, cb C p.1 = false → p.2.dst ≠ some d) → a.tmps[d]? = as.tmps[d]?
  yields : ∀ p ∈ L, cb C p.1 = false → ∀ d, p.2.dst = some d → YieldsAt P ops p.2 (as.tmps.getD d undef) as w

theorem cb_set {C : Array Bool} {i j : Nat} (hi : i < C.size) : cb (C.setIfInBounds i true) j = (if i = j then true else cb C j) := by
  unfold cb
  simp only [Array.getD_eq_getD_getElem?, Array.getElem?_setIfInBounds]
  split
  · simp [hi]
  · rfl

theorem pair_or {α : Type} {R : α → α → Prop} : ∀ {l : List α}, l.Pairwise R → ∀ {x y : α}, x ∈ l → y ∈ l → x = y ∨ R x y ∨ R y x
  | [], _, x, y, hx, _ => by cases hx
  | a :: r, h, x, y, hx, hy => by
    obtain ⟨h1, h2⟩ := List.pairwise_cons.1 h
    rcases List.mem_cons.1 hx with rfl | hx
    · rcases List.mem_cons.1 hy with rfl | hy
      · exact .inl rfl
      · exact .inr (.inl (h1 y hy))
    · rcases List.mem_cons.1 hy with e | hy
      · rw [e]; exact .inr (.inr (h1 x hx))
      · exact pair_or h2 hx hy

theorem ready_iff {C : Array Bool} (hs : C.size = ops.size) {j : Nat} : j ∈ Region.ready .any ops C ↔ ∃ o, ops[j]? = some o ∧ cb C j = false ∧ ∀ e ∈ o.after.toList, Region.binds .any e = true → cb C e.on = true := by
  rw [mem_ready]
  constructor
  · rintro ⟨h0, o, ho, h⟩
    refine ⟨o, ho, ?_, fun e he hb => h e (by simpa using he) hb⟩
    have hlt : j < C.size := by rw [hs]; exact (Array.getElem?_eq_some_iff.1 ho).1
    unfold cb
    simpa [hlt] using h0
  · rintro ⟨o, ho, h0, h⟩
    have hlt : j < C.size := by rw [hs]; exact (Array.getElem?_eq_some_iff.1 ho).1
    unfold cb at h0
    exact ⟨by simpa [hlt] using h0, o, ho, fun e he hb => h e (by simpa using he) hb⟩

/-- What a ready operation looks at is not pending. -/
theorem Sim.looks {C : Array Bool} {A : List Nat} {L : List (Nat × Oper)} {s : St} {a as : Act} {w : World} (h : Sim P ops β0 H0 Z0 w0 C A L s a w as) {j : Nat} {y : Oper} (hy : ops[j]? = some y)
    (hr : ∀ e ∈ y.after.toList, Region.binds .any e = true → cb C e.on = true) (hj : j ∉ A ∨ (j, y) ∈ L) : ∀ d ∈ y.looksAt ops, a.tmps[d]? = as.tmps[d]? := by
  intro d hd
  refine h.agree d fun p hp hc he => ?_
  have no : Apart ops p (j, y) → False := fun hap => by
    obtain ⟨e, hem, heb, hei⟩ := onB_iff.1 ((hap d he).1 hd)
    have := hr e hem heb
    rw [hei, hc] at this; cases this
  rcases hj with hj | hj
  · exact no (h.apart p hp j y hy hj)
  · rcases pair_or h.pair hp hj with e | hap | hap
    · subst e
      obtain ⟨_, d', _, _, hd', _, hl, _⟩ := h.taken _ hp
      have : d = d' := by rw [hd'] at he; cases he; rfl
      exact hl (this ▸ hd)
    · obtain ⟨_, d', _, _, hd', _⟩ := h.taken _ hj
      exact (((hap d' hd').2 d he).2 hd)
    · exact no hap

theorem wpOp_of_yields {Q : Exit → Act → World → Prop} {j : Nat} {y : Oper} (hy : ops[j]? = some y) {x : Value} {a : Act} {w : World} (h : YieldsAt P ops y x a w) {K : Act → World → Prop} (hK : K (a.put y.dst x) w) : wpOp P ops Q j K a w := by
  unfold wpOp
  simp only [hy]
  rcases h with ⟨h1, h2⟩ | ⟨h1, h2⟩
  · rw [if_pos h1]
    refine .inl ?_
    unfold Oper.wp
    rw [h2]
    exact hK
  · rw [h1]
    subst h2
    exact hK

/-- A pending operation is carried out. -/
theorem Sim.carry (hsel : ∀ (j : Nat) (o : Oper) cs b, ops[j]? = some o → o.op ≠ .select cs b) {C : Array Bool} {A : List Nat} {L : List (Nat × Oper)} {s : St} {a as : Act} {w : World} (h : Sim P ops β0 H0 Z0 w0 C A L s a w as) {j : Nat} {y : Oper} (hy : (j, y) ∈ L)
    (hc : cb C j = false) (hr : ∀ e ∈ y.after.toList, Region.binds .any e = true → cb C e.on = true) : ∃ x, YieldsAt P ops y x a w ∧ Sim P ops β0 H0 Z0 w0 (C.setIfInBounds j true) A L s (a.put y.dst x) w as := by
  obtain ⟨hj, d, obs, v, hd, hdN, hdl, hq, ho, hsl⟩ := h.taken _ hy
  have hyield := h.yields _ hy hc d hd
  have hlook := h.looks hj hr (.inr hy)
  have hlt : j < C.size := by rw [h.size]; exact (Array.getElem?_eq_some_iff.1 hj).1
  have hdz : d < as.tmps.size := by rw [h.rel.2.2.2.1]; exact hdN
  have up : ∀ k, cb C k = true → cb (C.setIfInBounds j true) k = true := fun k hk => by rw [cb_set hlt]; split <;> simp [hk]
  have dn : ∀ k, cb (C.setIfInBounds j true) k = false → k ≠ j ∧ cb C k = false := fun k hk => by
    rw [cb_set hlt] at hk
    split at hk
    · cases hk
    · rename_i hne; exact ⟨fun e => hne e.symm, hk⟩
  refine ⟨_, hyield.agree (hsel j y · · hj) fun k hk => (hlook k hk).symm, ?_⟩
  exact {
    size := by rw [Array.size_setIfInBounds]; exact h.size
    sub := fun k hk => by
      rw [cb_set hlt] at hk
      split at hk
      · rename_i e; rw [← e]; exact h.mem _ hy
      · exact h.sub k hk
    pend := fun k hk hc' => h.pend k hk (dn k hc').2
    mem := h.mem
    closed := fun k z hz hk e he hb => by
      rw [cb_set hlt] at hk
      split at hk
      · rename_i e'; subst e'
        have : z = y := by rw [hj] at hz; cases hz; rfl
        subst this
        exact up _ (hr e he hb)
      · exact up _ (h.closed k z hz hk e he hb)
    order := h.order.mono up
    taken := h.taken
    apart := h.apart
    pair := h.pair
    rel := h.rel
    sz := by rw [put_tmps_size]; exact h.sz
    defers := by rw [put_defers']; exact h.defers
    agree := fun k hk => by
      rw [hd]
      by_cases hkd : d = k
      · subst hkd
        rw [put_tmps_eq (by rw [h.sz]; exact hdz)]
        simp [hdz]
      · rw [put_tmps_ne hkd]
        refine h.agree k fun p hp hc' he => ?_
        by_cases hpj : p.1 = j
        · have h1 := (h.taken p hp).1
          rw [hpj, hj] at h1
          have : p.2 = y := by cases h1; rfl
          rw [this, hd] at he
          cases he; exact hkd rfl
        · exact hk p hp (by rw [cb_set hlt, if_neg (fun e => hpj e.symm)]; exact hc') he
    yields := fun p hp hc' => h.yields p hp (dn _ hc').2 }

def unl (C : Array Bool) : Nat := C.toList.count false

theorem unl_set {C : Array Bool} {j : Nat} (hlt : j < C.size) (hc : cb C j = false) : unl (C.setIfInBounds j true) + 1 = unl C := by
  unfold unl
  have hget : C.toList[j]'(by simpa using hlt) = false := by
    unfold cb at hc
    simpa [hlt] using hc
  rw [Array.toList_setIfInBounds, List.count_set (by simpa using hlt), hget]
  have hpos : 0 < C.toList.count false := by
    rw [List.count_pos_iff]
    exact hget ▸ List.getElem_mem _
  simp only [beq_self_eq_true, if_true]
  have : ((true : Bool) == false) = false := rfl
  rw [this]
  simp only [Bool.false_eq_true, if_false]
  omega

theorem unl_zero {C : Array Bool} (h : unl C = 0) {j : Nat} (hlt : j < C.size) : cb C j = true := by
  unfold unl at h
  rw [List.count_eq_zero] at h
  cases hc : cb C j with
  | true => rfl
  | false =>
    exfalso
    apply h
    unfold cb at hc
    have : C[j] = false := by simpa [hlt] using hc
    rw [← this]
    simp

/-- Nothing ready: nothing pending. -/
theorem Sim.done {C : Array Bool} {A : List Nat} {L : List (Nat × Oper)} {s : St} {a as : Act} {w : World} (h : Sim P ops β0 H0 Z0 w0 C A L s a w as) (hr : Region.ready .any ops C = []) : a = as ∧ readyA A (numbered 0 ops.toList) = [] := by
  have nr : ∀ j o, ops[j]? = some o → (∀ e ∈ o.after.toList, Region.binds .any e = true → cb C e.on = true) → cb C j = true := by
    intro j o ho he
    cases hc : cb C j with
    | true => rfl
    | false =>
      have := (ready_iff h.size).2 ⟨o, ho, hc, he⟩
      rw [hr] at this; cases this
  have all : ∀ (M : List (Nat × Oper)), InOrder C M → (∀ p ∈ M, ops[p.1]? = some p.2) → ∀ p ∈ M, cb C p.1 = true := by
    intro M
    induction M with
    | nil => intro _ _ p hp; cases hp
    | cons q r ih =>
      intro ho hm p hp
      have ihr := ih ho.2 fun p hp => hm p (by simp [hp])
      rcases List.mem_cons.1 hp with rfl | hp
      · refine nr _ _ (hm p (by simp)) fun e he hb => ?_
        rcases ho.1 e he hb with h | ⟨y, hy⟩
        · exact h
        · exact ihr _ hy
      · exact ihr p hp
  have hall := all L h.order fun p hp => (h.taken p hp).1
  have hA : ∀ j ∈ A, cb C j = true := by
    intro j hj
    cases hc : cb C j with
    | true => rfl
    | false =>
      obtain ⟨x, hx⟩ := h.pend j hj hc
      have := hall _ hx
      rw [hc] at this; cases this
  refine ⟨?_, ?_⟩
  · have ht : a.tmps = as.tmps := by
      apply Array.ext_getElem?
      intro i
      exact h.agree i fun p hp hc => by rw [hall p hp] at hc; cases hc
    cases a; cases as
    simp only [Act.mk.injEq]
    exact ⟨ht, h.defers⟩
  · cases hq : readyA A (numbered 0 ops.toList) with
    | nil => rfl
    | cons q r =>
      exfalso
      obtain ⟨j, o⟩ := q
      have hm : (j, o) ∈ readyA A (numbered 0 ops.toList) := by rw [hq]; simp
      obtain ⟨h1, h2, h3⟩ := readyA_iff.1 hm
      exact h2 (h.sub j (nr j o (numbered_zero.1 h1) fun e he hb => hA _ (h3 e he hb)))

/-- To show: the end; and what is carried out next that was not taken ahead. -/
theorem drain (hsel : ∀ (j : Nat) (o : Oper) cs b, ops[j]? = some o → o.op ≠ .select cs b) {Q : Exit → Act → World → Prop} {A : List Nat} {L : List (Nat × Oper)} {s : St} {w : World}
    (hE : readyA A (numbered 0 ops.toList) = [] → ∀ as, Rel β0 H0 Z0 w0 s as w → Q .normal as w)
    (hS : ∀ (fuel : Nat) (C : Array Bool) (a as : Act) (j : Nat) (y : Oper), Sim P ops β0 H0 Z0 w0 C A L s a w as → unl C ≤ fuel + 1 → (j, y) ∈ readyA A (numbered 0 ops.toList) → cb C j = false → (∀ e ∈ y.after.toList, Region.binds .any e = true → cb C e.on = true) → wpOp P ops Q j (wpAny P .any ops Q fuel (C.setIfInBounds j true)) a w) :
    ∀ (fuel : Nat) (C : Array Bool) (a as : Act), Sim P ops β0 H0 Z0 w0 C A L s a w as → unl C ≤ fuel → wpAny P .any ops Q fuel C a w := by
  intro fuel
  induction fuel with
  | zero =>
    intro C a as h hu
    have hr : Region.ready .any ops C = [] := by
      cases hq : Region.ready .any ops C with
      | nil => rfl
      | cons j r =>
        exfalso
        have : j ∈ Region.ready .any ops C := by rw [hq]; simp
        obtain ⟨o, ho, hc, _⟩ := (ready_iff h.size).1 this
        have hlt : j < C.size := by rw [h.size]; exact (Array.getElem?_eq_some_iff.1 ho).1
        rw [unl_zero (Nat.le_zero.1 hu) hlt] at hc; cases hc
    obtain ⟨rfl, h2⟩ := h.done hr
    exact ⟨hr, hE h2 a h.rel⟩
  | succ fuel ih =>
    intro C a as h hu
    refine ⟨fun hr => ?_, fun j hj => ?_⟩
    · obtain ⟨rfl, h2⟩ := h.done hr
      exact hE h2 a h.rel
    · obtain ⟨o, ho, hc, he⟩ := (ready_iff h.size).1 hj
      have hlt : j < C.size := by rw [h.size]; exact (Array.getElem?_eq_some_iff.1 ho).1
      by_cases hA : j ∈ A
      · obtain ⟨y, hy⟩ := h.pend j hA hc
        have : y = o := by have := (h.taken _ hy).1; rw [ho] at this; cases this; rfl
        subst this
        obtain ⟨x, hx, hsim⟩ := h.carry hsel hy hc he
        refine wpOp_of_yields ho hx (ih _ _ as hsim ?_)
        have := unl_set hlt hc
        omega
      · refine hS fuel C a as j o h hu (readyA_iff.2 ⟨numbered_zero.2 ho, hA, fun e hem hb => h.sub _ (he e hem hb)⟩) hc he

/-- A quiet operation is taken ahead. -/
theorem Sim.take (hsel : ∀ (j : Nat) (o : Oper) cs b, ops[j]? = some o → o.op ≠ .select cs b) {C : Array Bool} {A : List Nat} {L : List (Nat × Oper)} {s : St} {a as : Act} {w : World} (h : Sim P ops β0 H0 Z0 w0 C A L s a w as)
    {i : Nat} {x : Oper} {d : Nat} {obs : List Prop} {v : SV} (ht : takeOne P ops (numbered 0 ops.toList) s A (readyA A (numbered 0 ops.toList)) = some (i, x, d, obs, v)) (ho : ∀ q ∈ obs, q) (hok : putOK s (some d) v = true) :
    ∃ as', Sim P ops β0 H0 Z0 w0 C (i :: A) ((i, x) :: L) (s.put (some d) v) a w as' := by
  obtain ⟨hm, hd, hdN, hdl, hap, hq⟩ := takeOne_spec ht
  obtain ⟨hm1, hm2, hm3⟩ := readyA_iff.1 hm
  have hi := numbered_zero.1 hm1
  obtain ⟨r1, r2, r3, r4, β, Z, t, hwf, hs⟩ := id h.rel
  obtain ⟨⟨xv, hy, hc⟩, hvw⟩ := opQ_sound t.heap hwf hs hq ho
  have hdz : d < as.tmps.size := by rw [r4]; exact hdN
  have hCi : cb C i = false := by
    cases hq : cb C i with
    | false => rfl
    | true => exact absurd (h.sub i hq) hm2
  have hget : ∀ k, sget (s.put (some d) v).sl k = if k = d then v else sget s.sl k := fun k => by
    unfold St.put
    have : Nat.blt d s.N = true := Nat.ble_eq_true_of_le hdN
    dsimp only
    rw [this]
    exact sget_sput _ _ _ _
  have hH : (s.put (some d) v).H = s.H := by unfold St.put; dsimp only; split <;> rfl
  have hN : (s.put (some d) v).N = s.N := by unfold St.put; dsimp only; split <;> rfl
  have hq' : ∀ (y : Oper), d ∉ y.looksAt ops → opQ P ops (s.put (some d) v) y = opQ P ops s y := fun y hy => opQ_congr (fun k hk => by rw [hget, if_neg (fun (e : k = d) => hy (e ▸ hk))]) (.inr hH)
  exact ⟨as.put (some d) xv, {
    size := h.size
    sub := fun j hj => List.mem_cons_of_mem _ (h.sub j hj)
    pend := fun j hj hc' => by
      rcases List.mem_cons.1 hj with rfl | hj
      · exact ⟨x, by simp⟩
      · obtain ⟨y, hy⟩ := h.pend j hj hc'; exact ⟨y, List.mem_cons_of_mem _ hy⟩
    mem := fun p hp => by
      rcases List.mem_cons.1 hp with rfl | hp
      · exact List.mem_cons_self
      · exact List.mem_cons_of_mem _ (h.mem p hp)
    closed := h.closed
    order := ⟨fun e he hb => by
      cases hce : cb C e.on with
      | true => exact .inl rfl
      | false => exact .inr (h.pend _ (hm3 e he hb) hce), h.order⟩
    taken := fun p hp => by
      rcases List.mem_cons.1 hp with rfl | hp
      · exact ⟨hi, d, obs, v, hd, by rw [hN]; exact hdN, hdl, by rw [hq' x hdl]; exact hq, ho, by rw [hget, if_pos rfl]⟩
      · obtain ⟨g1, d', obs', v', g2, g3, g4, g5, g6, g7⟩ := h.taken p hp
        have := (h.apart p hp i x hi hm2 d' g2).2 d hd
        exact ⟨g1, d', obs', v', g2, by rw [hN]; exact g3, g4, by rw [hq' _ this.2]; exact g5, g6, by rw [hget, if_neg (fun e => this.1 e.symm)]; exact g7⟩
    apart := fun p hp j y hj hjA => by
      rcases List.mem_cons.1 hp with rfl | hp
      · exact apartB_spec hd hap j y (numbered_zero.2 hj) (fun e => hjA (by simp [e])) fun hh => hjA (List.mem_cons_of_mem _ hh)
      · exact h.apart p hp j y hj fun hh => hjA (List.mem_cons_of_mem _ hh)
    pair := List.pairwise_cons.2 ⟨fun p hp => h.apart p hp i x hi hm2, h.pair⟩
    rel := Rel.put ⟨r1, r2, r3, r4⟩ t hwf hs hok hvw hc
    sz := by rw [put_tmps_size]; exact h.sz
    defers := by rw [put_defers']; exact h.defers
    agree := fun k hk => by
      have hne : d ≠ k := fun e => hk (i, x) (by simp) hCi (by rw [hd, e])
      rw [put_tmps_ne hne]
      exact h.agree k fun p hp => hk p (List.mem_cons_of_mem _ hp)
    yields := fun p hp hc' e he => by
      rcases List.mem_cons.1 hp with rfl | hp
      · have : e = d := by rw [hd] at he; cases he; rfl
        subst this
        rw [getD_put, if_pos rfl, if_pos hdz]
        exact hy.agree (hsel i x · · hi) fun k hk => (put_tmps_ne fun e => hdl (by rw [e]; exact hk)).symm
      · have h2 := (h.apart p hp i x hi hm2 e he).2 d hd
        rw [getD_put, if_neg (fun e => h2.1 e.symm)]
        exact (h.yields p hp hc' e he).agree (hsel p.1 p.2 · · (h.taken p hp).1) fun k hk => (put_tmps_ne fun e => h2.2 (by rw [e]; exact hk)).symm }⟩

/-- Another operation is carried out. -/
theorem Sim.step (hsel : ∀ (j : Nat) (o : Oper) cs b, ops[j]? = some o → o.op ≠ .select cs b) {C : Array Bool} {A : List Nat} {L : List (Nat × Oper)} {s : St} {a as : Act} {w : World} (h : Sim P ops β0 H0 Z0 w0 C A L s a w as)
    {j : Nat} {y : Oper} (hj : ops[j]? = some y) (hA : j ∉ A) (he : ∀ e ∈ y.after.toList, Region.binds .any e = true → cb C e.on = true)
    {x : Value} {w' : World} {r : SV} {H' : List AObj} (hr : Rel β0 H0 Z0 w0 ((s.setH H').put y.dst r) (as.put y.dst x) w') {obs : List Prop}
    (hre : recheck P ops ((s.setH H').put y.dst r) (dropDone L y.after.toList) = some obs) (ho : ∀ q ∈ obs, q) :
    ∃ as', Sim P ops β0 H0 Z0 w0 (C.setIfInBounds j true) (j :: A) (dropDone L y.after.toList) ((s.setH H').put y.dst r) (a.put y.dst x) w' as' := by
  have hlt : j < C.size := by rw [h.size]; exact (Array.getElem?_eq_some_iff.1 hj).1
  have up : ∀ k, cb C k = true → cb (C.setIfInBounds j true) k = true := fun k hk => by rw [cb_set hlt]; split <;> simp [hk]
  obtain ⟨d1, d2, d3⟩ := dropDone_spec h.closed L y.after.toList he (fun p hp => (h.taken p hp).1) h.order
  have dm : ∀ p ∈ dropDone L y.after.toList, p ∈ L := fun p hp => d2.subset hp
  have ne : ∀ p ∈ L, p.1 ≠ j := fun p hp e => hA (e ▸ h.mem p hp)
  have hN : ((s.setH H').put y.dst r).N = s.N := by
    unfold St.put
    split
    · rfl
    · split <;> rfl
  have hget : ∀ k, y.dst ≠ some k → sget ((s.setH H').put y.dst r).sl k = sget s.sl k := fun k hk => by
    unfold St.put
    split
    · rfl
    · rename_i d hd
      have hdk : k ≠ d := fun e => hk (by rw [hd, e])
      split
      · show sget (sput s.sl d r) k = _
        rw [sget_sput, if_neg hdk]
      · show sget (sput s.sl d .any) k = _
        rw [sget_sput, if_neg hdk]
  have htak : ∀ p ∈ dropDone L y.after.toList, Taken P ops ((s.setH H').put y.dst r) p := by
    intro p hp
    obtain ⟨g1, d, obs', v, g2, g3, g4, g5, g6, g7⟩ := h.taken p (dm p hp)
    have hap := h.apart p (dm p hp) j y hj hA d g2
    have hgd : sget ((s.setH H').put y.dst r).sl d = sget s.sl d := hget d fun e => (hap.2 d e).1 rfl
    rcases recheck_spec hre ho p hp with hp' | ⟨d', obs'', v', k1, k2, k3, k4⟩
    · refine ⟨g1, d, obs', v, g2, by rw [hN]; exact g3, g4, ?_, g6, by rw [hgd]; exact g7⟩
      rw [← g5]
      exact opQ_congr (fun k hk => hget k fun e => (hap.2 k e).2 hk) (.inl hp')
    · have : d' = d := by rw [g2] at k1; cases k1; rfl
      subst this
      exact ⟨g1, d', obs'', v', g2, by rw [hN]; exact g3, g4, k2, k3, k4⟩
  obtain ⟨as', q1, q2, q3, q4, q5⟩ := retake hsel (C.setIfInBounds j true) hr (dropDone L y.after.toList) htak (h.pair.sublist d2)
  rw [put_tmps_size] at q2
  rw [put_defers'] at q3
  refine ⟨as', {
    size := by rw [Array.size_setIfInBounds]; exact h.size
    sub := fun k hk => by
      rw [cb_set hlt] at hk
      split at hk
      · rename_i e; rw [e]; exact List.mem_cons_self
      · exact List.mem_cons_of_mem _ (h.sub k hk)
    pend := fun k hk hc => by
      rw [cb_set hlt] at hc
      split at hc
      · cases hc
      · rename_i hne
        rcases List.mem_cons.1 hk with e | hk
        · exact absurd e.symm hne
        · obtain ⟨z, hz⟩ := h.pend k hk hc
          rcases d1 _ hz with hz | hz
          · exact ⟨z, hz⟩
          · rw [hc] at hz; cases hz
    mem := fun p hp => List.mem_cons_of_mem _ (h.mem p (dm p hp))
    closed := fun k z hz hk e hem hb => by
      rw [cb_set hlt] at hk
      split at hk
      · rename_i e'; subst e'
        have : z = y := by rw [hj] at hz; cases hz; rfl
        subst this
        exact up _ (he e hem hb)
      · exact up _ (h.closed k z hz hk e hem hb)
    order := d3.mono up
    taken := htak
    apart := fun p hp k z hk hkA => h.apart p (dm p hp) k z hk fun hh => hkA (List.mem_cons_of_mem _ hh)
    pair := h.pair.sublist d2
    rel := q1
    sz := by rw [put_tmps_size, q2]; exact h.sz
    defers := by rw [put_defers', q3]; exact h.defers
    agree := fun k hk => by
      rw [q4 k hk]
      by_cases hyk : y.dst = some k
      · rw [hyk]
        simp only [Act.put, Array.getElem?_setIfInBounds, if_true, h.sz]
      · have e1 : ∀ (b : Act), (b.put y.dst x).tmps[k]? = b.tmps[k]? := fun b => by
          cases hdd : y.dst with
          | none => rfl
          | some d => exact put_tmps_ne fun e => hyk (by rw [hdd, e])
        rw [e1, e1]
        refine h.agree k fun p hp hc hd => ?_
        rcases d1 p hp with hp' | hp'
        · exact hk p hp' (by rw [cb_set hlt, if_neg (fun e => ne p hp e.symm)]; exact hc) hd
        · rw [hc] at hp'; cases hp'
    yields := q5 }⟩

theorem allOf_iff {f : Nat × Oper → Prop} : ∀ {l : List (Nat × Oper)}, allOf f l ↔ ∀ x ∈ l, f x
  | [] => by simp [allOf]
  | [x] => by simp [allOf]
  | x :: y :: r => by simp only [allOf, List.mem_cons, forall_eq_or_imp, allOf_iff (l := y :: r)]

theorem branch_sound (hT : TabOK P T) (hsel : ∀ (j : Nat) (o : Oper) cs b, ops[j]? = some o → o.op ≠ .select cs b) {Q : Exit → Act → World → Prop} {A : List Nat} {L : List (Nat × Oper)} {s : St} {next : List Nat → List (Nat × Oper) → St → Prop}
    (hnext : ∀ (A : List Nat) (L : List (Nat × Oper)) (s : St), next A L s → ∀ (fuel : Nat) (C : Array Bool) (a as : Act) (w : World), Sim P ops β0 H0 Z0 w0 C A L s a w as → unl C ≤ fuel → wpAny P .any ops Q fuel C a w)
    {w : World} (hne : readyA A (numbered 0 ops.toList) ≠ []) (hb : branchVC P T ops next A L s (readyA A (numbered 0 ops.toList))) :
    ∀ (fuel : Nat) (C : Array Bool) (a as : Act), Sim P ops β0 H0 Z0 w0 C A L s a w as → unl C ≤ fuel → wpAny P .any ops Q fuel C a w := by
  refine drain hsel (fun h => absurd h hne) ?_
  intro fuel C a as j y h hu hm hc he
  have hop := allOf_iff.1 hb (j, y) hm
  obtain ⟨hm1, hm2, hm3⟩ := readyA_iff.1 hm
  have hj := numbered_zero.1 hm1
  have hlt : j < C.size := by rw [h.size]; exact (Array.getElem?_eq_some_iff.1 hj).1
  have hdoes := opVC_does (β0 := β0) (H0 := H0) (Z0 := Z0) (w0 := w0) hT hop h.rel
  have hlook := h.looks hj he (.inl hm2)
  have hcont : ∀ x w', NxS β0 H0 Z0 w0 s (fun s' => match dropDone L y.after.toList with
      | L' => match recheck P ops s' L' with
        | some obs => conj obs (next (j :: A) L' s')
        | none => False) y (as.put y.dst x) w' → wpAny P .any ops Q fuel (C.setIfInBounds j true) (a.put y.dst x) w' := by
    rintro x w' ⟨r, H', hK, hrel⟩
    dsimp only at hK
    split at hK
    · rename_i obs hre
      obtain ⟨ho, hK⟩ := conj_iff.1 hK
      obtain ⟨as', hsim⟩ := h.step hsel hj hm2 he hrel hre ho
      refine hnext _ _ _ hK fuel _ _ as' w' hsim ?_
      have := unl_set hlt hc
      omega
    · exact hK.elim
  unfold wpOp
  simp only [hj]
  rw [wanted_agree hlook]
  rw [← exec_agree (hsel j y · · hj) hlook] at hdoes
  split
  · rename_i hw
    rw [if_pos hw] at hdoes
    exact .inl (hdoes.wp hcont)
  · rename_i hw
    rw [if_neg hw] at hdoes
    exact hcont _ _ hdoes

theorem sameO_spec {a b : AObj} {es : List Prop} (h : sameO a b = some es) (he : ∀ q ∈ es, q) : a = b := by
  unfold sameO at h
  split at h
  · split at h
    · rename_i q q'; cases h; rw [beq_iff'.1 q, sameL_spec q' he]
    · cases h
  · split at h
    · rename_i hq q _; subst hq; cases h; rw [beq_iff'.1 q, ← he _ (.head _)]; rfl
    · cases h
  · split at h
    · rename_i hq q _; subst hq; cases h; rw [beq_iff'.1 q, ← he _ (.head _)]; rfl
    · cases h
  · split at h
    · rename_i hq q _; subst hq; cases h; rw [beq_iff'.1 q, ← he _ (.head _), he _ (.tail _ (.head _))]; rfl
    · cases h
  · split at h
    · rename_i hq hg _ _; subst hq hg; cases h; rw [← he _ (.head _)]; rfl
    · rename_i hq hg _ _; subst hq hg; cases h; rw [← he _ (.head _)]; rfl
    · cases h
  · rfl
  · cases h

theorem sameH_spec : ∀ {a b : List AObj} {es : List Prop}, sameH a b = some es → (∀ q ∈ es, q) → a = b
  | [], [], _, _, _ => rfl
  | [], _ :: _, _, h, _ => by simp [sameH] at h
  | _ :: _, [], _, h, _ => by simp [sameH] at h
  | x :: a, y :: b, es, h, he => by
    simp only [sameH] at h
    split at h
    · rename_i p q h1 h2
      cases h
      rw [sameO_spec h1 fun x hx => he x (by simp [hx]), sameH_spec h2 fun x hx => he x (by simp [hx])]
    · cases h

theorem sameSl_spec : ∀ {a b : List (Nat × SV)} {es : List Prop}, sameSl a b = some es → (∀ q ∈ es, q) → a = b
  | [], [], _, _, _ => rfl
  | [], _ :: _, _, h, _ => by simp [sameSl] at h
  | _ :: _, [], _, h, _ => by simp [sameSl] at h
  | (i, x) :: a, (j, y) :: b, es, h, he => by
    simp only [sameSl] at h
    split at h
    · rename_i p q h0 h1 h2
      cases h
      rw [beq_iff'.1 h0, sameS_spec h1 fun x hx => he x (by simp [hx]), sameSl_spec h2 fun x hx => he x (by simp [hx])]
    · cases h

theorem atS_spec {c : Option St} {t : St} (h : atS c t) : c = some t := by
  unfold atS at h
  split at h
  · exact h.elim
  · rename_i s
    split at h
    · rename_i p q h0 h1 h2 h3
      obtain ⟨hp, _⟩ := conjI h
      cases s; cases t
      simp only at h0 h1 h2 h3
      rw [beq_iff'.1 h0, beq_iff'.1 h1, sameSl_spec h2 fun x hx => hp x (by simp [hx]), sameH_spec h3 fun x hx => hp x (by simp [hx])]
    · exact h.elim

theorem join_sound {A : Option Ann} {walk : (St → Prop) → Prop} {K : St → Prop} (h : joinVC A walk K) : ∃ K', walk K' ∧ ∀ a w, Nx β0 H0 Z0 w0 K' a w → Nx β0 H0 Z0 w0 K a w := by
  unfold joinVC at h
  split at h
  · exact ⟨K, h, fun _ _ h => h⟩
  · rename_i A
    refine ⟨_, h.1, ?_⟩
    rintro a w ⟨s', ⟨y, hy, hI⟩, hrel⟩
    exact ⟨_, by have := h.2 y hI; rwa [frcSt_eq] at this, canon_sound (atS_spec hy) hrel⟩

theorem draw_sound (hT : TabOK P T) {J : St → Option Ann} (hsel : ∀ (j : Nat) (o : Oper) cs b, ops[j]? = some o → o.op ≠ .select cs b) {Q : Exit → Act → World → Prop} :
    ∀ (n : Nat) (joined : Bool) (A : List Nat) (L : List (Nat × Oper)) (s : St) (K : St → Prop), drawGo P T J ops (numbered 0 ops.toList) n joined A L s K → (∀ a w, Nx β0 H0 Z0 w0 K a w → Q .normal a w) →
      ∀ (fuel : Nat) (C : Array Bool) (a as : Act) (w : World), Sim P ops β0 H0 Z0 w0 C A L s a w as → unl C ≤ fuel → wpAny P .any ops Q fuel C a w := by
  intro n
  induction n with
  | zero =>
    intro joined A L s K h hK fuel C a as w hsim hu
    unfold drawGo at h
    split at h
    · rename_i hr
      exact drain hsel (fun _ as hrel => hK _ _ ⟨s, h, hrel⟩) (fun _ _ _ _ j y _ _ hm => by rw [hr] at hm; cases hm) fuel C a as hsim hu
    · exact h.elim
  | succ n ih =>
    intro joined A L s K h hK fuel C a as w hsim hu
    unfold drawGo at h
    split at h
    · rename_i hr
      exact drain hsel (fun _ as hrel => hK _ _ ⟨s, h, hrel⟩) (fun _ _ _ _ j y _ _ hm => by rw [hr] at hm; cases hm) fuel C a as hsim hu
    · rename_i c cs hr
      rw [← hr] at h
      have hne : readyA A (numbered 0 ops.toList) ≠ [] := by rw [hr]; simp
      split at h
      · rename_i i x d obs v ht
        obtain ⟨ho, h⟩ := conj_iff.1 h
        rw [putK_eq] at h
        obtain ⟨hok, h⟩ := h
        obtain ⟨as', hsim'⟩ := hsim.take hsel ht ho hok
        exact ih joined _ _ _ K h hK fuel C a as' w hsim' hu
      · split at h
        · obtain ⟨K', hw, hk⟩ := join_sound (β0 := β0) (H0 := H0) (Z0 := Z0) (w0 := w0) h
          exact branch_sound hT hsel (fun A L s hn fuel C a as w => ih true A L s _ hn (fun a w hq => hK _ _ (hk a w hq)) fuel C a as w) hne hw fuel C a as hsim hu
        · exact branch_sound hT hsel (fun A L s hn fuel C a as w => ih _ A L s _ hn hK fuel C a as w) hne h fuel C a as hsim hu

theorem drawVC_sound (hm : P.follows .mixedOrders = true) (hT : TabOK P T) {J : St → Option Ann} {id : Nat} {s : St} {K : St → Prop} {a : Act} {w : World} (h : drawVC P T J ops s K) (hr : Rel β0 H0 Z0 w0 s a w) {Q : Exit → Act → World → Prop} (hQ : ∀ a w, Nx β0 H0 Z0 w0 K a w → Q .normal a w) :
    (Code.region id ops true).wp P Q a w := by
  unfold drawVC at h
  split at h
  · rename_i hsel
    have hsel' : ∀ (j : Nat) (o : Oper) cs b, ops[j]? = some o → o.op ≠ .select cs b := fun j o cs b ho => noSel_spec hsel o (Array.mem_toList_iff.2 (Array.mem_of_getElem? ho)) cs b
    have hr' : Rel β0 H0 Z0 w0 s a { w with drawn := w.drawn + 1 } := by
      obtain ⟨r1, r2, r3, r4, β, Z, t, hwf, hs⟩ := hr
      exact ⟨r1, r2, r3, r4, β, Z, t.trans (Trans.drew t.heap), hwf, fun i => (hs i).trans t.heap (Trans.drew t.heap)⟩
    have cf : ∀ j, cb (Array.replicate ops.size false) j = false := fun j => by
      unfold cb
      simp only [Array.getD_eq_getD_getElem?, Array.getElem?_replicate]
      split <;> rfl
    refine wp_region_any hm (draw_sound hT hsel' _ false [] [] s K h hQ ops.size _ a a _ ?_ ?_)
    · exact {
        size := by simp
        sub := fun j hj => by rw [cf] at hj; cases hj
        pend := fun j hj => by cases hj
        mem := fun p hp => by cases hp
        closed := fun j y _ hj => by rw [cf] at hj; cases hj
        order := trivial
        taken := fun p hp => by cases hp
        apart := fun p hp => by cases hp
        pair := List.Pairwise.nil
        rel := hr'
        sz := rfl
        defers := rfl
        agree := fun _ _ => rfl
        yields := fun p hp => by cases hp }
    · unfold unl
      have := List.count_le_length (a := false) (l := (Array.replicate ops.size false).toList)
      simp
  · exact h.elim

end

end Go.Proofs.Ythjogeodclpafaa.AM
