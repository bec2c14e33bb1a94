/- The operations of the abstract machine that make or write memory do what the model's do. -/
import Derived.Test.YthjogeodclpafaaAm8
set_option linter.unusedVariables false
set_option linter.unusedSimpArgs false
namespace Go.Proofs.Ythjogeodclpafaa.AM
open Go

section
variable {P : Program} {β : List Value} {Z : Nat → Prop} {w : World} {H : List AObj}

theorem parseMany_arr {m : Nat} {a : Ty} {cs : List BV} {xs : List a.D} {r : List BV} {vs : List Value} (h : parseMany a.parse m cs = some (xs, r)) (hc : ConcL β Z w cs vs) :
    ∃ v1 v2, vs = v1 ++ v2 ∧ (BV.arr m a xs).conc β Z w v1 ∧ ConcL β Z w r v2 := by
  obtain ⟨v1, v2, e, hl, h1, h2⟩ := parseMany_conc (R := a.Enc Z w) (fun cs x r vs => parse_conc a cs x r vs) m h hc
  exact ⟨v1, v2, e, ⟨hl, h1⟩, h2⟩

theorem BV.conc.trans {β' : List Value} {H' : List AObj} {Z' : Nat → Prop} {w' : World} (h : HeapOK β H Z w) (t : Trans β H Z w β' H' Z' w') {v : BV} {x : List Value} (hv : v.conc β Z w x) : v.conc β' Z' w' x := by
  obtain ⟨e, rfl⟩ := t.ext
  exact hv.mono (t.zkeep h)

theorem EncAll.app {α : Type} {R : α → List Value → Prop} : ∀ {xs ys : List α} {cs ds : List Value}, EncAll R xs cs → EncAll R ys ds → EncAll R (xs ++ ys) (cs ++ ds)
  | [], _, _, _, e, h => by simp [EncAll] at e; simpa [e] using h
  | _ :: _, _, _, _, ⟨c1, c2, e, h1, h2⟩, h => ⟨c1, c2 ++ _, by rw [e, List.append_assoc], h1, EncAll.app h2 h⟩

theorem owns_lt {v : Value} {e : TypeId} {k n : Nat} {cs : List Value} (h : w.ownsRow 0 e k v n cs) {b : Nat} (hb : blockOf v = some b) : b < w.heap.size := by
  rcases h.2 with ⟨rfl, _⟩ | ⟨g, cap, cur, rfl, _, hg, _⟩
  · cases hb
  · cases hb; exact (Array.getElem?_eq_some_iff.1 hg).1

theorem objAt_get {n : Nat} {o : AObj} (h : objAt H n = o) (hne : o ≠ .dead) : H[n]? = some o := by
  unfold objAt at h
  rw [List.getD_eq_getElem?_getD] at h
  cases hn : H[n]? with
  | none => rw [hn] at h; exact absurd h.symm hne
  | some p => rw [hn] at h; simpa using h

theorem last_name {β' : List Value} {H' : List AObj} (hh : HeapOK β' H' Z w) (v : Value) : (β' ++ [v])[H'.length]? = some v := by
  rw [← hh.len, List.getElem?_append_right (Nat.le_refl _)]; simp

/-- A prefix of a row takes the row's place: the row itself is given up. -/
theorem reroot_conc (hh : HeapOK β H Z w) {n len : Nat} {e : TypeId} {τ : Ty} {xs : List τ.D} (ho : objAt H n = .row e τ xs) {x : Value} (hx : (BV.pre n len).conc β Z w [x]) :
    Trans β H Z w (β ++ [x]) (H.set n .dead ++ [.row e τ (xs.take len)]) Z w ∧ (BV.hd H.length).conc (β ++ [x]) Z w [x] := by
  obtain ⟨A, m, c, hb, ex, h1, hmc, h2⟩ := hx
  cases ex
  have hget := objAt_get ho (by simp)
  obtain ⟨cs, g1, g2, g3⟩ := hh.objs n _ _ hget hb
  have hm : m = xs.length := by
    rcases g1.2 with ⟨e1, e2⟩ | ⟨g, cap, cur, e1, _⟩
    · cases e1; exact e2.symm
    · cases e1; rfl
  subst hm
  have hlen : (xs.take len).length = len := by simp; omega
  have hwd : len * τ.wd ≤ xs.length * τ.wd := Nat.mul_le_mul_right _ h1
  refine ⟨Trans.regrow hh hget rfl hb (Keep.refl _ _) (fun b hb' => .inl ?_) (fun b hb' => ?_) ⟨cs.take (len * τ.wd), ?_, ?_, ?_⟩, A, len, c, last_name hh _, rfl⟩
  · cases A with
    | none => cases hb'
    | some a => exact hb'
  · exact owns_lt g1 (by cases A with | none => cases hb' | some a => exact hb')
  · rw [hlen]
    refine ⟨by rw [List.length_take, g1.1]; omega, ?_⟩
    rcases g1.2 with ⟨e1, e2⟩ | ⟨g, cap, cur, e1, q1, q2, q3, q4, q5, q6⟩
    · simp only [Value.slice.injEq] at e1
      obtain ⟨rfl, hl0, rfl⟩ := e1
      have : len = 0 := by omega
      subst this
      exact .inl ⟨rfl, rfl⟩
    · cases e1
      refine .inr ⟨g, _, cur, rfl, q1, q2, by omega, q4, q5, ?_⟩
      rw [← q6, List.take_take]
      congr 1
      omega
  · exact g2.take (fun _ _ => Ty.Enc.length τ) len
  · intro g n' cap cur t o e1 hg
    rw [hlen]
    cases e1
    obtain ⟨js, hj⟩ := g3 g _ _ cur t o rfl hg
    rcases g1.2 with ⟨e2, _⟩ | ⟨g', cap', cur', e2, q1, q2, q3, q4, q5, q6⟩
    · cases e2
    · cases e2
      rw [q2] at hg; cases hg
      refine ⟨xs.drop len ++ js, ?_⟩
      have hd := g2.drop (fun _ _ => Ty.Enc.length τ) len
      have hcur : cur.toList.drop (len * τ.wd) = cs.drop (len * τ.wd) ++ cur.toList.drop (xs.length * τ.wd) := by
        rw [← q6]
        conv => lhs; rw [← List.take_append_drop (xs.length * τ.wd) cur.toList]
        rw [List.drop_append_of_le_length]
        rw [q6, g1.1]; exact hwd
      rw [hcur]
      exact EncAll.app hd hj

/-- A prefix of a buffer takes the buffer's place. -/
theorem reroot_buf (hh : HeapOK β H Z w) {n len : Nat} {e : TypeId} {τ : Ty} {ys : List τ.D} {k : Nat} (ho : objAt H n = .buf e τ ys k) {A : Option Addr} {m c : Nat} (hb : β[n]? = some (.slice A m c)) (hlen : len ≤ ys.length) (hc : c = ys.length) :
    Trans β H Z w (β ++ [.slice A len c]) (H.set n .dead ++ [.row e τ (ys.take len)]) Z w ∧ (BV.hd H.length).conc (β ++ [.slice A len c]) Z w [.slice A len c] := by
  subst hc
  have hget := objAt_get ho (by simp)
  obtain ⟨A', cs, e1, h1, g1, g2⟩ := hh.objs n _ _ hget hb
  cases e1
  have htl : (ys.take len).length = len := by simp; omega
  have hwd : len * τ.wd ≤ ys.length * τ.wd := Nat.mul_le_mul_right _ hlen
  refine ⟨Trans.regrow hh hget rfl hb (Keep.refl _ _) (fun b hb' => .inl ?_) (fun b hb' => ?_) ⟨cs.take (len * τ.wd), ?_, ?_, ?_⟩, A, len, ys.length, last_name hh _, rfl⟩
  · cases A with
    | none => cases hb'
    | some a => exact hb'
  · exact owns_lt g1 (by cases A with | none => cases hb' | some a => exact hb')
  · rw [htl]
    refine ⟨by rw [List.length_take, g1.1]; omega, ?_⟩
    rcases g1.2 with ⟨e1, e2⟩ | ⟨g, cap, cur, e1, q1, q2, q3, q4, q5, q6⟩
    · simp only [Value.slice.injEq] at e1
      obtain ⟨rfl, hl0, hl1⟩ := e1
      have : len = 0 := by omega
      subst this
      exact .inl ⟨by rw [hl0], rfl⟩
    · simp only [Value.slice.injEq] at e1
      obtain ⟨rfl, _, rfl⟩ := e1
      refine .inr ⟨g, _, cur, rfl, q1, q2, by omega, q4, q5, ?_⟩
      rw [← q6, List.take_take]
      congr 1
      omega
  · exact g2.take (fun _ _ => Ty.Enc.length τ) len
  · intro g n' cap cur t o e1 hg
    rw [htl]
    cases e1
    rcases g1.2 with ⟨e2, _⟩ | ⟨g', cap', cur', e2, q1, q2, q3, q4, q5, q6⟩
    · cases e2
    · cases e2
      rw [q2] at hg; cases hg
      have hcur : cur.toList = cs := by rw [← q6, ← q5, ← Array.length_toList, List.take_length]
      rw [hcur]
      exact ⟨_, g2.drop (fun _ _ => Ty.Enc.length τ) len⟩

theorem reroot1_conc (hh : HeapOK β H Z w) {c c' : BV} {H' : List AObj} (h : reroot1 H c = some (c', H')) {x : Value} (hx : c.conc β Z w [x]) : ∃ β', Trans β H Z w β' H' Z w ∧ c'.conc β' Z w [x] := by
  unfold reroot1 at h
  split at h
  · split at h
    · rename_i ho
      cases h
      obtain ⟨t, h⟩ := reroot_conc hh ho hx
      exact ⟨_, t, h⟩
    · cases h
  · split at h
    · rename_i ho
      cases h
      obtain ⟨A, m, c, hb, ee, h1, _⟩ := hx
      cases ee
      have hob := hh.objsOK.at_ hb
      rw [ho] at hob
      obtain ⟨A', e1, _⟩ := buf_reads hob
      cases e1
      obtain ⟨t, h⟩ := reroot_buf hh ho hb h1 rfl
      exact ⟨_, t, h⟩
    · cases h
  · split at h
    · rename_i ho
      cases h
      obtain ⟨A, m, c, hb, ee⟩ := hx
      cases ee
      have hob := hh.objsOK.at_ hb
      rw [ho] at hob
      obtain ⟨A', e1, hk, _⟩ := buf_reads hob
      cases e1
      obtain ⟨t, h⟩ := reroot_buf hh ho hb hk rfl
      exact ⟨_, t, h⟩
    · cases h
  · cases h

theorem reroot1_one {c c' : BV} {H' : List AObj} (h : reroot1 H c = some (c', H')) {cs : List Value} (hx : c.conc β Z w cs) : ∃ x, cs = [x] := by
  have : c.wd = 1 := by
    unfold reroot1 at h
    split at h <;> first | rfl | cases h
  have hl := hx.length
  rw [this] at hl
  match cs, hl with
  | [x], _ => exact ⟨x, rfl⟩

theorem shapeGo_conc : ∀ (tys : List TypeId) (cs : List BV) (β : List Value) (H : List AObj) (cs' : List BV) (H' : List AObj) (vs : List Value), shapeGo P tys cs H = some (cs', H') → HeapOK β H Z w → ConcL β Z w cs vs →
    ∃ β', Trans β H Z w β' H' Z w ∧ ConcL β' Z w cs' vs
  | [], cs, β, H, cs', H', vs, h, hh, hc => by
    cases cs with
    | nil => simp only [shapeGo, Option.some.injEq, Prod.mk.injEq] at h; obtain ⟨rfl, rfl⟩ := h; exact ⟨β, Trans.refl hh, hc⟩
    | cons c r => simp [shapeGo] at h
  | ty :: tys, cs, β, H, cs', H', vs, h, hh, hc => by
    simp only [shapeGo] at h
    split at h
    · rename_i m a _
      split at h
      · split at h
        · rename_i q
          cases h
          obtain ⟨v1, v2, e, h1, h2⟩ := hc
          obtain ⟨β', t, hr⟩ := shapeGo_conc tys _ β H _ _ v2 q hh h2
          exact ⟨β', t, v1, v2, e, h1.trans hh t, hr⟩
        · cases h
      · rename_i xs r _ hp
        split at h
        · rename_i q
          cases h
          obtain ⟨v1, v2, e, h1, h2⟩ := parseMany_arr hp hc
          obtain ⟨β', t, hr⟩ := shapeGo_conc tys _ β H _ _ v2 q hh h2
          exact ⟨β', t, v1, v2, e, h1.trans hh t, hr⟩
        · cases h
      · cases h
    · split at h
      · split at h
        · rename_i e τ by_ he
          split at h
          · rename_i q
            cases h
            obtain ⟨v1, v2, e1, h1, h2⟩ := hc
            have t0 := Trans.nil hh e τ
            obtain ⟨β', t, hr⟩ := shapeGo_conc tys _ _ _ _ _ v2 q t0.heap (h2.trans hh t0)
            refine ⟨β', t0.trans t, v1, v2, e1, ?_, hr⟩
            have : v1 = [.slice none 0 0] := h1
            subst this
            obtain ⟨ex, rfl⟩ := t.ext
            refine ⟨none, 0, 0, ?_, rfl⟩
            rw [← hh.len, List.getElem?_append_left (by simp), List.getElem?_append_right (Nat.le_refl _)]
            simp
          · cases h
        · split at h
          · rename_i q
            cases h
            obtain ⟨v1, v2, e, h1, h2⟩ := hc
            obtain ⟨β', t, hr⟩ := shapeGo_conc tys _ β H _ _ v2 q hh h2
            exact ⟨β', t, v1, v2, e, h1.trans hh t, hr⟩
          · cases h
      · split at h
        · rename_i c' H1 hre
          split at h
          · rename_i q
            cases h
            obtain ⟨v1, v2, e1, h1, h2⟩ := hc
            obtain ⟨x, rfl⟩ := reroot1_one hre h1
            obtain ⟨β1, t0, hd⟩ := reroot1_conc hh hre h1
            obtain ⟨β', t, hr⟩ := shapeGo_conc tys _ _ _ _ _ v2 q t0.heap (h2.trans hh t0)
            exact ⟨β', t0.trans t, _, v2, e1, hd.trans t0.heap t, hr⟩
          · cases h
        · split at h
          · rename_i q
            cases h
            obtain ⟨v1, v2, e, h1, h2⟩ := hc
            obtain ⟨β', t, hr⟩ := shapeGo_conc tys _ β H _ _ v2 q hh h2
            exact ⟨β', t, v1, v2, e, h1.trans hh t, hr⟩
          · cases h
      · cases h

theorem unlitB_conc (v : BV) (cs : List Value) : (unlitB v).conc β Z w cs ↔ v.conc β Z w cs := by
  cases v <;> exact Iff.rfl

theorem rootT_conc (hh : HeapOK β H Z w) {v : TV} {x : Value} (hv : v.conc β Z w x) : ∃ β', Trans β H Z w β' (rootT H v).2 Z w ∧ (rootT H v).1.conc β' Z w x := by
  unfold rootT
  split
  · split
    · rename_i hre
      obtain ⟨β', t, h⟩ := reroot1_conc hh hre hv
      exact ⟨β', t, h⟩
    · exact ⟨β, Trans.refl hh, (unlitB_conc _ _).2 hv⟩
  · exact ⟨β, Trans.refl hh, hv⟩

theorem rootTs_conc : ∀ (vs : List TV) {β : List Value} {H : List AObj} {xs : List Value}, HeapOK β H Z w → TVs β Z w vs xs → ∃ β', Trans β H Z w β' (rootTs vs H).2 Z w ∧ TVs β' Z w (rootTs vs H).1 xs
  | [], β, H, xs, hh, h => ⟨β, Trans.refl hh, h⟩
  | v :: r, β, H, xs, hh, ⟨x, xs', e, h1, h2⟩ => by
    obtain ⟨β1, t1, hc⟩ := rootT_conc hh h1
    obtain ⟨β2, t2, hr⟩ := rootTs_conc r t1.heap (h2.trans hh t1)
    exact ⟨β2, t1.trans t2, x, xs', e, hc.trans t1.heap t2, hr⟩

theorem shapeOf_conc {t : TypeId} {cs cs' : List BV} {H' : List AObj} {vs : List Value} (h : shapeOf P t cs H = some (cs', H')) (hh : HeapOK β H Z w) (hc : ConcL β Z w cs vs) : ∃ β', Trans β H Z w β' H' Z w ∧ ConcL β' Z w cs' vs := by
  unfold shapeOf at h
  split at h
  · exact shapeGo_conc _ _ _ _ _ _ _ h hh hc
  · cases h

theorem listOf_frozen {Z : Nat → Prop} (hh : HeapOK β H Z w) {n wd lo len : Nat} {e : TypeId} {τ : Ty} {xs : List τ.D} (ho : objAt H n = .frow e τ xs) (hw : wd = τ.wd) {cs : List Value} (hc : (BV.sub n wd lo len).conc β Z w cs) :
    (BV.fsl e τ ((xs.drop lo).take len)).conc β Z w cs := by
  obtain ⟨A, m, c, A', c', hb, rfl, h1, hmc, h2, h3, h4⟩ := hc
  subst hw
  have hob := hh.objsOK.at_ hb
  rw [ho] at hob
  obtain ⟨⟨A0, c0, es, e0, q1, q2, q3, q4⟩, hA⟩ := hob
  cases e0
  refine ⟨_, rfl, ?_⟩
  have hlen : ((xs.drop lo).take len).length = len := by simp; omega
  rw [hlen]
  refine ⟨A', c', (es.drop (lo * τ.wd)).take (len * τ.wd), rfl, by omega, by omega, (q3.drop (fun _ _ => Ty.Enc.length τ) lo).take (fun _ _ => Ty.Enc.length τ) len, fun hne => ?_⟩
  obtain ⟨b, rfl, rfl⟩ := h4 hne
  obtain ⟨ad, e1, hsp, hz, hc⟩ := q4 (by omega)
  cases e1
  refine ⟨_, rfl, rfl, hz, fun j u hj => ?_⟩
  have : es[lo * τ.wd + j]? = some u := by
    rw [List.getElem?_take] at hj
    split at hj
    · rwa [List.getElem?_drop] at hj
    · cases hj
  have := hc _ _ this
  rw [Addr.add_zero'] at this ⊢
  rwa [Nat.zero_add] at this

theorem frow_hd (hh : HeapOK β H Z w) {n : Nat} {e : TypeId} {τ : Ty} {xs : List τ.D} (ho : objAt H n = .frow e τ xs) {cs : List Value} (hc : (BV.hd n).conc β Z w cs) : (BV.fsl e τ xs).conc β Z w cs := by
  obtain ⟨A, m, c, hb, rfl⟩ := hc
  have hob := hh.objsOK.at_ hb
  rw [ho] at hob
  exact ⟨_, rfl, hob.1⟩

theorem objAt_set {n : Nat} {o p : AObj} (h : H[n]? = some o) : objAt (H.set n p) n = p := by
  unfold objAt
  rw [List.getD_eq_getElem?_getD, List.getElem?_set_self (List.getElem?_eq_some_iff.1 h).1]; rfl

theorem freeze_at (hh : HeapOK β H Z w) {n : Nat} {e : TypeId} {τ : Ty} {xs : List τ.D} (ho : objAt H n = .row e τ xs) : ∃ Z', Trans β H Z w β (H.set n (.frow e τ xs)) Z' w := by
  have h1 := objAt_get ho (by simp)
  have hlt : n < H.length := (List.getElem?_eq_some_iff.1 h1).1
  exact ⟨_, Trans.freeze hh h1 (List.getElem?_eq_getElem (show n < β.length by rw [hh.len]; exact hlt))⟩

theorem pre_frozen (hh : HeapOK β H Z w) {n len : Nat} {e : TypeId} {τ : Ty} {xs : List τ.D} (ho : objAt H n = .frow e τ xs) {cs : List Value} (h : (BV.pre n len).conc β Z w cs) : (BV.fsl e τ (xs.take len)).conc β Z w cs := by
  obtain ⟨A, m, c, hb, rfl, h1, hmc, h2⟩ := h
  have hob := hh.objsOK.at_ hb
  rw [ho] at hob
  obtain ⟨A0, c0, es, e0, q1, q2, q3, q4⟩ := hob.1
  cases e0
  refine ⟨_, rfl, ?_⟩
  have hlen : (xs.take len).length = len := by simp; omega
  rw [hlen]
  refine ⟨A, c, es.take (len * τ.wd), rfl, by omega, h2, q3.take (fun _ _ => Ty.Enc.length τ) len, fun hne => ?_⟩
  obtain ⟨ad, e1, hsp, hz, hc⟩ := q4 (by omega)
  exact ⟨ad, e1, hsp, hz, fun j u hj => hc j u (by
    rw [List.getElem?_take] at hj
    split at hj
    · exact hj
    · cases hj)⟩

theorem frz1_conc (c : BV) (hh : HeapOK β H Z w) {vs : List Value} (hc : c.conc β Z w vs) : ∃ Z', Trans β H Z w β (frz1 c H).2 Z' w ∧ (frz1 c H).1.conc β Z' w vs := by
  unfold frz1
  split
  · split
    · rename_i n _ e τ xs ho
      obtain ⟨Z', t⟩ := freeze_at hh ho
      exact ⟨Z', t, frow_hd t.heap (objAt_set (objAt_get ho (by simp))) (hc.trans hh t)⟩
    · rename_i n _ e τ xs ho
      exact ⟨Z, Trans.refl hh, frow_hd hh ho hc⟩
    · exact ⟨Z, Trans.refl hh, hc⟩
  · split
    · rename_i n wd lo len _ e τ xs ho
      split
      · rename_i hw
        obtain ⟨Z', t⟩ := freeze_at hh ho
        exact ⟨Z', t, listOf_frozen t.heap (objAt_set (objAt_get ho (by simp))) (Nat.eq_of_beq_eq_true hw) (hc.trans hh t)⟩
      · exact ⟨Z, Trans.refl hh, hc⟩
    · rename_i n wd lo len _ e τ xs ho
      split
      · rename_i hw
        exact ⟨Z, Trans.refl hh, listOf_frozen hh ho (Nat.eq_of_beq_eq_true hw) hc⟩
      · exact ⟨Z, Trans.refl hh, hc⟩
    · exact ⟨Z, Trans.refl hh, hc⟩
  · split
    · rename_i n len _ e τ xs ho
      obtain ⟨Z', t⟩ := freeze_at hh ho
      exact ⟨Z', t, pre_frozen t.heap (objAt_set (objAt_get ho (by simp))) (hc.trans hh t)⟩
    · rename_i n len _ e τ xs ho
      exact ⟨Z, Trans.refl hh, pre_frozen hh ho hc⟩
    · exact ⟨Z, Trans.refl hh, hc⟩
  · exact ⟨Z, Trans.refl hh, hc⟩

theorem frzGo_conc : ∀ (cs : List BV) (H : List AObj) (Z : Nat → Prop) (vs : List Value), HeapOK β H Z w → ConcL β Z w cs vs → ∃ Z', Trans β H Z w β (frzGo cs H).2 Z' w ∧ ConcL β Z' w (frzGo cs H).1 vs
  | [], H, Z, vs, hh, hc => ⟨Z, Trans.refl hh, hc⟩
  | c :: r, H, Z, vs, hh, ⟨v1, v2, e, h1, h2⟩ => by
    obtain ⟨Z1, t1, k1⟩ := frz1_conc c hh h1
    obtain ⟨Z2, t2, k2⟩ := frzGo_conc r (frz1 c H).2 Z1 v2 t1.heap (h2.trans hh t1)
    exact ⟨Z2, t1.trans t2, v1, v2, e, k1.trans t1.heap t2, k2⟩

/-- An effect is right. -/
def Does (P : Program) (β : List Value) (H : List AObj) (Z : Nat → Prop) (w : World) (s : World → Value → World → Prop) (r : ER) : Prop :=
  ∀ obs v H', r = some (obs, v, H') → (∀ q ∈ obs, q) → ∃ x w' β' Z', s w x w' ∧ Trans β H Z w β' H' Z' w' ∧ v.conc β' Z' w' x

def runsV (P : Program) (s : Sem Value) (w : World) (x : Value) (w' : World) : Prop := s.run P w = .ok x w'
def runsU (P : Program) (s : Sem Unit) (w : World) (x : Value) (w' : World) : Prop := s.run P w = .ok () w' ∧ x = undef

theorem does_none {s : World → Value → World → Prop} : Does P β H Z w s none := fun _ _ _ h => by cases h

theorem alloc_does (hh : HeapOK β H Z w) (t : TypeId) : Does P β H Z w (runsV P (Instr.alloc t true (.tuple #[]))) (allocStep P H t) := by
  intro obs v H' h ho
  unfold allocStep at h
  split at h
  · rename_i i hi
    split at h
    · rename_i z hz
      split at h
      · rename_i cs H1 hk hs
        cases h
        obtain ⟨β1, t1, hc⟩ := shapeOf_conc hs hh (ofCells_conc hk)
        have t2 : Trans β1 H1 Z w (β1 ++ [.pointer (some ⟨w.heap.size, 0, none⟩)]) (H1 ++ [.cells t cs]) Z (w.alloc (.cells z.cells t)) := by
          refine Trans.new t1.heap _ _ (Keep.allocW _ _ _) (fun b _ hb => ?_) ?_
          · cases hb; exact ⟨Nat.le_refl _, by simp⟩
          · exact ⟨w.heap.size, z.cells, rfl, heap_alloc_new _ _, hc.mono ⟨fun _ h => h, fun b hb => heap_alloc_old _ _ _ (t1.heap.zlt b hb)⟩⟩
        refine ⟨.pointer (some ⟨w.heap.size, 0, none⟩), _, _, _, ?_, t1.trans t2, w.heap.size, last_name t1.heap _, rfl⟩
        simp [runsV, Instr.alloc, zeroValue, typeInfo, hi, hz, newVar, newRow]
      · cases h
    · cases h
  · cases h

theorem box_does (hh : HeapOK β H Z w) (t : TypeId) (v : TV) (a : Value) (ha : v.conc β Z w a) : Does P β H Z w (runsV P (Instr.box t a)) (boxStep P H t v) := by
  intro obs v' H' h ho
  unfold boxStep at h
  split at h
  · rename_i cs H1 hs
    cases h
    obtain ⟨β1, t1, hc⟩ := shapeOf_conc hs hh (TV.cells_conc ha)
    have t2 : Trans β1 H1 Z w (β1 ++ [.pointer (some ⟨w.heap.size, 0, none⟩)]) (H1 ++ [.cells t cs]) Z (w.alloc (.cells a.cells t)) := by
      refine Trans.new t1.heap _ _ (Keep.allocW _ _ _) (fun b _ hb => ?_) ?_
      · cases hb; exact ⟨Nat.le_refl _, by simp⟩
      · exact ⟨w.heap.size, a.cells, rfl, heap_alloc_new _ _, hc.mono ⟨fun _ h => h, fun b hb => heap_alloc_old _ _ _ (t1.heap.zlt b hb)⟩⟩
    refine ⟨.pointer (some ⟨w.heap.size, 0, none⟩), _, _, _, ?_, t1.trans t2, w.heap.size, last_name t1.heap _, rfl⟩
    simp [runsV, Instr.box, newVar, newRow]
  · cases h

theorem makeMap_does (hh : HeapOK β H Z w) (t : TypeId) : Does P β H Z w (runsV P (Instr.makeMap t none)) (makeMapStep P H t) := by
  intro obs v H' h ho
  unfold makeMapStep at h
  split at h
  · split at h
    · split at h
      · cases h
        refine ⟨.map (some w.heap.size), w.alloc (.map #[] 0), β ++ [.map (some w.heap.size)], Z, by simp [runsV, Instr.makeMap], ?_, w.heap.size, last_name hh _, rfl⟩
        refine Trans.new hh _ _ (Keep.allocW _ _ _) (fun b _ hb => ?_) ⟨w.heap.size, #[], 0, rfl, heap_alloc_new _ _, rfl⟩
        cases hb; exact ⟨Nat.le_refl _, by simp⟩
      · cases h
    · cases h
  · cases h

end

end Go.Proofs.Ythjogeodclpafaa.AM
