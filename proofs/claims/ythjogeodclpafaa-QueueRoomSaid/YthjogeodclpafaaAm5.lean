/- The quiet operations of the abstract machine, the rest: memory that is read, addresses, slices, maps. -/
import Derived.Test.YthjogeodclpafaaAm4
import Derived.Laws.BytesArg
set_option linter.unusedVariables false
set_option linter.unusedSimpArgs false
namespace Go.Proofs.Ythjogeodclpafaa.AM
open Go

section
variable {P : Program} {β : List Value} {Z : Nat → Prop} {w : World} {H : List AObj}

theorem asTV_conc {agg : Bool} {cs : List BV} {v : TV} {vs : List Value} (h : asTV agg cs = some v) (hc : ConcL β Z w cs vs) : v.conc β Z w (valOf agg vs) ∧ (agg = false → vs.length = 1) := by
  unfold asTV at h
  split at h
  · cases h
    exact ⟨⟨vs.toArray, rfl, by simpa using hc⟩, fun h => by cases h⟩
  · split at h
    · split at h
      · cases h
      · rename_i c _ hn
        cases h
        obtain ⟨v1, v2, e, h1, h2⟩ := hc
        cases h2
        have hl := h1.length
        have hw : c.wd = 1 := by cases c <;> first | rfl | exact (hn _ _ _ rfl).elim
        rw [hw] at hl
        obtain ⟨x, rfl⟩ : ∃ x, v1 = [x] := by
          match v1, hl with
          | [x], _ => exact ⟨x, rfl⟩
        subst e
        exact ⟨h1, fun _ => rfl⟩
    · cases h

theorem kindOf_one {t : TypeId} {agg : Bool} {sz : Nat} (hk : kindOf P t = some (agg, sz)) : (isAgg t).run P w = .ok agg w ∧ (sizeOf t).run P w = .ok sz w := by
  obtain ⟨d, i, hu, hi, hn, ha, _⟩ := kindOf_spec (w := w) hk
  exact ⟨ha, by rw [hn]; exact run_sizeOf' hi⟩

theorem run_loadVar' {t : TypeId} {agg : Bool} {sz : Nat} (hk : kindOf P t = some (agg, sz)) {b o : Nat} {vs : List Value} (hl : vs.length = sz) (h1 : agg = false → vs.length = 1) (hc : ∀ j u, vs[j]? = some u → w.cell? ⟨b, o + j, none⟩ = some u) :
    (loadVar t ⟨b, o, none⟩).run P w = .ok (valOf agg vs) w := by
  obtain ⟨ha, hs⟩ := kindOf_one (P := P) (w := w) hk
  cases agg with
  | true =>
    have := run_loadCells_list (P := P) w ⟨b, o, none⟩ vs (fun j v hj => by rw [Addr.add_zero']; exact hc j v hj)
    simp only [loadVar, Sem.run_bind, ha, Result.andThen_ok, if_true, hs, ← hl, this, Sem.run_pure, valOf]
  | false =>
    have hl1 := h1 rfl
    obtain ⟨x, rfl⟩ : ∃ x, vs = [x] := by
      match vs, hl1 with
      | [x], _ => exact ⟨x, rfl⟩
    have := hc 0 x rfl
    simp only [loadVar, Sem.run_bind, ha, Result.andThen_ok]
    simp only [load, Sem.run_ite, Bool.false_eq_true, if_false]
    simp only [Nat.add_zero] at this
    simp [Sem.run, this, valOf]

theorem load_yields (hH : ObjsOK β Z w H) (t : TypeId) (u : TV) (a : Value) (ha : u.conc β Z w a) : Yields1 P β Z w (Instr.loadAt t a) (loadStep P H t u) := by
  unfold loadStep
  split
  · rename_i agg sz p hk
    split
    · rename_i obs cs hcs
      split
      · rename_i v hv
        refine yields_some fun ho => ?_
        obtain ⟨b, o, vs, rfl, hl, hc, hcell⟩ := cellsAt_conc hH hcs ho ha
        obtain ⟨h1, h2⟩ := asTV_conc hv hc
        exact ⟨_, by simp only [Instr.loadAt, Instr.sureAddr, Sem.run_bind, Sem.run_pure, Result.andThen_ok]; exact run_loadVar' hk hl h2 hcell, h1⟩
      · exact yields_none _
    · exact yields_none _
  · exact yields_none _

theorem fieldOf_spec {s t : TypeId} {f o sz : Nat} {agg : Bool} (h : fieldOf P s f = some (t, o, agg, sz)) :
    ∃ fields fld, P.underlying s = some (.struct fields) ∧ fields[f]? = some fld ∧ fld.type = t ∧ fld.offset = o ∧ kindOf P t = some (agg, sz) := by
  unfold fieldOf at h
  split at h
  · rename_i fields hu
    split at h
    · rename_i fld hf
      split at h
      · rename_i hk
        cases h
        exact ⟨fields, fld, hu, by simpa using hf, rfl, rfl, hk⟩
      · cases h
    · cases h
  · cases h

theorem fieldAddr_yields (s : TypeId) (f : Nat) (u : TV) (a : Value) (ha : u.conc β Z w a) : Yields1 P β Z w (Instr.fieldAt s a f) (fieldAddrStep P s f u) := by
  have key : ∀ {t : TypeId} {o sz : Nat} {agg : Bool}, fieldOf P s f = some (t, o, agg, sz) → Nat.beq sz 0 = false → ∀ b off, (Instr.fieldAt s (.pointer (some ⟨b, off, none⟩)) f).run P w = .ok (.pointer (some ⟨b, off + o, none⟩)) w := by
    intro t o sz agg h hz b off
    obtain ⟨fields, fld, hu, hf, ht, hoff, hk⟩ := fieldOf_spec h
    subst ht hoff
    obtain ⟨_, hs⟩ := kindOf_one (P := P) (w := w) hk
    have hz' : ¬ sz = 0 := fun e => by rw [e] at hz; cases hz
    simp only [Instr.fieldAt, Sem.run_bind, run_underlying hu, Result.andThen_ok, hf, Instr.sureAddr, Sem.run_pure, fieldPlace, hs, Sem.run_ite, if_neg hz', Addr.add_zero']
  unfold fieldAddrStep
  split
  · rename_i o agg sz p h
    split
    · exact yields_none _
    · rename_i hz
      split
      · obtain ⟨b, hb, e⟩ := ha; cases e
        exact yields_yv (key h hz _ _) ⟨b, hb, rfl⟩
      · obtain ⟨b, m, c, hb, e⟩ := ha; cases e
        exact yields_yv (key h hz _ _) ⟨b, m, c, hb, by rw [Nat.add_assoc]⟩
      · obtain ⟨b, q, es, e, hz', he, hc⟩ := ha; cases e
        exact yields_yv (key h hz _ _) ⟨b, q, es, by rw [Nat.add_assoc], hz', he, hc⟩
      · obtain ⟨b, hb, e⟩ := ha; cases e
        exact yields_yv (key h hz _ _) ⟨b, hb, by rw [Nat.add_assoc]⟩
      · exact yields_none _
  · exact yields_none _

theorem field_yields (s : TypeId) (f : Nat) (u : TV) (a : Value) (ha : u.conc β Z w a) : Yields1 P β Z w (Instr.field s a f) (fieldStep P s f u) := by
  unfold fieldStep
  split
  · rename_i o agg sz cs h
    split
    · rename_i r hr
      cases hv : asTV agg r with
      | none => exact yields_none _
      | some v =>
        obtain ⟨vs, rfl, hc⟩ := ha
        obtain ⟨fields, fld, hu, hf, ht, hoff, hk⟩ := fieldOf_spec h
        subst ht hoff
        obtain ⟨us, hl, hc', hex, hle, _⟩ := sliceW_conc hr hc
        obtain ⟨h1, h2⟩ := asTV_conc hv hc'
        refine yields_some fun _ => ⟨_, ?_, h1⟩
        have hp := run_part (P := P) (w := w) fld.type agg sz hk vs fld.offset (vs.toList.take fld.offset) us (vs.toList.drop (fld.offset + sz)) (by
          rw [hex, List.extract_eq_take_drop, Nat.add_sub_cancel_left, ← List.drop_drop, List.take_append_drop, List.take_append_drop]) (by simp; simp at hle; omega) hl (fun e => by rw [← hl]; exact h2 e)
        simp only [Instr.field, Sem.run_bind, run_underlying hu, Result.andThen_ok, hf, asAgg, Sem.run_pure, hp]
    · exact yields_none _
  · exact yields_none _

theorem elemOf_spec {t e : TypeId} {τ : Ty} {by_ : Nat} (h : elemOf? P t = some (e, τ, by_)) : P.underlying t = some (.slice e) ∧ tyOf P depth e = some τ ∧ ∃ i, P.info? e = some i ∧ i.size = τ.wd ∧ i.size ≠ 0 ∧ i.bytes = by_ := by
  unfold elemOf? at h
  split at h
  · rename_i e' hu
    split at h
    · rename_i τ' i ht hi
      split at h
      · rename_i h1 h2
        cases h
        have h1 := Nat.eq_of_beq_eq_true h1
        exact ⟨hu, ht, i, hi, h1.symm, (fun e => by rw [e] at h2; cases h2), rfl⟩
      · cases h
    · cases h
  · cases h

theorem slice_index {t e : TypeId} {τ : Ty} {by_ : Nat} (h : elemOf? P t = some (e, τ, by_)) (k : IntKind) (i : Int) (b off len c : Nat) (hi : 0 ≤ i ∧ i < len) :
    (Instr.indexAt t (.slice (some ⟨b, off, none⟩) len c) (.int k i)).run P w = .ok (.pointer (some ⟨b, off + i.toNat * τ.wd, none⟩)) w := by
  obtain ⟨hu, _, inf, hin, hsz, _, _⟩ := elemOf_spec h
  simp only [Instr.indexAt, asIntOf, Sem.run_bind, Sem.run_pure, Result.andThen_ok, run_underlying hu, Sem.run_ite, if_pos hi, run_sizeOf' hin, Addr.add_zero', hsz]

theorem indexAddr_yields (hH : ObjsOK β Z w H) (t : TypeId) (u v : TV) (a i : Value) (ha : u.conc β Z w a) (hi : v.conc β Z w i) : Yields1 P β Z w (Instr.indexAt t a i) (indexAddrStep P H t u v) := by
  unfold indexAddrStep
  split
  · rename_i p k n
    have := one_int hi; subst this
    split
    · split
      · rename_i e τ by_ he
        split
        · rename_i e' a' xs
          split
          · rename_i q _; subst q
            refine yields_some fun ho => ?_
            have hn : 0 ≤ n ∧ n < xs.length := ho _ (List.mem_singleton.2 rfl)
            obtain ⟨y, ey, A, c, cs, rfl, h1, h2, h3, h4⟩ := ha
            cases ey
            obtain ⟨ad, rfl, hsp, hz, hc⟩ := h4 (by omega)
            obtain ⟨b, off, sp⟩ := ad
            simp only at hsp; subst hsp
            obtain ⟨es, g1, g2⟩ := h3.getD (fun _ _ => Ty.Enc.length a') a'.zero n.toNat (by omega)
            refine ⟨_, slice_index he k n b off _ c hn, b, _, es, rfl, hz, g1, fun j u hj => ?_⟩
            have := hc _ _ (g2 _ _ hj)
            rw [Addr.add_zero', ← Nat.add_assoc] at this
            exact this
          · exact yields_none _
        · rename_i m
          split
          · rename_i l hl
            refine yields_some fun ho => ?_
            have hn : 0 ≤ n ∧ n < l := ho _ (List.mem_singleton.2 rfl)
            have ha0 := ha
            obtain ⟨A, m', c, hb, ee⟩ := ha
            cases ee
            rcases lenOf_conc hH hl ha0 with ⟨A', c', e', _⟩ | ⟨s, _, e', _⟩
            · cases e'
              have ho' := hH.at_ hb
              obtain ⟨b, hA⟩ : ∃ b, A = some ⟨b, 0, none⟩ := by
                simp only [lenOf] at hl
                split at hl
                · rename_i hn'
                  rw [hn'] at ho'
                  obtain ⟨cs, g1, _⟩ := ho'
                  rcases g1.2 with ⟨e1, e2⟩ | ⟨g, cap, cur, e1, _⟩
                  · cases e1; omega
                  · cases e1; exact ⟨g, rfl⟩
                · rename_i hn'
                  rw [hn'] at ho'
                  exact ho'.2 _ _ _ rfl (by omega)
                · rename_i hn'
                  cases hl
                  rw [hn'] at ho'
                  obtain ⟨A2, e1, q1, _, hr, hA⟩ := buf_reads ho'
                  cases e1
                  obtain ⟨_, _, _, e3, _, _, _, h4⟩ := hr
                  cases e3
                  obtain ⟨ad, e4, _⟩ := h4 (by omega)
                  obtain ⟨b, e5⟩ := hA ad e4
                  exact ⟨b, by rw [e4, e5]⟩
                · cases hl
              subst hA
              exact ⟨_, slice_index he k n b 0 _ c hn, b, _, c, hb, by simp⟩
            · cases e'
          · exact yields_none _
        · rename_i m wd lo l
          split
          · rename_i hw
            have hw := Nat.eq_of_beq_eq_true hw
            subst hw
            refine yields_some fun ho => ?_
            have hn : 0 ≤ n ∧ n < l := ho _ (List.mem_singleton.2 rfl)
            obtain ⟨A, m', c, A', c', hb, ee, h1, hmc, h2, h3, h4⟩ := ha
            cases ee
            obtain ⟨b, rfl, rfl⟩ := h4 (by omega)
            exact ⟨_, slice_index he k n b _ _ c' hn, b, m', c, hb, by rw [Nat.add_mul]; simp⟩
          · exact yields_none _
        · exact yields_none _
      · exact yields_none _
    · rename_i m e hu
      split
      · rename_i nn off agg sz hk
        split
        · rename_i tt cs hn
          split
          · rename_i m' τ xs hr
            split
            · rename_i hm hsz h2
              have hm := Nat.eq_of_beq_eq_true hm
              have hsz := Nat.eq_of_beq_eq_true hsz
              have h2 := Nat.le_of_ble_eq_true h2
              subst hm hsz
              refine yields_some fun ho => ?_
              have hn : 0 ≤ n ∧ n < m := ho _ (List.mem_singleton.2 rfl)
              obtain ⟨b, hb, ee⟩ := ha
              cases ee
              obtain ⟨_, hs⟩ := kindOf_one (P := P) (w := w) hk
              refine ⟨.pointer (some ⟨b, off + n.toNat * τ.wd, none⟩), ?_, b, hb, rfl⟩
              simp only [Instr.indexAt, asIntOf, Sem.run_bind, Sem.run_pure, Result.andThen_ok, run_underlying hu, Instr.sureAddr, Sem.run_ite, if_pos hn, hs, Addr.add_zero']
            · exact yields_none _
          · exact yields_none _
        · exact yields_none _
      · exact yields_none _
    · exact yields_none _
  · exact yields_none _

theorem index_yields (t : TypeId) (u v : TV) (a i : Value) (ha : u.conc β Z w a) (hi : v.conc β Z w i) : Yields1 P β Z w (Instr.index t a i) (indexStep P t u v) := by
  unfold indexStep
  split
  · rename_i s k n
    have := one_int hi; subst this
    have := one_str ha; subst this
    split
    · rename_i hu
      refine yields_some fun ho => ?_
      have hn : 0 ≤ n ∧ n < s.size := ho _ (List.mem_singleton.2 rfl)
      have hlt : n.toNat < s.size := by omega
      refine ⟨_, ?_, rfl⟩
      have hget : s[n.toNat]? = some s[n.toNat] := ByteArray.getElem?_lt' s _ hlt
      have hd : s.toList.getD n.toNat 0 = s[n.toNat] := by
        rw [ByteArray.toList_eq, List.getD_eq_getElem?_getD, List.getElem?_eq_getElem (by simpa using hlt)]
        rfl
      simp only [Instr.index, asIntOf, Sem.run_bind, Sem.run_pure, Result.andThen_ok, run_underlying hu, if_pos hn.1, hget, hd]
    · exact yields_none _
  · rename_i m τ xs k n
    have := one_int hi; subst this
    split
    · rename_i m' e hu
      split
      · rename_i agg sz hk
        split
        · rename_i hm hsz
          split
          · rename_i v' hv
            have hm := Nat.eq_of_beq_eq_true hm
            have hsz := Nat.eq_of_beq_eq_true hsz
            subst hm hsz
            refine yields_some fun ho => ?_
            have hn : 0 ≤ n ∧ n < m := ho _ (List.mem_singleton.2 rfl)
            obtain ⟨vs, rfl, v1, v2, e1, ⟨hlen, he⟩, h2⟩ := ha
            cases h2
            obtain ⟨es, g1, g2⟩ := he.getD (fun _ _ => Ty.Enc.length τ) τ.zero n.toNat (by omega)
            obtain ⟨q1, q2⟩ := asTV_conc hv (enc_conc (β := β) τ g1)
            obtain ⟨_, hs⟩ := kindOf_one (P := P) (w := w) hk
            have hel := Ty.Enc.length _ g1
            have hseg : vs.toList = vs.toList.take (n.toNat * τ.wd) ++ (es ++ vs.toList.drop (n.toNat * τ.wd + τ.wd)) := by
              have hes : es = (vs.toList.drop (n.toNat * τ.wd)).take τ.wd := by
                apply List.ext_getElem?
                intro j
                rw [List.getElem?_take, List.getElem?_drop]
                split
                · rename_i hj
                  rw [List.getElem?_eq_getElem (by rw [hel]; exact hj)]
                  have := g2 j _ (List.getElem?_eq_getElem (by rw [hel]; exact hj))
                  rw [e1, List.append_nil, this]
                · rw [List.getElem?_eq_none (by rw [hel]; omega)]
              rw [hes, ← List.drop_drop, List.take_append_drop, List.take_append_drop]
            have hp := run_part (P := P) (w := w) e agg τ.wd hk vs (n.toNat * τ.wd) _ es _ hseg (by
              have : n.toNat * τ.wd ≤ vs.toList.length := by
                rw [e1, List.append_nil, EncAll.length (fun _ _ => Ty.Enc.length τ) he, hlen]
                exact Nat.mul_le_mul_right _ (by omega)
              simp at this; simp; omega) hel (fun h => by rw [← hel]; exact q2 h)
            exact ⟨_, by simp only [Instr.index, asIntOf, Sem.run_bind, Sem.run_pure, Result.andThen_ok, run_underlying hu, Sem.run_ite, if_pos hn, hs, hp], q1⟩
          · exact yields_none _
        · exact yields_none _
      · exact yields_none _
    · exact yields_none _
  · exact yields_none _


theorem nilCheck_yields (x : Operand) (u : TV) (ρ : Operand → Value) (o : Oper) (ho : o.op = .nilCheck x) (ha : u.conc β Z w (ρ x)) : ∀ obs v, nilCheckStep u = some (obs, v) → (∀ q ∈ obs, q) → ∃ y, (execOp ρ o).run P w = .ok (.value y) w ∧ v.conc β Z w y := by
  intro obs v h _
  unfold nilCheckStep at h
  split at h <;> cases h
  · obtain ⟨b, hb, e⟩ := ha
    simp only [List.cons.injEq, and_true] at e
    exact ⟨_, by simp [execOp, ho, e], b, hb, rfl⟩
  · obtain ⟨b, m, c, hb, e⟩ := ha
    simp only [List.cons.injEq, and_true] at e
    exact ⟨_, by simp [execOp, ho, e], b, m, c, hb, rfl⟩
  · obtain ⟨b, q, es, e, r⟩ := ha
    simp only [List.cons.injEq, and_true] at e
    exact ⟨_, by simp [execOp, ho, e], b, q, es, rfl, r⟩
  · obtain ⟨b, hb, e⟩ := ha
    simp only [List.cons.injEq, and_true] at e
    exact ⟨_, by simp [execOp, ho, e], b, hb, rfl⟩
  · obtain ⟨vs, e, hc⟩ := ha
    simp only [List.cons.injEq, and_true] at e
    exact ⟨_, by simp [execOp, ho, e], vs, rfl, hc⟩

theorem conv_yields (hH : ObjsOK β Z w H) (src dst : TypeId) (u : TV) (a : Value) (ha : u.conc β Z w a) : Yields1 P β Z w (convert src dst a) (convStep P H src dst u) := by
  unfold convStep
  split
  · rename_i d k k' n hs hd
    have := one_int ha; subst this
    refine yields_yv (x := .int _ _) ?_ rfl
    simp [convert, run_underlying hs, run_underlying hd, Conv.intToInt]
  · rename_i s hs hd
    have := one_str ha; subst this
    refine yields_yv (x := .string _) ?_ rfl
    simp [convert, run_underlying hs, run_underlying hd]
  · rename_i e0 v hs hd
    split
    · rename_i e by_ he
      split
      · rename_i xs hu hl
        obtain ⟨hs', _⟩ := elemOf_spec he
        obtain ⟨A, c, cs, rfl, h1, h2, h3, h4⟩ := listOf_conc hH hl ha
        refine yields_yv (x := .string _) ?_ rfl
        by_cases hn : xs.length = 0
        · have hx : xs = [] := List.eq_nil_of_length_eq_zero hn
          subst hx
          cases A with
          | none => exact run_convert_bytes_nil (P := P) w src e hs' hu 0 c dst hd
          | some ad =>
            simp [convert, run_underlying hs', run_underlying hd, run_underlying hu, Conv.bytesToString, loadCells, loadCellsFrom]
            rfl
        · obtain ⟨ad, rfl, hsp, hc⟩ := h4 hn
          obtain ⟨b, o, sp⟩ := ad
          simp only at hsp; subst hsp
          refine run_convert_bytes_arg (P := P) w src e hs' hu b o xs.length c xs rfl (fun i hi => ?_) dst hd
          obtain ⟨es, g1, g2⟩ := h3.getD (k := 1) (fun _ _ => Ty.Enc.length (.int .u8)) (0 : Int) i hi
          have g1 : es = [.int .u8 (xs.getD i 0)] := g1
          have := hc _ _ (g2 0 _ (by rw [g1]; rfl))
          rw [Addr.add_zero'] at this
          simpa using this
      · exact yields_none _
    · exact yields_none _
  · exact yields_none _

theorem boundOf_run {d : Nat} {v : Option TV} {l : Int} {y : Option Value} (h : boundOf d v = some l) (hv : match v, y with | none, none => True | some u, some x => u.conc β Z w x | _, _ => False) :
    (y = none ∧ l = d) ∨ ∃ k, y = some (.int k l) := by
  unfold boundOf at h
  split at h
  · cases h
    cases y with
    | none => exact .inl ⟨rfl, rfl⟩
    | some y => exact hv.elim
  · cases h
    cases y with
    | none => exact hv.elim
    | some y => have := one_int hv; subst this; exact .inr ⟨_, rfl⟩
  · cases h

theorem run_bounds (isS : Bool) (len cap : Nat) (lo hi : Option Value) (l h : Int) (hl : (lo = none ∧ l = (0 : Nat)) ∨ ∃ k, lo = some (.int k l)) (hh : (hi = none ∧ h = len) ∨ ∃ k, hi = some (.int k h))
    (h1 : 0 ≤ h) (h2 : h ≤ len) (hlc : len ≤ cap) (h3 : 0 ≤ l) (h4 : l ≤ h) : (Instr.sliceBounds isS len cap lo hi none).run P w = .ok (l.toNat, h.toNat, cap) w := by
  have hhn : ((h.toNat : Nat) : Int) = h := by omega
  rcases hh with ⟨rfl, rfl⟩ | ⟨k, rfl⟩ <;> rcases hl with ⟨rfl, rfl⟩ | ⟨k', rfl⟩
  · simp [Instr.sliceBounds]
  · simp only [Instr.sliceBounds, Sem.run_bind, Sem.run_pure, Result.andThen_ok, run_sliceBound (P := P) w k' l len _ h3 (by omega)]
    simp
  · simp only [Instr.sliceBounds, Sem.run_bind, Sem.run_pure, Result.andThen_ok, run_sliceBound (P := P) w k h cap _ h1 (by omega)]
    simp
  · simp only [Instr.sliceBounds, Sem.run_bind, Sem.run_pure, Result.andThen_ok, run_sliceBound (P := P) w k h cap _ h1 (by omega), run_sliceBound (P := P) w k' l h.toNat _ h3 (by omega)]

end

end Go.Proofs.Ythjogeodclpafaa.AM
