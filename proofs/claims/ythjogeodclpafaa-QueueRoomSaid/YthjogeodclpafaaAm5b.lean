/- Composite literals of structs; pieces that later texts want too. -/
import Derived.Test.YthjogeodclpafaaAm5
set_option linter.unusedVariables false
set_option linter.unusedSimpArgs false
namespace Go.Proofs.Ythjogeodclpafaa.AM
open Go

section
variable {P : Program} {β : List Value} {Z : Nat → Prop} {w : World} {H : List AObj}

theorem ofCell_conc {v : Value} (h : (ofCell v).known = true) : (ofCell v).conc β Z w [v] := by
  unfold ofCell at h ⊢
  split at h <;> first | rfl | cases h

theorem ofCells_conc : ∀ {vs : List Value}, (vs.map ofCell).all BV.known = true → ConcL β Z w (vs.map ofCell) vs
  | [], _ => rfl
  | v :: vs, h => by
    simp only [List.map_cons, List.all_cons, Bool.and_eq_true] at h
    exact ⟨[v], vs, rfl, ofCell_conc h.1, ofCells_conc h.2⟩

theorem EncAll.one {α : Type} {R : α → List Value → Prop} (hR : ∀ x cs, R x cs → ∀ u ∈ cs, u.oneCell' = true) : ∀ {xs : List α} {cs : List Value}, EncAll R xs cs → ∀ u ∈ cs, u.oneCell' = true
  | [], _, e => by simp [EncAll] at e; simp [e]
  | x :: xs, _, ⟨c1, c2, e, h1, h2⟩ => by
    subst e
    intro u hu
    rcases List.mem_append.1 hu with h | h
    · exact hR _ _ h1 u h
    · exact EncAll.one hR h2 u h

theorem Ty.Enc.one : ∀ (τ : Ty) {x : τ.D} {cs : List Value}, τ.Enc Z w x cs → ∀ u ∈ cs, u.oneCell' = true
  | .int _, _, _, e => by simp [Ty.Enc] at e; simp [e, Value.oneCell']
  | .bool, _, _, e => by simp [Ty.Enc] at e; simp [e, Value.oneCell']
  | .str, _, _, e => by simp [Ty.Enc] at e; simp [e, Value.oneCell']
  | .pair a b, _, _, ⟨c1, c2, e, h1, h2⟩ => by
    subst e
    intro u hu
    rcases List.mem_append.1 hu with h | h
    · exact Ty.Enc.one a h1 u h
    · exact Ty.Enc.one b h2 u h
  | .sl _ a, _, _, ⟨v, e, A, c, cs, e', _⟩ => by subst e; subst e'; simp [Value.oneCell']
  | .arr n a, _, _, ⟨_, h⟩ => EncAll.one (fun _ _ => Ty.Enc.one a) h

theorem BV.conc.ones : ∀ {v : BV} {cs : List Value}, v.conc β Z w cs → ∀ u ∈ cs, u.oneCell' = true
  | .any, _, ⟨_, e, h⟩ => by subst e; simpa using h
  | .int _ _, _, e => by simp [BV.conc] at e; simp [e, Value.oneCell']
  | .bool _, _, e => by simp [BV.conc] at e; simp [e, Value.oneCell']
  | .lit _, _, e => by simp [BV.conc] at e; simp [e, Value.oneCell']
  | .str _, _, e => by simp [BV.conc] at e; simp [e, Value.oneCell']
  | .nilp, _, e => by simp [BV.conc] at e; simp [e, Value.oneCell']
  | .nils, _, e => by simp [BV.conc] at e; simp [e, Value.oneCell']
  | .nilm, _, e => by simp [BV.conc] at e; simp [e, Value.oneCell']
  | .nilf, _, e => by simp [BV.conc] at e; simp [e, Value.oneCell']
  | .ptr _ _, _, ⟨b, h, e⟩ => by simp [e, Value.oneCell']
  | .eptr _ _ _ _, _, ⟨b, m, c, h, e⟩ => by simp [e, Value.oneCell']
  | .fptr _ _ _, _, ⟨b, o, es, e, _⟩ => by simp [e, Value.oneCell']
  | .aptr _ _ _ _ _ _, _, ⟨b, h, e⟩ => by simp [e, Value.oneCell']
  | .hd _, _, ⟨A, m, c, h, e⟩ => by simp [e, Value.oneCell']
  | .sub _ _ _ _, _, ⟨A, m, c, A', c', h, e, _⟩ => by simp [e, Value.oneCell']
  | .fsl _ _ _, _, ⟨v, e, A, c, cs, e', _⟩ => by subst e; subst e'; simp [Value.oneCell']
  | .map _, _, ⟨b, h, e⟩ => by simp [e, Value.oneCell']
  | .fn _ _, _, ⟨vs, e, h⟩ => by simp [e, Value.oneCell']
  | .arr m τ xs, _, ⟨_, h⟩ => EncAll.one (fun _ _ => Ty.Enc.one τ) h
  | .nz _ _, _, ⟨b, e, _⟩ => by simp [e, Value.oneCell']
  | .pre _ _, _, ⟨A, m, c, h, e, _⟩ => by simp [e, Value.oneCell']
  | .win _ _ _ _, _, ⟨A, m, c, A', c', h, e, _⟩ => by simp [e, Value.oneCell']
  | .prec _ _, _, ⟨A, m, c, h, e, _⟩ => by simp [e, Value.oneCell']

theorem ConcL.ones : ∀ {cs : List BV} {vs : List Value}, ConcL β Z w cs vs → ∀ u ∈ vs, u.oneCell' = true
  | [], _, e => by simp [ConcL] at e; simp [e]
  | _ :: _, _, ⟨v1, v2, e, h1, h2⟩ => by
    subst e
    intro u hu
    rcases List.mem_append.1 hu with h | h
    · exact h1.ones u h
    · exact ConcL.ones h2 u h

theorem TV.cells_conc {v : TV} {x : Value} (h : v.conc β Z w x) : ConcL β Z w v.cells x.cells.toList := by
  cases v with
  | one c =>
    have h1 := BV.conc.ones h x (List.mem_singleton.2 rfl)
    have : x.cells = #[x] := by cases x <;> first | rfl | cases h1
    rw [this]
    exact ⟨[x], [], rfl, h, rfl⟩
  | agg cs =>
    obtain ⟨vs, rfl, hc⟩ := h
    exact hc

def splice (cs : List Value) (o : Nat) (nv : List Value) : List Value := cs.take o ++ nv ++ cs.drop (o + nv.length)

theorem fold_set : ∀ (vs : List Value) (k off : Nat) (cs : Array Value), off + k + vs.length ≤ cs.size →
    ((vs.zipIdx k).foldl (fun cs (x : Value × Nat) => cs.setIfInBounds (off + x.2) x.1) cs).toList = cs.toList.take (off + k) ++ vs ++ cs.toList.drop (off + k + vs.length)
  | [], k, off, cs, h => by simp
  | v :: vs, k, off, cs, h => by
    simp only [List.zipIdx_cons, List.foldl_cons, List.length_cons] at h ⊢
    rw [fold_set vs (k + 1) off _ (by simp; omega)]
    have hlt : off + k < cs.toList.length := by simp; omega
    rw [Array.toList_setIfInBounds, show off + (k + 1) = (off + k) + 1 by omega, List.take_succ_eq_append_getElem (by simpa using hlt)]
    simp only [List.getElem_set_self, List.take_set_of_le (Nat.le_refl _), List.append_assoc, List.singleton_append]
    congr 2
    rw [List.drop_set_of_lt (by omega), show off + k + 1 + vs.length = off + k + (vs.length + 1) by omega]

theorem zipParts_spec : ∀ {ps : List (Nat × Operand)} {vs : List TV} {l : List (Nat × TV)}, zipParts ps vs = some l → l.map (·.1) = ps.map (·.1) ∧ l.map (·.2) = vs ∧ ps.length = vs.length
  | [], [], l, h => by simp [zipParts] at h; subst h; exact ⟨rfl, rfl, rfl⟩
  | [], _ :: _, l, h => by simp [zipParts] at h
  | _ :: _, [], l, h => by simp [zipParts] at h
  | (i, o) :: r, v :: vs, l, h => by
    simp only [zipParts] at h
    split at h
    · rename_i l' hl
      cases h
      obtain ⟨h1, h2, h3⟩ := zipParts_spec hl
      exact ⟨by simp [h1], by simp [h2], by simp [h3]⟩
    · cases h

theorem patchW_conc {off : Nat} {news cs cs' : List BV} {nv vs : List Value} (h : patchW off news cs = some cs') (hn : ConcL β Z w news nv) (hc : ConcL β Z w cs vs) : ConcL β Z w cs' (splice vs off nv) ∧ off + nv.length ≤ vs.length := by
  unfold patchW at h
  split at h
  · rename_i a b ha hb
    cases h
    obtain ⟨u1, u2, e1, l1, c1⟩ := takeW_conc ha hc
    obtain ⟨u3, u4, e2, l2, c2⟩ := dropW_conc hb hc
    have hnl := hn.length
    rw [← hnl] at l2
    have e3 : splice vs off nv = u1 ++ (nv ++ u4) := by
      unfold splice
      rw [List.append_assoc]
      congr 1
      · rw [e1, ← l1, List.take_left]
      · rw [e2, ← l2, List.drop_left]
    rw [e3]
    exact ⟨c1.app (hn.app c2), by rw [e2]; simp; omega⟩
  · cases h


theorem fill_conc (fs : Array Field) (places : Nat → Option (Nat × Nat)) (hpl : ∀ i off sz, placeB P fs.toList i = some (off, sz) → places i = some (off, sz)) : ∀ (l : List (Nat × TV)) (cs cs' : List BV) (vs : List Value) (zs : Array Value), fillB P fs.toList cs l = some cs' → ConcL β Z w cs zs.toList →
    TVs β Z w (l.map (·.2)) vs → ∃ r, Instr.fill places zs ((l.map (·.1)).zip vs) = some r ∧ ConcL β Z w cs' r.toList
  | [], cs, cs', vs, zs, h, hc, hv => by
    simp only [fillB, Option.some.injEq] at h
    subst h
    exact ⟨zs, by simp [Instr.fill], hc⟩
  | (i, v) :: l, cs, cs', vs, zs, h, hc, hv => by
    obtain ⟨x, vs', rfl, h1, h2⟩ := hv
    simp only [fillB] at h
    split at h
    · rename_i off sz hp
      split at h
      · rename_i c1 hw hpa
        have hw : widths v.cells = sz := Nat.eq_of_beq_eq_true hw
        have h1' : v.conc β Z w x := h1
        have hcv := TV.cells_conc h1'
        have hlen := hcv.length
        obtain ⟨k1, k2⟩ := patchW_conc hpa hcv hc
        have hsz : x.cells.size = sz := by rw [← Array.length_toList, hlen, hw]
        have hfold : (x.cells.zipIdx.foldl (fun cs (x : Value × Nat) => cs.setIfInBounds (off + x.2) x.1) zs).toList = splice zs.toList off x.cells.toList := by
          rw [← Array.foldl_toList, Array.toList_zipIdx]
          have := fold_set x.cells.toList 0 off zs (by simpa using k2)
          simpa [splice] using this
        obtain ⟨r, hr, hc'⟩ := fill_conc fs places hpl l c1 cs' vs' (x.cells.zipIdx.foldl (fun cs (x : Value × Nat) => cs.setIfInBounds (off + x.2) x.1) zs) h (by rw [hfold]; exact k1) h2
        refine ⟨r, ?_, hc'⟩
        simp only [List.map_cons, List.zip_cons_cons, Instr.fill, hpl i off sz hp]
        rw [if_neg (by
          rw [Array.length_toList, Array.length_toList] at k2
          simp [hsz]; omega)]
        exact hr
      · cases h
    · cases h

theorem run_mapM_places (fs : List Field) (h : fs.all (fun f => (P.info? f.type).isSome) = true) : (fs.mapM (m := Sem) fun f => do pure (f.offset, ← sizeOf f.type)).run P w = .ok (fs.map fun f => (f.offset, ((P.info? f.type).map (·.size)).getD 0)) w := by
  induction fs with
  | nil => simp
  | cons f fs ih =>
    simp only [List.all_cons, Bool.and_eq_true] at h
    obtain ⟨i, hi⟩ := Option.isSome_iff_exists.1 h.1
    rw [List.mapM_cons]
    simp only [Sem.run_bind, run_sizeOf' hi, Result.andThen_ok, Sem.run_pure, ih h.2, List.map_cons, hi, Option.map_some, Option.getD_some]

theorem build_yields (t : TypeId) (l : List (Nat × TV)) (parts : Array (Nat × Value)) (hidx : parts.toList.map (·.1) = l.map (·.1)) (hv : TVs β Z w (l.map (·.2)) (parts.toList.map (·.2))) : Yields1 P β Z w (Instr.build t parts) (buildStep P t l) := by
  unfold buildStep
  split
  · rename_i fs i hu hi
    split
    · rename_i z hz
      split
      · rename_i hk hall
        split
        · rename_i cs hf
          refine yields_some fun _ => ?_
          have hm := run_mapM_places (P := P) (w := w) fs.toList hall
          let pl : List (Nat × Nat) := fs.toList.map fun f => (f.offset, ((P.info? f.type).map (·.size)).getD 0)
          obtain ⟨r, hr, hc⟩ := fill_conc (P := P) fs (fun i => pl[i]?) (fun i off sz hp => by
            unfold placeB at hp
            split at hp
            · rename_i fd hfd
              split at hp
              · rename_i inf hinf
                cases hp
                simp [pl, List.getElem?_map, hfd, hinf]
              · cases hp
            · cases hp) l _ cs _ z.cells hf (ofCells_conc hk) hv
          have hzip : (l.map (·.1)).zip (parts.toList.map (·.2)) = parts.toList := by
            rw [← hidx]
            generalize parts.toList = ps
            induction ps with
            | nil => rfl
            | cons p ps ih => simp [ih]
          rw [hzip] at hr
          refine ⟨.agg r, ?_, r, rfl, hc⟩
          have hzv : (zeroValue t).run P w = .ok z w := by simp [zeroValue, typeInfo, hi, hz]
          have hm' : (fs.mapM (m := Sem) fun f => do pure (f.offset, ← sizeOf f.type)).run P w = .ok pl.toArray w := by
            rw [Array.mapM_eq_mapM_toList, ← bind_pure_comp]
            simp only [Sem.run_bind, hm, Result.andThen_ok, Sem.run_pure]
            rfl
          have hr' : Instr.fill (pl.toArray[·]?) z.cells parts.toList = some r := by
            rw [← hr]; congr 1; funext i; simp
          simp only [Instr.build, Sem.run_bind, hzv, Result.andThen_ok, run_underlying hu, hm', hr']
          simp
        · exact yields_none _
      · exact yields_none _
    · exact yields_none _
  · exact yields_none _

end

end Go.Proofs.Ythjogeodclpafaa.AM
