/- Rows that the cells of objects or the result name are frozen behind a call: then they are told as lists. -/
import Derived.Test.YthjogeodclpafaaAmL
set_option linter.unusedVariables false
set_option linter.unusedSimpArgs false
namespace Go.Proofs.Ythjogeodclpafaa.AM
open Go

section
variable {β : List Value} {Z : Nat → Prop} {w : World}

theorem frz1_cells (c : BV) (H : List AObj) {n : Nat} {t : TypeId} {cs : List BV} (h : H[n]? = some (.cells t cs)) : (frz1 c H).2[n]? = some (.cells t cs) := by
  have set : ∀ (m : Nat) (e : TypeId) (τ : Ty) (xs : List τ.D), objAt H m = .row e τ xs → (H.set m (.frow e τ xs))[n]? = some (.cells t cs) := by
    intro m e τ xs hm
    by_cases q : m = n
    · subst q
      unfold objAt at hm
      rw [List.getD_eq_getElem?_getD, h] at hm
      cases hm
    · rw [List.getElem?_set_ne q]; exact h
  unfold frz1
  split
  · split
    · rename_i ho; exact set _ _ _ _ ho
    · exact h
    · exact h
  · split
    · rename_i ho; split
      · exact set _ _ _ _ ho
      · exact h
    · split <;> exact h
    · exact h
  · split
    · rename_i ho; exact set _ _ _ _ ho
    · exact h
    · exact h
  · exact h

theorem frzGo_cells : ∀ (ds : List BV) (H : List AObj) {n : Nat} {t : TypeId} {cs : List BV}, H[n]? = some (.cells t cs) → (frzGo ds H).2[n]? = some (.cells t cs)
  | [], H, _, _, _, h => h
  | c :: r, H, _, _, _, h => frzGo_cells r (frz1 c H).2 (frz1_cells c H h)

def frzObj (n : Nat) (H : List AObj) : List AObj := match objAt H n with
  | .cells t cs => match frzGo cs H with
    | (cs', H1) => H1.set n (.cells t cs')
  | _ => H

theorem frzObj_trans {H : List AObj} (n : Nat) (hh : HeapOK β H Z w) : ∃ Z', Trans β H Z w β (frzObj n H) Z' w := by
  unfold frzObj
  split
  · rename_i t cs ho
    have hget := objAt_get ho (by simp)
    have hlt : n < H.length := (List.getElem?_eq_some_iff.1 hget).1
    obtain ⟨v, hb, _, _, hob⟩ := hh.get hlt
    rw [ho] at hob
    obtain ⟨b, vs, e, hbl, hcs⟩ := hob
    obtain ⟨Z', t1, hc⟩ := frzGo_conc cs H Z _ hh hcs
    refine ⟨Z', t1.trans (Trans.upd t1.heap (frzGo_cells cs H hget) hb (.inl rfl) (Keep.refl _ _) rfl ⟨b, vs, e, hbl, hc⟩)⟩
  · exact ⟨Z, Trans.refl hh⟩

def frzObjs : List Nat → List AObj → List AObj
  | [], H => H
  | n :: r, H => frzObjs r (frzObj n H)

theorem frzObjs_trans : ∀ (ns : List Nat) {Z : Nat → Prop} {H : List AObj}, HeapOK β H Z w → ∃ Z', Trans β H Z w β (frzObjs ns H) Z' w
  | [], Z, H, hh => ⟨Z, Trans.refl hh⟩
  | n :: r, Z, H, hh => by
    obtain ⟨Z1, t1⟩ := frzObj_trans n hh
    obtain ⟨Z2, t2⟩ := frzObjs_trans r t1.heap
    exact ⟨Z2, t1.trans t2⟩

def frzT (v : TV) (H : List AObj) : TV × List AObj := match v with
  | .one c => match frz1 c H with
    | (c', H1) => (.one c', H1)
  | .agg cs => match frzGo cs H with
    | (cs', H1) => (.agg cs', H1)

theorem frzT_conc {H : List AObj} (v : TV) (hh : HeapOK β H Z w) {x : Value} (h : v.conc β Z w x) : ∃ Z', Trans β H Z w β (frzT v H).2 Z' w ∧ (frzT v H).1.conc β Z' w x := by
  cases v with
  | one c => exact frz1_conc c hh h
  | agg cs =>
    obtain ⟨vs, e, hc⟩ := h
    obtain ⟨Z', t, k⟩ := frzGo_conc cs H Z _ hh hc
    exact ⟨Z', t, vs, e, k⟩

def frzTs : List TV → List AObj → List TV × List AObj
  | [], H => ([], H)
  | v :: r, H => match frzT v H with
    | (v', H1) => match frzTs r H1 with
      | (r', H2) => (v' :: r', H2)

theorem frzTs_conc : ∀ (vs : List TV) {Z : Nat → Prop} {H : List AObj} {xs : List Value}, HeapOK β H Z w → TVs β Z w vs xs → ∃ Z', Trans β H Z w β (frzTs vs H).2 Z' w ∧ TVs β Z' w (frzTs vs H).1 xs
  | [], Z, H, xs, hh, h => ⟨Z, Trans.refl hh, h⟩
  | v :: r, Z, H, xs, hh, ⟨x, xr, e, h1, h2⟩ => by
    obtain ⟨Z1, t1, k1⟩ := frzT_conc v hh h1
    obtain ⟨Z2, t2, k2⟩ := frzTs_conc r t1.heap (TVs.trans hh t1 h2)
    refine ⟨Z2, t1.trans t2, x, xr, e, ?_, k2⟩
    have := k1.mono (ext := []) (t2.zkeep t1.heap)
    rw [List.append_nil] at this
    exact this

def frzR (r : SV) (H : List AObj) : SV × List AObj := match r with
  | .t v => match frzT v H with
    | (v', H1) => (.t v', H1)
  | .tup vs => match frzTs vs H with
    | (vs', H1) => (.tup vs', H1)
  | r => (r, H)

theorem frzR_conc {H : List AObj} (r : SV) (hh : HeapOK β H Z w) {x : Value} (h : r.conc β Z w x) : ∃ Z', Trans β H Z w β (frzR r H).2 Z' w ∧ (frzR r H).1.conc β Z' w x := by
  cases r with
  | any => exact ⟨Z, Trans.refl hh, h⟩
  | t v => exact frzT_conc v hh h
  | tup vs =>
    obtain ⟨xs, e, hc⟩ := h
    obtain ⟨Z', t, k⟩ := frzTs_conc vs hh hc
    exact ⟨Z', t, xs, e, k⟩
  | cond ts g v => exact ⟨Z, Trans.refl hh, h⟩

end

/-- Entry names that are frozen or dead count as given up. -/
def deadF : List AObj → List AObj
  | [] => []
  | o :: r => (match o with
    | .frow _ _ _ => .dead
    | o => o) :: deadF r

theorem deadF_get (H : List AObj) (n : Nat) : (deadF H)[n]? = (H[n]?).map fun o => match o with
    | .frow _ _ _ => .dead
    | o => o := by
  induction H generalizing n with
  | nil => rfl
  | cons o r ih => cases n with
    | zero => rfl
    | succ n => simpa [deadF] using ih n

theorem deadF_len (H : List AObj) : (deadF H).length = H.length := by
  induction H with
  | nil => rfl
  | cons o r ih => simp [deadF, ih]

theorem deadF_trans {β : List Value} {Z : Nat → Prop} {w : World} {H : List AObj} (hh : HeapOK β H Z w) : Trans β H Z w β (deadF H) Z w := by
  have get : ∀ {n : Nat} {o : AObj}, (deadF H)[n]? = some o → o = .dead ∨ H[n]? = some o := by
    intro n o h
    rw [deadF_get] at h
    cases hp : H[n]? with
    | none => rw [hp] at h; cases h
    | some p =>
      rw [hp] at h
      simp only [Option.map_some, Option.some.injEq] at h
      split at h
      · exact .inl h.symm
      · exact .inr (by rw [h])
  have live : ∀ b, LiveB β (deadF H) b → LiveB β H b := by
    rintro b ⟨n, o, v, h1, h2, h3, h4⟩
    rcases get h1 with rfl | hp
    · cases h2
    · exact ⟨n, o, v, hp, h2, h3, h4⟩
  refine ⟨⟨[], by simp⟩, ⟨by rw [deadF_len]; exact hh.len, ?_, ?_, fun b hb => hh.frz b (live b hb), hh.zlt⟩, Keep.refl _ _, fun _ h => h, fun _ h => .inl h, fun b hb => .inl (live b hb)⟩
  · intro n o v h1 h2
    rcases get h1 with rfl | hp
    · trivial
    · exact hh.objs n o v hp h2
  · intro n m o p u v b h1 h2 h3 h4 h5 h6 h7 h8
    rcases get h1 with rfl | g1
    · cases h3
    · rcases get h2 with rfl | g2
      · cases h4
      · exact hh.apart n m o p u v b g1 g2 h3 h4 h5 h6 h7 h8

/-- Frozen: the objects 'ns' and the result; then put in order. -/
@[irreducible] def frozenK (n0 : Nat) (ns : List Nat) (K : SV → List AObj → Prop) (r : SV) (H : List AObj) : Prop :=
  match frzR r (frzObjs ns H) with
  | (r1, H1) => match settle n0 [] r1 (deadF H1) with
    | some (r', H') => K r' H'
    | none => False

/-- The rows of these objects and of the result are frozen behind the call. -/
theorem Sat.frozen {P : Program} {f : FuncId} {args : List SV} {H : List AObj} {K : SV → List AObj → Prop} (ns : List Nat) (h : Sat P f args H (frozenK H.length ns K)) : Sat P f args H K := by
  intro β Z w cargs hh hargs
  refine (h β Z w cargs hh hargs).mono ?_
  rintro e w' ⟨v, r, H', β', Z', rfl, hK, hr, t⟩
  unfold frozenK at hK
  split at hK
  rename_i r1 H1 hf
  obtain ⟨Z1, t1⟩ := frzObjs_trans ns t.heap
  obtain ⟨Z2, t2, k2⟩ := frzR_conc r t1.heap (hr.trans t.heap t1)
  rw [hf] at t2 k2
  dsimp only at t2 k2
  have t3 := deadF_trans t2.heap
  have k3 := k2.trans t2.heap t3
  have tt := ((t.trans t1).trans t2).trans t3
  split at hK
  · rename_i r' H'' hs
    obtain ⟨β1, t4, h4⟩ := moves_trans [] r1 β' (deadF H1) v t3.heap k3
    unfold settle at hs
    split at hs
    rename_i r2 H2 hm
    rw [hm] at t4 h4
    dsimp only at t4 h4 hs
    generalize reach H2 (rangeN 0 H.length ++ r2.names) = nr at hs
    split at hs
    · rename_i Hl hp hin heq
      cases hs
      have he := eqList_eq heq
      rw [rangeN_eq] at he
      exact ⟨v, _, _, partB β1 nr, Z2, rfl, hK, h4.ren (renOK_idx (allIn_iff.1 hin)), part_trans (tt.trans t4) hh.len.symm hp he⟩
    · cases hs
  · exact hK.elim

end Go.Proofs.Ythjogeodclpafaa.AM
