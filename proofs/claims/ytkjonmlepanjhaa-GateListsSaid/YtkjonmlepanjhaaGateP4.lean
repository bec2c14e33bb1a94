/- The gate chapter: tapes, deletions, closing. -/
import Derived.Test.YtkjonmlepanjhaaGateN4
import Derived.Test.YtkjonmlepanjhaaGateP2
set_option linter.unusedVariables false
set_option linter.unusedSimpArgs false
namespace Go.Proofs.Ytkjonmlepanjhaa.AM
open Go Go.Proofs.Ytkjonmlepanjhaa

theorem nextV_bound (l : List Int) (k : Nat) {n : Int} (h : 0 < n) : 0 ≤ nextV l k n ∧ nextV l k n < n := by
  unfold nextV
  split
  · exact ⟨Int.emod_nonneg _ (by omega), Int.emod_lt_of_pos _ h⟩
  · exact ⟨Int.le_refl _, h⟩

theorem nextK_ge' (l : List Int) (k : Nat) : k ≤ nextK l k := by unfold nextK; split <;> omega
theorem nextK_le {l : List Int} {k : Nat} (h : k ≤ l.length) : nextK l k ≤ l.length := by unfold nextK; split <;> omega

theorem sat29 : ∀ vs H K, S29.cps vs H K → Sat Try.prog 29 vs H K := by
  intro vs H K h
  unfold S29 at h
  dsimp only at h
  split at h
  · rename_i a b l k
    obtain ⟨h1, h2, h3, h4, hK⟩ := h
    refine fn_sat (N := {}) hm tab2 Try.func29 ?_
    rw [← nf29]
    have e1 : wr (b - a) = b - a := wr_eq (by omega) (by omega)
    have e2 : wr (b - a + 1) = b - a + 1 := wr_eq (by omega) (by omega)
    have hb := nextV_bound l k (n := b - a + 1) (by omega)
    rw [e1, e2]
    have e3 : wr (a + nextV l k (b - a + 1)) = a + nextV l k (b - a + 1) := wr_eq (by omega) (by omega)
    rw [e3]
    exact ⟨by omega, by omega, h4, hK⟩
  · exact h.elim

theorem sat30 (tab3 : TabOK Try.prog (look L3)) : ∀ vs H K, S30.cps vs H K → Sat Try.prog 30 vs H K := by
  intro vs H K h
  unfold S30 at h
  dsimp only at h
  split at h
  · rename_i c l k
    obtain ⟨h1, hK⟩ := h
    refine fn_sat (N := {}) hm tab3 Try.func30 ?_
    rw [← nf30]
    have b1 := nextV_bound l k (n := 30) (by omega)
    have b2 := nextV_bound l (nextK l (nextK l (nextK l k))) (n := 15) (by omega)
    refine ⟨by omega, by omega, h1, by omega, by omega, by omega, h1, by omega, by omega, h1, by omega, by omega, by omega, h1, ?_⟩
    have e5 : (5 : Int) - 1 + 1 = 5 := rfl
    have e15 : (15 : Int) - 1 + 1 = 15 := rfl
    rw [e5, e15, wr_eq (by omega) (by omega)]
    exact hK
  · exact h.elim

/-! ### Deletion in place -/
theorem fi_succ {α : Type} {p : α → Bool} (z : α) : ∀ (l : List α) (x : Nat), x ≤ l.findIdx p → x < l.length → p (l.getD x z) = false → x + 1 ≤ l.findIdx p
  | [], x, _, h, _ => by simp at h
  | a :: l, 0, _, _, h => by
    have : p a = false := by simpa using h
    simp [List.findIdx_cons, this]
  | a :: l, x + 1, h0, h1, h2 => by
    rw [List.findIdx_cons] at h0 ⊢
    cases q : p a with
    | true => rw [q] at h0; simp at h0
    | false =>
      rw [q] at h0
      have := fi_succ z l x (by simpa using h0) (by simpa using h1) (by simpa using h2)
      simp; omega

theorem fi_hit {α : Type} {p : α → Bool} (z : α) : ∀ (l : List α) (x : Nat), x ≤ l.findIdx p → x < l.length → p (l.getD x z) = true → l.findIdx p = x ∧ l.any p = true
  | [], x, _, h, _ => by simp at h
  | a :: l, 0, _, _, h => by
    have : p a = true := by simpa using h
    simp [List.findIdx_cons, this]
  | a :: l, x + 1, h0, h1, h2 => by
    rw [List.findIdx_cons] at h0 ⊢
    cases q : p a with
    | true => rw [q] at h0; simp at h0
    | false =>
      rw [q] at h0
      have := fi_hit z l x (by simpa using h0) (by simpa using h1) (by simpa using h2)
      simp [this, q]

theorem fi_end {α : Type} {p : α → Bool} : ∀ (l : List α), l.length ≤ l.findIdx p → l.any p = false
  | [], _ => rfl
  | a :: l, h => by
    rw [List.findIdx_cons] at h
    cases q : p a with
    | true => rw [q] at h; simp at h
    | false =>
      rw [q] at h
      have := fi_end l (by simpa using h)
      simp [this, q]

theorem idxE_hit {p : W → Bool} {ws : List W} {x : Nat} (h1 : x ≤ ws.findIdx p) (h2 : x < ws.length) (h3 : p (ws.getD x Win.zero) = true) : idxE p ws = x := by
  obtain ⟨a, b⟩ := fi_hit Win.zero ws x h1 h2 h3
  unfold idxE; rw [b, a]; rfl

theorem idxE_none {p : W → Bool} {ws : List W} (h : ws.length ≤ ws.findIdx p) : idxE p ws = -1 := by
  unfold idxE; rw [fi_end ws h]; rfl

/-- How far a deletion has come. -/
def Del (q : W → Bool) (ws : List W) (i j : Nat) (row : List W) : Prop :=
  i < j ∧ j ≤ ws.length ∧ row.length = ws.length ∧ row.take i = (ws.take j).filter q ∧ row.drop j = ws.drop j

theorem del_none {q : W → Bool} {ws : List W} (h : idxE (fun w => !q w) ws = -1) : ws.filter q = ws := by
  unfold idxE at h
  split at h
  · omega
  · rename_i hn
    rw [List.filter_eq_self]
    intro a ha
    rw [Bool.not_eq_true, List.any_eq_false] at hn
    have := hn a ha
    simpa using this

theorem del_start {q : W → Bool} {ws : List W} (h : idxE (fun w => !q w) ws ≠ -1) : ∃ i : Nat, idxE (fun w => !q w) ws = i ∧ i < ws.length ∧ Del q ws i (i + 1) ws := by
  unfold idxE at h ⊢
  split at h
  · rename_i hany
    rw [if_pos hany]
    have hlt : ws.findIdx (fun w => !q w) < ws.length := List.findIdx_lt_length.2 (by
      rw [List.any_eq_true] at hany
      obtain ⟨x, hx, hp⟩ := hany
      exact ⟨x, hx, by simpa using hp⟩)
    refine ⟨ws.findIdx (fun w => !q w), rfl, hlt, by omega, hlt, rfl, ?_, rfl⟩
    rw [filter_next q hlt]
    have h0 : q (ws.getD (ws.findIdx (fun w => !q w)) Win.zero) = false := by
      have := List.findIdx_getElem (p := fun w => !q w) (xs := ws) (w := hlt)
      rw [List.getD_eq_getElem?_getD, List.getElem?_eq_getElem hlt]
      simpa using this
    rw [h0]
    simp only [Bool.false_eq_true, if_false, List.append_nil]
    symm
    rw [List.filter_eq_self]
    intro a ha
    obtain ⟨n, hn, rfl⟩ := List.mem_take_iff_getElem.1 ha
    have := List.not_of_lt_findIdx (p := fun w => !q w) (xs := ws) (i := n) (by omega)
    simpa using this
  · exact absurd rfl h

theorem del_get {q : W → Bool} {ws row : List W} {i j : Nat} (h : Del q ws i j row) (hj : j < ws.length) : row.getD j Win.zero = ws.getD j Win.zero := by
  have : (row.drop j)[0]? = (ws.drop j)[0]? := by rw [h.2.2.2.2]
  rw [List.getElem?_drop, List.getElem?_drop, Nat.add_zero] at this
  rw [List.getD_eq_getElem?_getD, List.getD_eq_getElem?_getD, this]

theorem del_keep {q : W → Bool} {ws row : List W} {i j : Nat} (h : Del q ws i j row) (hj : j < ws.length) (hq : q (row.getD j Win.zero) = true) : Del q ws (i + 1) (j + 1) (row.set i (row.getD j Win.zero)) := by
  have hg := del_get h hj
  obtain ⟨h1, h2, h3, h4, h5⟩ := h
  refine ⟨by omega, hj, by simp [h3], ?_, ?_⟩
  · have hi : i < (row.set i (row.getD j Win.zero)).length := by simp; omega
    rw [take_next Win.zero hi, List.take_set_of_le (Nat.le_refl _), h4, filter_next q hj, ← hg, if_pos hq]
    congr 2
    rw [List.getD_eq_getElem?_getD, List.getElem?_set_self (by omega)]; rfl
  · rw [List.drop_set_of_lt (by omega)]
    have : (row.drop j).drop 1 = (ws.drop j).drop 1 := by rw [h5]
    rw [List.drop_drop, List.drop_drop] at this
    exact this

theorem del_skip {q : W → Bool} {ws row : List W} {i j : Nat} (h : Del q ws i j row) (hj : j < ws.length) (hq : q (row.getD j Win.zero) = false) : Del q ws i (j + 1) row := by
  have hg := del_get h hj
  obtain ⟨h1, h2, h3, h4, h5⟩ := h
  refine ⟨by omega, hj, h3, ?_, ?_⟩
  · rw [h4, filter_next q hj, ← hg, hq]; simp
  · have : (row.drop j).drop 1 = (ws.drop j).drop 1 := by rw [h5]
    rw [List.drop_drop, List.drop_drop] at this
    exact this

theorem del_end {q : W → Bool} {ws row : List W} {i j : Nat} (h : Del q ws i j row) (hj : ws.length ≤ j) : row.take i = ws.filter q := by
  rw [h.2.2.2.1, List.take_of_length_le hj]

theorem take_spl {α : Type} (xs : List α) (i : Nat) (zs : List α) (h : i ≤ xs.length) : (spl xs i zs).take i = xs.take i := by
  unfold spl
  rw [List.take_append_of_le_length (by simp; omega), List.take_take, Nat.min_self]

theorem sat49 : ∀ vs H K, S49.cps vs H K → Sat Try.prog 49 vs H K := by
  intro vs H K h
  unfold S49 at h
  dsimp only at h
  split at h
  · obtain ⟨hl, hK⟩ := h
    unfold lenMax at hl
    refine fn_sat (N := N49 _ _) hm tab2 Try.func49 (Eq.mp (nf49a _ _ _ _) ?_)
    simp only [true_and, and_true, decide_eq_true_eq, decide_eq_false_iff_not]
    refine ⟨⟨0, rfl, Nat.zero_le _⟩, fun x hx => ⟨fun h => ⟨by omega, by omega, fun h2 => ?_, fun h2 => ?_⟩, fun h => ?_⟩⟩
    · rw [idxE_hit hx (by omega) h2] at hK
      exact hK
    · exact ⟨x + 1, by rw [wr_eq (by omega) (by omega)]; rfl, fi_succ Win.zero _ x hx (by omega) h2, by omega⟩
    · rw [idxE_none (by omega)] at hK
      exact hK
  · obtain ⟨hl, hK⟩ := h
    unfold lenMax at hl
    refine fn_sat (N := N49 _ _) hm tab2 Try.func49 (Eq.mp (nf49b _ _ _) ?_)
    simp only [true_and, and_true, decide_eq_true_eq, decide_eq_false_iff_not]
    refine ⟨⟨0, rfl, Nat.zero_le _⟩, fun x hx => ⟨fun h => ⟨by omega, by omega, fun h2 => ?_, fun h2 => ?_⟩, fun h => ?_⟩⟩
    · rw [idxE_hit hx (by omega) h2] at hK
      exact hK
    · exact ⟨x + 1, by rw [wr_eq (by omega) (by omega)]; rfl, fi_succ Win.zero _ x hx (by omega) h2, by omega⟩
    · rw [idxE_none (by omega)] at hK
      exact hK
  · exact h.elim

theorem tab3 : TabOK Try.prog (look L3) := by
  unfold L3
  exact look_cons (look_cons tab2 sat49) sat29

theorem sat45 : ∀ vs H K, S45.cps vs H K → Sat Try.prog 45 vs H K := by
  intro vs H K h
  unfold S45 at h
  dsimp only at h
  split at h
  · rename_i ws c cl
    obtain ⟨hl, hK1, hK2⟩ := h
    have hl' := hl
    unfold lenMax at hl'
    refine Sat.settled [0] (fn_sat (N := N45 _ _) hm tab3 Try.func45 (Eq.mp (nf45a c cl ws _) ?_))
    simp only [true_and, and_true, decide_eq_true_eq, decide_eq_false_iff_not, beq_iff_eq, beq_eq_false_iff_ne, ne_eq, List.length_replicate]
    refine ⟨hl, fun h => ?_, fun h => ?_⟩
    · have hn := del_none (q := (fun w : W => decide (w.2.1 > cl))) h
      rw [hn] at hK1
      refine Eq.mp ?_ hK1
      kernel_rfl
    · obtain ⟨i0, e0, hi0, d0⟩ := del_start (q := (fun w : W => decide (w.2.1 > cl))) h
      refine ⟨⟨(i0, i0 + 1, ws), ⟨e0, by rw [e0, wr_eq (by omega) (by omega)]; rfl, rfl⟩, by simpa [Del, Bool.not_not] using d0⟩, ?_⟩
      rintro ⟨i, j, row⟩ hd
      have d : Del (fun w : W => decide (w.2.1 > cl)) ws i j row := by simpa [Del, Bool.not_not] using hd
      have hrl := d.2.2.1
      have hij := d.1
      have hjl := d.2.1
      dsimp only at *
      refine ⟨fun h => ⟨by omega, by omega, fun h2 => ⟨by omega, by omega, ?_⟩, fun h2 => ?_⟩, fun h => ⟨by omega, by omega, by omega, ?_, by omega, ?_⟩⟩
      · have d2 := del_keep d (by omega) (by simpa [Bool.not_not] using h2)
        exact ⟨(i + 1, j + 1, row.set i (row.getD j Win.zero)), ⟨by rw [wr_eq (by omega) (by omega)]; rfl, by rw [wr_eq (by omega) (by omega)]; rfl, rfl⟩, by simpa [Del, Bool.not_not] using d2, by dsimp only; omega⟩
      · have d2 := del_skip d (by omega) (by simpa [Bool.not_not] using h2)
        exact ⟨(i, j + 1, row), ⟨rfl, by rw [wr_eq (by omega) (by omega)]; rfl, rfl⟩, by simpa [Del, Bool.not_not] using d2, by dsimp only; omega⟩
      · rw [len_spl]; simp only [List.length_replicate]; omega
      · rw [take_spl _ _ _ (by omega), del_end d (by omega)]
        refine Eq.mp ?_ hK2
        kernel_rfl
  · rename_i ws t
    obtain ⟨hl, hK2⟩ := h
    have hK1 := hK2
    have hl' := hl
    unfold lenMax at hl'
    refine Sat.settled [0] (fn_sat (N := N45 _ _) hm tab3 Try.func45 (Eq.mp (nf45b t ws _) ?_))
    simp only [true_and, and_true, decide_eq_true_eq, decide_eq_false_iff_not, beq_iff_eq, beq_eq_false_iff_ne, ne_eq, List.length_replicate]
    refine ⟨hl, fun h => ?_, fun h => ?_⟩
    · have hn := del_none (q := (fun w : W => decide (w.2.2.2.2 > t))) h
      rw [hn] at hK1
      refine Eq.mp ?_ hK1
      kernel_rfl
    · obtain ⟨i0, e0, hi0, d0⟩ := del_start (q := (fun w : W => decide (w.2.2.2.2 > t))) h
      refine ⟨⟨(i0, i0 + 1, ws), ⟨e0, by rw [e0, wr_eq (by omega) (by omega)]; rfl, rfl⟩, by simpa [Del, Bool.not_not] using d0⟩, ?_⟩
      rintro ⟨i, j, row⟩ hd
      have d : Del (fun w : W => decide (w.2.2.2.2 > t)) ws i j row := by simpa [Del, Bool.not_not] using hd
      have hrl := d.2.2.1
      have hij := d.1
      have hjl := d.2.1
      dsimp only at *
      refine ⟨fun h => ⟨by omega, by omega, fun h2 => ⟨by omega, by omega, ?_⟩, fun h2 => ?_⟩, fun h => ⟨by omega, by omega, by omega, ?_, by omega, ?_⟩⟩
      · have d2 := del_keep d (by omega) (by simpa [Bool.not_not] using h2)
        exact ⟨(i + 1, j + 1, row.set i (row.getD j Win.zero)), ⟨by rw [wr_eq (by omega) (by omega)]; rfl, by rw [wr_eq (by omega) (by omega)]; rfl, rfl⟩, by simpa [Del, Bool.not_not] using d2, by dsimp only; omega⟩
      · have d2 := del_skip d (by omega) (by simpa [Bool.not_not] using h2)
        exact ⟨(i, j + 1, row), ⟨rfl, by rw [wr_eq (by omega) (by omega)]; rfl, rfl⟩, by simpa [Del, Bool.not_not] using d2, by dsimp only; omega⟩
      · rw [len_spl]; simp only [List.length_replicate]; omega
      · rw [take_spl _ _ _ (by omega), del_end d (by omega)]
        refine Eq.mp ?_ hK2
        kernel_rfl
  · exact h.elim

theorem tab4 : TabOK Try.prog (look L4) := by
  unfold L4
  exact look_cons (look_cons tab3 sat45) (sat30 tab3)

/-! ### Acts -/
theorem actsGo_fuel (l : List Int) (cell : Int) : ∀ (f g k : Nat) (acc : List A), l.length - k < f → l.length - k < g → actsGo l cell f k acc = actsGo l cell g k acc
  | 0, _, _, _, h, _ => absurd h (Nat.not_lt_zero _)
  | _ + 1, 0, _, _, _, h => absurd h (Nat.not_lt_zero _)
  | f + 1, g + 1, k, acc, h1, h2 => by
    unfold actsGo
    split
    · rename_i hk
      have hk' : k + 1 ≤ (actV l k cell).2 := by
        unfold actV
        have a1 := nextK_lt hk.1
        dsimp only
        split <;> dsimp only [windowK] <;> rw [a1]
        · exact Nat.le_trans (nextK_ge' _ _) (Nat.le_trans (nextK_ge' _ _) (Nat.le_trans (nextK_ge' _ _) (Nat.le_trans (nextK_ge' _ _) (Nat.le_trans (nextK_ge' _ _) (nextK_ge' _ _)))))
        · exact Nat.le_trans (nextK_ge' _ _) (Nat.le_trans (nextK_ge' _ _) (Nat.le_trans (nextK_ge' _ _) (Nat.le_trans (nextK_ge' _ _) (nextK_ge' _ _))))
      exact actsGo_fuel l cell f g _ _ (by omega) (by omega)
    · rfl

theorem actsGo_next {l : List Int} {cell : Int} {k : Nat} {acc : List A} (hk : k < l.length) (ha : acc.length < 40) : k + 1 ≤ (actV l k cell).2 ∧ (actV l k cell).2 ≤ l.length ∧ actsGo l cell (l.length + 1 - k) k acc = actsGo l cell (l.length + 1 - (actV l k cell).2) (actV l k cell).2 (acc ++ [(actV l k cell).1]) := by
  have hk' : k + 1 ≤ (actV l k cell).2 ∧ (actV l k cell).2 ≤ l.length := by
    unfold actV
    have a1 := nextK_lt hk
    dsimp only
    split <;> dsimp only [windowK] <;> rw [a1]
    · exact ⟨Nat.le_trans (nextK_ge' _ _) (Nat.le_trans (nextK_ge' _ _) (Nat.le_trans (nextK_ge' _ _) (Nat.le_trans (nextK_ge' _ _) (Nat.le_trans (nextK_ge' _ _) (nextK_ge' _ _))))), nextK_le (nextK_le (nextK_le (nextK_le (nextK_le (nextK_le hk)))))⟩
    · exact ⟨Nat.le_trans (nextK_ge' _ _) (Nat.le_trans (nextK_ge' _ _) (Nat.le_trans (nextK_ge' _ _) (Nat.le_trans (nextK_ge' _ _) (nextK_ge' _ _)))), nextK_le (nextK_le (nextK_le (nextK_le (nextK_le hk))))⟩
  refine ⟨hk'.1, hk'.2, ?_⟩
  rw [show l.length + 1 - k = (l.length - k) + 1 by omega]
  conv => lhs; unfold actsGo
  rw [if_pos ⟨hk, ha⟩]
  exact actsGo_fuel l cell _ _ _ _ (by omega) (by omega)

theorem actsGo_stop {l : List Int} {cell : Int} {k : Nat} {acc : List A} (h : ¬ (k < l.length ∧ acc.length < 40)) (hk : k ≤ l.length) : actsGo l cell (l.length + 1 - k) k acc = acc := by
  rw [show l.length + 1 - k = (l.length - k) + 1 by omega]
  unfold actsGo
  rw [if_neg h]

theorem sat12 : ∀ vs H K, S12.cps vs H K → Sat Try.prog 12 vs H K := by
  intro vs H K h
  unfold S12 at h
  dsimp only at h
  split at h
  · rename_i l c
    obtain ⟨hl, hK⟩ := h
    refine Sat.matted 37 Act (Sat.settled [0] (fn_sat (N := N12 l c) hm tab4 Try.func12 (Eq.mp (nf12 l c _) ?_)))
    simp only [true_and, and_true, decide_eq_true_eq, decide_eq_false_iff_not, beq_iff_eq, beq_eq_false_iff_ne, ne_eq, List.length_singleton, Bool.and_eq_true, Bool.and_eq_false_imp, Int.ofNat_eq_natCast]
    refine ⟨⟨(0, []), ⟨rfl, rfl⟩, Nat.zero_le _, by simp, rfl⟩, ?_⟩
    rintro ⟨k, acts⟩ ⟨h1, h2, h3⟩
    dsimp only at *
    refine ⟨fun h => ?_, fun h => ?_⟩
    · have hk : k < l.length := by omega
      have ha : acts.length < 40 := by omega
      obtain ⟨n1, n2, n3⟩ := actsGo_next (cell := c) hk ha
      rw [n3] at h3
      have e4 : (4 : Int) - 1 + 1 = 4 := rfl
      rw [e4]
      refine ⟨by omega, by omega, hl, by omega, by omega, hl, fun hq => ⟨by omega, by omega, by omega, hl, hl, by omega, by omega, ?_⟩, fun hq => ⟨hl, by omega, by omega, ?_⟩⟩
      · have ea : actV l k c = ((nextV l k 8, 1 + nextV l (nextK l (nextK l k)) 4, windowV l (nextK l (nextK l (nextK l k))) c), windowK l (nextK l (nextK l (nextK l k)))) := by
          unfold actV; dsimp only; rw [if_pos hq]
        rw [ea] at n1 n2 h3
        exact ⟨(windowK l (nextK l (nextK l (nextK l k))), _), ⟨rfl, rfl⟩, ⟨n2, by simp; omega, h3⟩, by dsimp only at *; omega⟩
      · have ea : actV l k c = ((nextV l k 8, nextV l (nextK l k) 30, windowV l (nextK l (nextK l k)) c), windowK l (nextK l (nextK l k))) := by
          unfold actV; dsimp only; rw [if_neg hq]
        rw [ea] at n1 n2 h3
        exact ⟨(windowK l (nextK l (nextK l k)), _), ⟨rfl, rfl⟩, ⟨n2, by simp; omega, h3⟩, by dsimp only at *; omega⟩
    · rw [actsGo_stop (by omega) h1] at h3
      rw [← h3] at hK
      refine Eq.mp ?_ hK
      kernel_rfl
  · exact h.elim

theorem sat36 : ∀ vs H K, S36.cps vs H K → Sat Try.prog 36 vs H K := by
  intro vs H K h
  unfold S36 at h
  dsimp only at h
  split at h
  · obtain ⟨hl, hK⟩ := h
    exact fn_sat (N := {}) hm tab4 Try.func36 (Eq.mp (nf36a _ _ _ _) ⟨hl, hK, hK⟩)
  · obtain ⟨hl, hK⟩ := h
    exact fn_sat (N := {}) hm tab4 Try.func36 (Eq.mp (nf36b _ _ _ _ _) ⟨hl, hK⟩)
  · exact h.elim

theorem tab5 : TabOK Try.prog (look L5) := by
  unfold L5
  exact look_cons (look_cons tab4 sat36) sat12

theorem sat16 : ∀ vs H K, S16.cps vs H K → Sat Try.prog 16 vs H K := by
  intro vs H K h
  unfold S16 at h
  dsimp only at h
  split at h
  · rename_i e c cl ws
    obtain ⟨hl, hK⟩ := h
    refine Sat.settled [1] (fn_sat (N := {}) hm tab5 Try.func16 (Eq.mp (nf16 c cl e ws _) ?_))
    unfold closeG badE at hK
    refine ⟨fun q => ?_, fun q => ⟨hl, ?_⟩⟩
    · rw [q] at hK
      refine Eq.mp ?_ hK
      kernel_rfl
    · rw [q] at hK
      refine Eq.mp ?_ hK
      kernel_rfl
  · exact h.elim

theorem sat31 : ∀ vs H K, S31.cps vs H K → Sat Try.prog 31 vs H K := by
  intro vs H K h
  unfold S31 at h
  dsimp only at h
  split at h
  · obtain ⟨hl, hK⟩ := h
    exact fn_sat (N := {}) hm tab5 Try.func31 (Eq.mp (nf31 _ _ _ _ _) ⟨hl, hK⟩)
  · exact h.elim

theorem tab6 : TabOK Try.prog (look L6) := by
  unfold L6
  exact look_cons (look_cons tab5 sat31) sat16

end Go.Proofs.Ytkjonmlepanjhaa.AM
