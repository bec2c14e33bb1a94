/- The gate chapter: the program's gate and the reference's stand for the same windows, in plain Lean. -/
import Derived.Test.YtkjonmlepanjhaaGateQ
set_option linter.unusedVariables false
namespace Go.Proofs.Ytkjonmlepanjhaa.AM
open Go Go.Proofs.Ytkjonmlepanjhaa

theorem bef_iff (a1 a2 a3 a4 a5 b1 b2 b3 b4 b5 : Int) : beforeW (a1, a2, a3, a4, a5) (b1, b2, b3, b4, b5) = true ↔
    a4 < b4 ∨ (a4 = b4 ∧ (a2 < b2 ∨ (a2 = b2 ∧ (a5 < b5 ∨ (a5 = b5 ∧ a3 < b3))))) := by
  unfold beforeW
  dsimp only
  split
  · rename_i h
    have h : ¬ (a4 = b4) := h
    refine decide_eq_true_iff.trans ?_
    show a4 < b4 ↔ _
    omega
  · rename_i h
    have h : ¬ ¬ (a4 = b4) := h
    split
    · rename_i h2
      have h2 : ¬ (a2 = b2) := h2
      refine decide_eq_true_iff.trans ?_
      show a2 < b2 ↔ _
      omega
    · rename_i h2
      have h2 : ¬ ¬ (a2 = b2) := h2
      split
      · rename_i h3
        have h3 : ¬ (a5 = b5) := h3
        refine decide_eq_true_iff.trans ?_
        show a5 < b5 ↔ _
        omega
      · rename_i h3
        have h3 : ¬ ¬ (a5 = b5) := h3
        refine decide_eq_true_iff.trans ?_
        show a3 < b3 ↔ _
        omega

theorem lex_trans {x4 x2 x5 x3 y4 y2 y5 y3 z4 z2 z5 z3 : Int} (e1 : x4 < y4 ∨ (x4 = y4 ∧ (x2 < y2 ∨ (x2 = y2 ∧ (x5 < y5 ∨ (x5 = y5 ∧ x3 < y3)))))) (e2 : y4 < z4 ∨ (y4 = z4 ∧ (y2 < z2 ∨ (y2 = z2 ∧ (y5 < z5 ∨ (y5 = z5 ∧ y3 < z3)))))) :
    x4 < z4 ∨ (x4 = z4 ∧ (x2 < z2 ∨ (x2 = z2 ∧ (x5 < z5 ∨ (x5 = z5 ∧ x3 < z3))))) := by omega

theorem bef_trans {a b c : W} (h : beforeW a b = true) (h' : beforeW b c = true) : beforeW a c = true := by
  have e1 := (bef_iff a.1 a.2.1 a.2.2.1 a.2.2.2.1 a.2.2.2.2 b.1 b.2.1 b.2.2.1 b.2.2.2.1 b.2.2.2.2).1 h
  have e2 := (bef_iff b.1 b.2.1 b.2.2.1 b.2.2.2.1 b.2.2.2.2 c.1 c.2.1 c.2.2.1 c.2.2.2.1 c.2.2.2.2).1 h'
  exact (bef_iff a.1 a.2.1 a.2.2.1 a.2.2.2.1 a.2.2.2.2 c.1 c.2.1 c.2.2.1 c.2.2.2.1 c.2.2.2.2).2 (lex_trans e1 e2)

theorem bef_irr (a : W) : beforeW a a = false := by
  unfold beforeW
  rw [if_neg (fun h => h rfl), if_neg (fun h => h rfl), if_neg (fun h => h rfl)]
  exact decide_eq_false (Int.lt_irrefl _)

theorem bef_tri {a b : W} (hc : a.1 = b.1) (h : beforeW a b = false) (h' : beforeW b a = false) : a = b := by
  unfold beforeW at h h'
  split at h
  · rename_i q
    rw [if_pos (fun e => q e.symm)] at h'
    have e1 := of_decide_eq_false h
    have e2 := of_decide_eq_false h'
    exact absurd (Int.le_antisymm (Int.not_lt.1 e2) (Int.not_lt.1 e1)) q
  · rename_i q4
    have q4' := Decidable.not_not.1 q4
    rw [if_neg (fun e => e q4'.symm)] at h'
    split at h
    · rename_i q
      rw [if_pos (fun e => q e.symm)] at h'
      have e1 := of_decide_eq_false h
      have e2 := of_decide_eq_false h'
      exact absurd (Int.le_antisymm (Int.not_lt.1 e2) (Int.not_lt.1 e1)) q
    · rename_i q2
      have q2' := Decidable.not_not.1 q2
      rw [if_neg (fun e => e q2'.symm)] at h'
      split at h
      · rename_i q
        rw [if_pos (fun e => q e.symm)] at h'
        have e1 := of_decide_eq_false h
        have e2 := of_decide_eq_false h'
        exact absurd (Int.le_antisymm (Int.not_lt.1 e2) (Int.not_lt.1 e1)) q
      · rename_i q5
        have q5' := Decidable.not_not.1 q5
        rw [if_neg (fun e => e q5'.symm)] at h'
        have e1 := of_decide_eq_false h
        have e2 := of_decide_eq_false h'
        have q3' := Int.le_antisymm (Int.not_lt.1 e2) (Int.not_lt.1 e1)
        exact Prod.ext hc (Prod.ext q2' (Prod.ext q3' (Prod.ext q4' q5')))

def Sorted (ws : List W) : Prop := ws.Pairwise fun a b => beforeW a b = true

theorem winIns_lt {a w : W} {ws : List W} (h : beforeW a w = true) : winIns (a :: ws) w = a :: winIns ws w := by
  unfold winIns posW; simp [h]
theorem winIns_ge {a w : W} {ws : List W} (h : beforeW a w = false) : winIns (a :: ws) w = w :: a :: ws := by
  unfold winIns posW; simp [h]
theorem winIns_nil (w : W) : winIns [] w = [w] := rfl

theorem insW_eq (ws : List W) (w : W) : insW ws w = if ws[posW ws w]? = some w then ws else winIns ws w := rfl

theorem insW_lt {a w : W} {ws : List W} (h : beforeW a w = true) : insW (a :: ws) w = a :: insW ws w := by
  rw [insW_eq, insW_eq, winIns_lt h]
  have : posW (a :: ws) w = posW ws w + 1 := by unfold posW; simp [h]
  rw [this, List.getElem?_cons_succ]
  split <;> rfl
theorem insW_ge {a w : W} {ws : List W} (h : beforeW a w = false) : insW (a :: ws) w = if a = w then a :: ws else w :: a :: ws := by
  rw [insW_eq, winIns_ge h]
  have : posW (a :: ws) w = 0 := by unfold posW; simp [h]
  rw [this, List.getElem?_cons_zero]
  by_cases q : a = w
  · rw [if_pos (by rw [q]), if_pos q]
  · rw [if_neg (fun e => q (Option.some.inj e)), if_neg q]
theorem insW_nil (w : W) : insW [] w = [w] := rfl

theorem winIns_mem (w x : W) : ∀ ws : List W, x ∈ winIns ws w ↔ x ∈ ws ∨ x = w
  | [] => by rw [winIns_nil]; simp
  | a :: ws => by
    cases h : beforeW a w with
    | true => rw [winIns_lt h, List.mem_cons, winIns_mem w x ws, List.mem_cons, or_assoc]
    | false => rw [winIns_ge h, List.mem_cons, or_comm]

theorem winIns_sorted (w : W) : ∀ ws : List W, Sorted ws → (∀ x ∈ ws, x.1 = w.1) → w ∉ ws → Sorted (winIns ws w)
  | [], _, _, _ => by rw [winIns_nil]; exact List.pairwise_singleton _ _
  | a :: ws, hs, hc, hn => by
    obtain ⟨h1, h2⟩ := List.pairwise_cons.1 hs
    cases h : beforeW a w with
    | true =>
      rw [winIns_lt h]
      refine List.pairwise_cons.2 ⟨fun x hx => ?_, winIns_sorted w ws h2 (fun x hx => hc x (by simp [hx])) fun q => hn (by simp [q])⟩
      rcases (winIns_mem w x ws).1 hx with hx | rfl
      · exact h1 x hx
      · exact h
    | false =>
      rw [winIns_ge h]
      have hwa : beforeW w a = true := by
        cases q : beforeW w a with
        | true => rfl
        | false => exact absurd (bef_tri (hc a (by simp)) h q) (fun e => hn (by simp [e]))
      refine List.pairwise_cons.2 ⟨fun x hx => ?_, hs⟩
      rcases List.mem_cons.1 hx with rfl | hx
      · exact hwa
      · exact bef_trans hwa (h1 x hx)

theorem insW_is (w : W) : ∀ ws : List W, Sorted ws → (∀ x ∈ ws, x.1 = w.1) → insW ws w = if w ∈ ws then ws else winIns ws w
  | [], _, _ => by rw [insW_nil, if_neg (by simp)]; rfl
  | a :: ws, hs, hc => by
    obtain ⟨h1, h2⟩ := List.pairwise_cons.1 hs
    cases h : beforeW a w with
    | true =>
      have hne : w ≠ a := fun e => by rw [e, bef_irr] at h; cases h
      rw [insW_lt h, winIns_lt h, insW_is w ws h2 (fun x hx => hc x (by simp [hx]))]
      by_cases q : w ∈ ws
      · rw [if_pos q, if_pos (by simp [q])]
      · rw [if_neg q, if_neg (by simp [q, hne])]
    | false =>
      rw [insW_ge h, winIns_ge h]
      by_cases q : a = w
      · rw [if_pos q, if_pos (by simp [q])]
      · rw [if_neg q, if_neg fun hw => ?_]
        rcases List.mem_cons.1 hw with e | hw
        · exact q e.symm
        · have := h1 w hw
          rw [h] at this; cases this

theorem insW_mem {ws : List W} {w : W} (hs : Sorted ws) (hc : ∀ x ∈ ws, x.1 = w.1) (x : W) : x ∈ insW ws w ↔ x ∈ ws ∨ x = w := by
  rw [insW_is w ws hs hc]
  split
  · rename_i h
    exact ⟨.inl, fun q => q.elim id fun e => e ▸ h⟩
  · exact winIns_mem w x ws

theorem insW_sorted {ws : List W} {w : W} (hs : Sorted ws) (hc : ∀ x ∈ ws, x.1 = w.1) : Sorted (insW ws w) := by
  rw [insW_is w ws hs hc]
  split
  · exact hs
  · rename_i h; exact winIns_sorted w ws hs hc h

/-- Two sorted lists of the same windows are one list. -/
theorem sorted_eq : ∀ (xs ys : List W), Sorted xs → Sorted ys → (∀ w, w ∈ xs ↔ w ∈ ys) → xs = ys
  | [], [], _, _, _ => rfl
  | [], b :: ys, _, _, h => by have := (h b).2 (by simp); cases this
  | a :: xs, [], _, _, h => by have := (h a).1 (by simp); cases this
  | a :: xs, b :: ys, hx, hy, h => by
    obtain ⟨x1, x2⟩ := List.pairwise_cons.1 hx
    obtain ⟨y1, y2⟩ := List.pairwise_cons.1 hy
    have hab : a = b := by
      rcases List.mem_cons.1 ((h a).1 (by simp)) with e | ha
      · exact e
      · rcases List.mem_cons.1 ((h b).2 (by simp)) with e | hb
        · exact e.symm
        · have := bef_trans (x1 b hb) (y1 a ha)
          rw [bef_irr] at this; cases this
    subst hab
    rw [sorted_eq xs ys x2 y2 fun w => ?_]
    constructor
    · intro hw
      rcases List.mem_cons.1 ((h w).1 (by simp [hw])) with e | hw'
      · have := x1 w hw
        rw [e, bef_irr] at this; cases this
      · exact hw'
    · intro hw
      rcases List.mem_cons.1 ((h w).2 (by simp [hw])) with e | hw'
      · have := y1 w hw
        rw [e, bef_irr] at this; cases this
      · exact hw'

/-- The program's gate and the reference's, of one cell. -/
structure GSim (c : Int) (g r : G) : Prop where
  cg : g.1 = c
  cr : r.1 = c
  cl : g.2.1 = r.2.1
  so : Sorted g.2.2
  nd : r.2.2.Nodup
  cell : ∀ w ∈ r.2.2, w.1 = c
  mem : ∀ w, w ∈ g.2.2 ↔ w ∈ r.2.2 ∧ g.2.1 < w.2.1

theorem GSim.cellg {c : Int} {g r : G} (h : GSim c g r) {w : W} (hw : w ∈ g.2.2) : w.1 = c := h.cell w ((h.mem w).1 hw).1

theorem sim_nil (c : Int) : GSim c (c, 0, []) (c, 0, []) := ⟨rfl, rfl, rfl, List.Pairwise.nil, List.Pairwise.nil, (fun w h => by cases h), fun w => ⟨(fun h => by cases h), fun h => by cases h.1⟩⟩

theorem sim_give {c : Int} {g r : G} (h : GSim c g r) (w : W) : GSim c (giveG g w).2 (giveR r w).2 := by
  have hc := h.cg
  have hr := h.cr
  have hcl := h.cl
  unfold giveG giveR
  rw [hc, hr, ← hcl]
  split
  · exact h
  · split
    · exact h
    · rename_i hw
      have hw := Decidable.not_not.1 hw
      split
      · exact h
      · rename_i hep
        have hep : g.2.1 < w.2.1 := Int.not_le.1 hep
        have hcw : ∀ x ∈ g.2.2, x.1 = w.1 := fun x hx => (h.cellg hx).trans hw.symm
        have hm := insW_mem h.so hcw
        split
        · rename_i hin
          exact ⟨rfl, hr, hcl, insW_sorted h.so hcw, h.nd, h.cell, fun x => ⟨(fun q => ((hm x).1 q).elim (h.mem x).1 fun (e : x = w) => by rw [e]; exact ⟨hin, hep⟩), fun q => (hm x).2 (.inl ((h.mem x).2 q))⟩⟩
        · rename_i hin
          refine ⟨rfl, rfl, rfl, insW_sorted h.so hcw, ?_, fun x hx => ?_, fun x => ⟨fun q => ?_, fun q => ?_⟩⟩
          · refine List.nodup_append.2 ⟨h.nd, by simp, fun a ha b hb => ?_⟩
            rw [List.mem_singleton] at hb; subst hb
            exact fun e => hin (e ▸ ha)
          · rcases List.mem_append.1 hx with hx | hx
            · exact h.cell x hx
            · rw [List.mem_singleton] at hx; rw [hx]; exact hw
          · rcases (hm x).1 q with q | rfl
            · exact ⟨List.mem_append.2 (.inl ((h.mem x).1 q).1), ((h.mem x).1 q).2⟩
            · exact ⟨List.mem_append.2 (.inr (List.mem_singleton.2 rfl)), hep⟩
          · rcases List.mem_append.1 q.1 with q1 | q1
            · exact (hm x).2 (.inl ((h.mem x).2 ⟨q1, q.2⟩))
            · exact (hm x).2 (.inr (List.mem_singleton.1 q1))

theorem sim_close {c : Int} {g r : G} (h : GSim c g r) (e : Int) : GSim c (closeG g e).2 (closeR r e).2 := by
  unfold closeG closeR
  rw [← h.cl]
  split
  · exact h
  · refine ⟨h.cg, h.cr, rfl, List.Pairwise.sublist List.filter_sublist h.so, h.nd, h.cell, fun w => ?_⟩
    dsimp only
    rw [List.mem_filter, h.mem w, decide_eq_true_eq]
    exact ⟨fun q => ⟨q.1.1, q.2⟩, fun q => ⟨⟨q.1, Int.lt_of_le_of_lt (Int.le_max_left _ _) q.2⟩, q.2⟩⟩

theorem sim_forget {c : Int} {g r : G} (h : GSim c g r) (t : Int) : GSim c (forgetG g t) (forgetG r t) := by
  unfold forgetG
  refine ⟨h.cg, h.cr, h.cl, List.Pairwise.sublist List.filter_sublist h.so, List.Pairwise.sublist List.filter_sublist h.nd, (fun w hw => h.cell w (List.mem_filter.1 hw).1), fun w => ?_⟩
  dsimp only
  rw [List.mem_filter, List.mem_filter, h.mem w]
  exact ⟨fun q => ⟨⟨q.1.1, q.2⟩, q.1.2⟩, fun q => ⟨⟨q.1.1, q.2⟩, q.1.2⟩⟩

theorem sim_do {c : Int} {g r : G} (h : GSim c g r) (a : A) : GSim c (doG g a).2 (doR r a).2 := by
  unfold doG doR
  split
  · exact sim_close h _
  · split
    · exact sim_forget h _
    · split
      · exact ⟨h.cg, h.cr, h.cl, List.Pairwise.nil, List.Pairwise.nil, (fun w q => by cases q), fun w => ⟨(fun q => by cases q), fun q => by cases q.1⟩⟩
      · split
        · exact h
        · exact sim_give h _

theorem sim_run {c : Int} : ∀ (l : List A) {g r : G}, GSim c g r → GSim c (runG l g) (runR l r)
  | [], _, _, h => h
  | a :: l, g, r, h => sim_run l (sim_do h a)

theorem wins_go (c cl : Int) : ∀ (xs out : List W), Sorted out → (∀ x ∈ out, x.1 = c) → (∀ x ∈ xs, x.1 = c) → xs.Nodup → (∀ x ∈ xs, x ∉ out) →
    Sorted (xs.foldl (fun out w => if w.2.1 ≤ cl then out else winIns out w) out) ∧ ∀ w, w ∈ xs.foldl (fun out w => if w.2.1 ≤ cl then out else winIns out w) out ↔ w ∈ out ∨ (w ∈ xs ∧ cl < w.2.1)
  | [], out, hs, _, _, _, _ => ⟨hs, fun w => ⟨.inl, fun h => h.elim id fun q => by cases q.1⟩⟩
  | a :: xs, out, hs, hc, hx, hn, hd => by
    obtain ⟨n1, n2⟩ := List.nodup_cons.1 hn
    simp only [List.foldl_cons]
    by_cases q : a.2.1 ≤ cl
    · rw [if_pos q]
      obtain ⟨h1, h2⟩ := wins_go c cl xs out hs hc (fun x h => hx x (by simp [h])) n2 fun x h => hd x (by simp [h])
      refine ⟨h1, fun w => (h2 w).trans ⟨fun p => p.elim .inl fun p => .inr ⟨by simp [p.1], p.2⟩, fun p => p.elim .inl fun p => ?_⟩⟩
      rcases List.mem_cons.1 p.1 with e | p1
      · have := p.2
        rw [e] at this
        exact absurd q (Int.not_le.2 this)
      · exact .inr ⟨p1, p.2⟩
    · rw [if_neg q]
      have hca := hx a (by simp)
      obtain ⟨h1, h2⟩ := wins_go c cl xs (winIns out a) (winIns_sorted a out hs (fun x h => (hc x h).trans hca.symm) (hd a (by simp)))
        (fun x h => ((winIns_mem a x out).1 h).elim (hc x) fun e => e ▸ hca) (fun x h => hx x (by simp [h])) n2
        (fun x h h' => ((winIns_mem a x out).1 h').elim (hd x (by simp [h])) fun e => n1 (e ▸ h))
      refine ⟨h1, fun w => (h2 w).trans ⟨fun p => ?_, fun p => ?_⟩⟩
      · rcases p with p | p
        · rcases (winIns_mem a w out).1 p with p | e
          · exact .inl p
          · exact .inr ⟨by simp [e], by rw [e]; exact Int.not_le.1 q⟩
        · exact .inr ⟨by simp [p.1], p.2⟩
      · rcases p with p | p
        · exact .inl ((winIns_mem a w out).2 (.inl p))
        · rcases List.mem_cons.1 p.1 with e | p1
          · exact .inl ((winIns_mem a w out).2 (.inr e))
          · exact .inr ⟨p1, p.2⟩

/-- The reference lists the windows that the program keeps. -/
theorem GSim.wins {c : Int} {g r : G} (h : GSim c g r) : winsR r.2.1 r.2.2 = g.2.2 := by
  obtain ⟨h1, h2⟩ := wins_go c r.2.1 r.2.2 [] List.Pairwise.nil (fun x q => by cases q) h.cell h.nd (fun x _ q => by cases q)
  refine sorted_eq _ _ h1 h.so fun w => (h2 w).trans ?_
  rw [h.mem w, h.cl]
  exact ⟨fun p => p.elim (fun q => by cases q) id, .inr⟩

theorem accR_eq (cl : Int) (ws : List W) (v t : Int) : accR cl ws v t = accE (ws.filter fun w => decide (w.2.1 > cl)) v t := by
  unfold accR accE
  rw [List.foldl_filter]
  congr 1
  funext e w
  cases decide (w.2.1 > cl) <;> simp

/-- They accept the same. -/
theorem GSim.acc {c : Int} {g r : G} (h : GSim c g r) (v t : Int) : accR r.2.1 r.2.2 v t = accE g.2.2 v t := by
  rw [accR_eq]
  have hm : ∀ w, w ∈ (r.2.2.filter fun w => decide (w.2.1 > r.2.1)) ↔ w ∈ g.2.2 := fun w => by
    rw [List.mem_filter, h.mem w, h.cl, decide_eq_true_eq]
  exact Int.le_antisymm (acc_less (fun w q => (hm w).1 q) v t) (acc_less (fun w q => (hm w).2 q) v t)

/-- The end of what is accepted to without interruption is one. -/
theorem until_eq {ws : List W} {v t u u' : Int} (h : Until ws v t u) (h' : Until ws v t u') : u = u' := by
  obtain ⟨a1, _, a3, a4⟩ := h
  obtain ⟨b1, _, b3, b4⟩ := h'
  rcases Int.lt_trichotomy u u' with q | q | q
  · obtain ⟨w, hw, on⟩ := b3 u a1 q
    rw [a4 w hw] at on; cases on
  · exact q
  · obtain ⟨w, hw, on⟩ := a3 u' b1 q
    rw [b4 w hw] at on; cases on
end Go.Proofs.Ytkjonmlepanjhaa.AM
