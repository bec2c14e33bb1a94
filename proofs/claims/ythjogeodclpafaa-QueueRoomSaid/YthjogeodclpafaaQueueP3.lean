/- The queue chapter: applying a change. -/
import Derived.Test.YthjogeodclpafaaQueueP2
set_option linter.unusedVariables false
set_option maxRecDepth 100000
namespace Go.Proofs.Ythjogeodclpafaa.AM
open Go Go.Proofs.Ythjogeodclpafaa

theorem idxE_lt {α : Type} (p : α → Bool) (ws : List α) : -1 ≤ idxE p ws ∧ idxE p ws < ws.length := by
  unfold idxE
  split
  · rename_i h
    obtain ⟨a, ha, hp⟩ := List.any_eq_true.1 h
    have := List.findIdx_lt_length_of_exists ⟨a, ha, hp⟩
    omega
  · omega

theorem apply_sat (p : Int) (xs : List Tm) (ls : List Le) (x : Ch) (K : SV → List AObj → Prop) (hl : xs.length ≤ lenMax) (hl2 : ls.length ≤ lenMax)
    (hK : K (iv (applyQ (xs, ls, p) x).1) [qC 3 4 (applyQ (xs, ls, p) x).2.2.2, .dead, .dead, tR (applyQ (xs, ls, p) x).2.1, lR (applyQ (xs, ls, p) x).2.2.1]) : Sat Try.prog 13 [pv 0, cv x] [qC 1 2 p, tR xs, lR ls] K := by
  refine Sat.settled [1, 2] (fn_sat (N := {}) hm tab4 Try.func13 (Eq.mp (nf13 p xs ls x _) ?_))
  have e : checkQ (xs, ls, p) (x.1, x.2.1, x.2.2.1, x.2.2.2.1, x.2.2.2.2.1, x.2.2.2.2.2.1, x.2.2.2.2.2.2.1, x.2.2.2.2.2.2.2) = checkQ (xs, ls, p) x := rfl
  rw [e]
  have h1 := idxE_lt (fun w : Tm => w.1 == x.2.2.2.2.2.1) xs
  have h2 := idxE_lt (fun w : Le => w.1 == x.2.2.2.2.2.1) ls
  have h1 : -1 ≤ atQ xs x.2.2.2.2.2.1 ∧ atQ xs x.2.2.2.2.2.1 < xs.length := h1
  have h2 : -1 ≤ leaseQ ls x.2.2.2.2.2.1 ∧ leaseQ ls x.2.2.2.2.2.1 < ls.length := h2
  have hc4 : checkQ (xs, ls, p) x = 0 → x.2.2.1 = 4 → ¬ atQ xs x.2.2.2.2.2.1 < 0 := by
    intro h h4 hlt
    unfold checkQ at h
    split at h
    · cases h
    · split at h
      · cases h
      · split at h
        · cases h
        · rw [if_pos ⟨h4, hlt⟩] at h; cases h
  unfold lenMax at hl hl2
  simp only [beq_iff_eq, bne_iff_ne, ne_eq, beq_eq_false_iff_ne, bne_eq_false_iff_eq, decide_eq_true_eq, decide_eq_false_iff_not, List.length_singleton]
  unfold applyQ at hK
  refine ⟨hl, fun h => ?_, fun h => ⟨fun h3 => ⟨by omega, by omega, ?_⟩, fun h3 => ⟨fun h4 => ⟨hl, ?_, ?_, h1.2, hl, hl2, fun h5 => ⟨?_, h5, h2.2, hl2, ?_⟩, fun h5 => ?_⟩, fun h4 => ?_⟩⟩⟩
  · rw [if_pos h] at hK
    refine Eq.mp ?_ hK
    kernel_rfl
  · rw [if_neg (fun q => q h), if_pos h3] at hK
    refine Eq.mp ?_ hK
    kernel_rfl
  · exact wr_eq (by omega) (by omega)
  · have := hc4 h h4; omega
  · exact wr_eq (by omega) (by omega)
  · rw [if_neg (fun q => q h), if_neg h3, if_pos h4] at hK
    have h6 := hc4 h h4
    unfold dropAt at hK
    dsimp only at hK
    rw [if_neg h6, if_neg (by omega)] at hK
    refine Eq.mp ?_ hK
    kernel_rfl
  · rw [if_neg (fun q => q h), if_neg h3, if_pos h4] at hK
    have h6 := hc4 h h4
    unfold dropAt at hK
    dsimp only at hK
    rw [if_neg h6, if_pos (by omega)] at hK
    refine Eq.mp ?_ hK
    kernel_rfl
  · rw [if_neg (fun q => q h), if_neg h3, if_neg h4] at hK
    refine Eq.mp ?_ hK
    kernel_rfl

theorem sat13 : ∀ vs H K, S13.cps vs H K → Sat Try.prog 13 vs H K := by
  intro vs H K h
  unfold S13 at h
  dsimp only at h
  split at h
  · rename_i a b c d e f g i p xs ls
    exact apply_sat p xs ls (a, b, c, d, e, f, g, i) K h.1 h.2.1 h.2.2
  · exact h.elim
theorem tab5 : TabOK Try.prog (look L5) := look_cons (look_cons (look_cons (look_cons (look_cons tab4 sat16) sat15) sat14) sat12) sat13
end Go.Proofs.Ythjogeodclpafaa.AM
