/- The queue chapter: giving a lease. -/
import Derived.Test.YthjogeodclpafaaQueueP4
set_option linter.unusedVariables false
set_option maxRecDepth 100000
namespace Go.Proofs.Ythjogeodclpafaa.AM
open Go Go.Proofs.Ythjogeodclpafaa

theorem posL_le (ls : List Le) (n : Int) : posL ls n ≤ ls.length := tw_le _ _

theorem give_sat (p : Int) (xs : List Tm) (ls : List Le) (l : Le) (K : SV → List AObj → Prop) (hl : ls.length ≤ lenMax) (hK : K (.tup []) [qC 1 3 p, tR xs, .dead, lR (giveQ ls l)]) : Sat Try.prog 51 [pv 0, lv l] [qC 1 2 p, tR xs, lR ls] K := by
  refine Sat.settled [2] (fn_sat (N := N51 ls l.1) hm tab6 Try.func51 (Eq.mp (nf51 p xs ls l _) ?_))
  have h1 := idxE_lt (fun w : Le => w.1 == l.1) ls
  have h1 : -1 ≤ leaseQ ls l.1 ∧ leaseQ ls l.1 < ls.length := h1
  have hp := posL_le ls l.1
  have hl' := hl
  unfold lenMax at hl'
  unfold giveQ at hK
  simp only [true_and, and_true, decide_eq_true_eq, decide_eq_false_iff_not, sgnB, Bool.and_eq_true, Bool.and_eq_false_imp]
  refine ⟨hl, fun h => ⟨⟨h, h1.2⟩, by omega, ?_⟩, fun h => ⟨⟨0, rfl, Nat.zero_le _⟩, fun x hx => ⟨fun q => by omega, fun q => (by show x < ls.length; omega), fun q => ?_, fun q => ⟨by omega, by omega, hl, ?_⟩⟩⟩⟩
  · rw [if_pos h] at hK
    refine Eq.mp ?_ hK
    kernel_rfl
  · have hlt : x < ls.length := by omega
    have := tw_succ (p := fun y : Le => decide (y.1 < l.1)) (Ty.zero Lease) ls x hx hlt (decide_eq_true q.2)
    exact ⟨x + 1, by rw [wr_eq (by omega) (by omega)]; rfl, this, by omega⟩
  · rw [if_neg h] at hK
    have hx2 : x = posL ls l.1 := tw_stop (p := fun y : Le => decide (y.1 < l.1)) (Ty.zero Lease) ls x hx fun hlt => decide_eq_false (q (by omega))
    rw [← hx2] at hK
    refine Eq.mp ?_ hK
    kernel_rfl

theorem sat51 : ∀ vs H K, S51.cps vs H K → Sat Try.prog 51 vs H K := by
  intro vs H K h
  unfold S51 at h
  dsimp only at h
  split at h
  · rename_i a b c d p xs ls
    exact give_sat p xs ls (a, b, c, d) K h.1 h.2
  · exact h.elim
theorem tab7 : TabOK Try.prog (look L7) := look_cons tab6 sat51
end Go.Proofs.Ythjogeodclpafaa.AM
