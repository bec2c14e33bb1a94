/- The queue chapter: what a queue does. -/
import Derived.Test.YthjogeodclpafaaQueueN3
import Derived.Test.YthjogeodclpafaaQueueP1
set_option linter.unusedVariables false
set_option maxRecDepth 100000
namespace Go.Proofs.Ythjogeodclpafaa.AM
open Go Go.Proofs.Ythjogeodclpafaa

theorem sat43 : ∀ vs H K, S43.cps vs H K → Sat Try.prog 43 vs H K := by
  intro vs H K h
  unfold S43 at h
  dsimp only at h
  split at h
  · exact fn_sat (N := {}) hm tab2 Try.func43 (Eq.mp (nf43 _ _ _ _ _) h)
  · exact h.elim
theorem sat45 : ∀ vs H K, S45.cps vs H K → Sat Try.prog 45 vs H K := by
  intro vs H K h
  unfold S45 at h
  dsimp only at h
  split at h
  · exact fn_sat (N := {}) hm tab2 Try.func45 (Eq.mp (nf45 _ _ _ _ _) h)
  · exact h.elim
theorem tab3 : TabOK Try.prog (look L3) := look_cons (look_cons tab2 sat45) sat43

theorem sat12 : ∀ vs H K, S12.cps vs H K → Sat Try.prog 12 vs H K := by
  intro vs H K h
  unfold S12 at h
  dsimp only at h
  split at h
  · exact fn_sat (N := {}) hm (look_nil _) Try.func12 (Eq.mp (nf12 _) h)
  · exact h.elim
theorem sat14 : ∀ vs H K, S14.cps vs H K → Sat Try.prog 14 vs H K := by
  intro vs H K h
  unfold S14 at h
  dsimp only at h
  split at h
  · exact fn_sat (N := {}) hm (look_nil _) Try.func14 (Eq.mp (nf14 _ _ _) h)
  · exact h.elim
theorem sat15 : ∀ vs H K, S15.cps vs H K → Sat Try.prog 15 vs H K := by
  intro vs H K h
  unfold S15 at h
  dsimp only at h
  split at h
  · exact fn_sat (N := {}) hm (look_nil _) Try.func15 (Eq.mp (nf15 _ _ _) h)
  · exact h.elim
theorem sat16 : ∀ vs H K, S16.cps vs H K → Sat Try.prog 16 vs H K := by
  intro vs H K h
  unfold S16 at h
  dsimp only at h
  split at h
  · exact fn_sat (N := {}) hm tab2 Try.func16 (Eq.mp (nf16 _ _ _ _) h)
  · exact h.elim

theorem check_sat (p : Int) (xs : List Tm) (ls : List Le) (x : Ch) (K : SV → List AObj → Prop) (hl : xs.length ≤ lenMax) (hK : K (iv (checkQ (xs, ls, p) x)) [qC 1 2 p, tR xs, lR ls]) : Sat Try.prog 42 [pv 0, cv x] [qC 1 2 p, tR xs, lR ls] K := by
  refine fn_sat (N := {}) hm tab3 Try.func42 (Eq.mp (nf42 p xs ls x K) ?_)
  unfold checkQ at hK
  dsimp only at hK
  have e : validC (x.1, x.2.1, x.2.2.1, x.2.2.2.1, x.2.2.2.2.1, x.2.2.2.2.2.1, x.2.2.2.2.2.2.1, x.2.2.2.2.2.2.2) = validC x := rfl
  rw [e]
  simp only [Bool.not_eq_true', Bool.not_eq_false', Bool.and_eq_true, Bool.and_eq_false_imp, beq_iff_eq, beq_eq_false_iff_ne, decide_eq_true_eq, decide_eq_false_iff_not]
  refine ⟨fun h => ?_, fun h => ⟨fun h1 => ?_, fun h1 => ⟨fun h2 => ?_, fun h2 => ⟨fun h4 => ⟨hl, fun h3 => ?_, fun h3 => ?_⟩, fun h4 => ?_⟩⟩⟩⟩
  · rw [if_pos h] at hK; exact hK
  · rw [if_neg (by rw [h]; simp), if_pos h1] at hK; exact hK
  · rw [if_neg (by rw [h]; simp), if_neg (fun q => h1 q.1 q.2), if_pos ⟨h2.1, by omega⟩] at hK; exact hK
  · rw [if_neg (by rw [h]; simp), if_neg (fun q => h1 q.1 q.2), if_neg (fun q => h2 q.1 (by omega)), if_pos ⟨h4, h3⟩] at hK; exact hK
  · rw [if_neg (by rw [h]; simp), if_neg (fun q => h1 q.1 q.2), if_neg (fun q => h2 q.1 (by omega)), if_neg (fun q => h3 q.2)] at hK; exact hK
  · rw [if_neg (by rw [h]; simp), if_neg (fun q => h1 q.1 q.2), if_neg (fun q => h2 q.1 (by omega)), if_neg (fun q => h4 q.1)] at hK; exact hK

theorem sat42 : ∀ vs H K, S42.cps vs H K → Sat Try.prog 42 vs H K := by
  intro vs H K h
  unfold S42 at h
  dsimp only at h
  split at h
  · rename_i a b c d e f g i p xs ls
    exact check_sat p xs ls (a, b, c, d, e, f, g, i) K h.1 h.2
  · exact h.elim
theorem tab4 : TabOK Try.prog (look L4) := look_cons tab3 sat42
end Go.Proofs.Ythjogeodclpafaa.AM
