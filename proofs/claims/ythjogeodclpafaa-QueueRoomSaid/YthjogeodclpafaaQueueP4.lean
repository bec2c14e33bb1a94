/- The queue chapter: leases. -/
import Derived.Test.YthjogeodclpafaaQueueN4
import Derived.Test.YthjogeodclpafaaQueueP3
set_option linter.unusedVariables false
set_option maxRecDepth 100000
namespace Go.Proofs.Ythjogeodclpafaa.AM
open Go Go.Proofs.Ythjogeodclpafaa

theorem over76 : OverP Try.prog 76 := ⟨Try.f76, 47, 54, 4, by kernel_rfl, by kernel_rfl, by kernel_rfl, by kernel_rfl, by kernel_rfl, by kernel_rfl, by kernel_rfl⟩

theorem insert_vc (ws : List Lease.D) (v : Lease.D) (i : Nat) (K : SV → List AObj → Prop) (hi : i ≤ ws.length) (hl : ws.length ≤ 1099511627776)
    (hK : K (hv 2) [.dead, lR [v], lR (ws.take i ++ [v] ++ ws.drop i)]) :
    fnVC Try.prog (look []) {} Try.f65 [hv 0, iv i, hv 1] [lR ws, lR [v]] (fun r H => K r (killN [0] H)) := by
  rw [← nf65]
  have w1 : wr ((ws.length : Int) + 1) = ((ws.length + 1 : Nat) : Int) := by rw [wr_eq (by omega) (by omega)]; rfl
  have w2 : wr ((i : Int) + 1) = ((i + 1 : Nat) : Int) := by rw [wr_eq (by omega) (by omega)]; rfl
  have w3 : wr (((ws.length + 1 : Nat) : Int) - (i : Int)) = ((ws.length + 1 - i : Nat) : Int) := by rw [wr_eq (by omega) (by omega)]; omega
  simp only [List.length_singleton, Int.cast_ofNat_Int, w1, w2, w3, Int.toNat_natCast, List.length_append, List.length_replicate, killN, List.set, List.length_take, List.length_drop, len_spl, decide_eq_true_eq, decide_eq_false_iff_not, beq_iff_eq, beq_eq_false_iff_ne]
  repeat' (first | apply And.intro | intro _)
  all_goals try omega
  all_goals try (exfalso; omega)
  all_goals try exact trivial
  all_goals try exact over76
  all_goals refine Eq.mp (congrArg (fun l => K (hv 2) [.dead, lR [v], lR l]) ?_) hK
  · have : i = ws.length := by omega
    subst this; simp
  · exact (ins_new (zs := [v]) hi (by simp; omega) (by rw [List.take_append_of_le_length (by simp; omega), List.take_take, Nat.min_self, List.take_append_of_le_length hi]) (List.take_of_length_le (by simp; omega)) (tail_get (Nat.le_refl _) hi _ (by omega))).symm
  · rw [show ws.length + 1 - i = ws.length - i + 1 by omega, List.take_of_length_le (l := [v]) (by simp)]
    exact (ins_room (zs := [v]) hi (by simp; omega) (by simp) (tail_get (by omega) hi _ (by omega))).symm
  · rw [show ws.length + 1 - i = ws.length - i + 1 by omega, List.take_of_length_le (l := [v]) (by simp)]
    exact (ins_room (zs := [v]) hi (by simp; omega) (by simp) (tail_get (by omega) hi _ (by omega))).symm

theorem sat65 : ∀ vs H K, S65.cps vs H K → Sat Try.prog 65 vs H K := by
  intro vs H K h
  unfold S65 at h
  dsimp only at h
  split at h
  · rename_i i ws v
    obtain ⟨h0, hi, hl, hK⟩ := h
    obtain ⟨k, rfl⟩ := Int.eq_ofNat_of_zero_le h0
    exact Sat.killed [0] (fn_sat (N := {}) hm (look_nil _) Try.func65 (insert_vc ws v k K hi hl hK))
  · exact h.elim

theorem sat50 : ∀ vs H K, S50.cps vs H K → Sat Try.prog 50 vs H K := by
  intro vs H K h
  unfold S50 at h
  dsimp only at h
  split at h
  · exact fn_sat (N := {}) hm (look_nil _) Try.func50 (Eq.mp (nf50 (_, _, _, _) _ _ _) h)
  · exact h.elim
theorem tab6 : TabOK Try.prog (look L6) := look_cons (look_cons tab5 sat65) sat50
end Go.Proofs.Ythjogeodclpafaa.AM
