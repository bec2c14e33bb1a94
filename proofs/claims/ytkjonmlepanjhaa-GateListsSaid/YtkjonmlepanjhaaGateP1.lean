/- The gate chapter: the small functions do what is told of them. -/
import Derived.Test.YtkjonmlepanjhaaGateN1
set_option linter.unusedVariables false
set_option linter.unusedSimpArgs false
namespace Go.Proofs.Ytkjonmlepanjhaa.AM
open Go Go.Proofs.Ytkjonmlepanjhaa

theorem hm : Try.prog.follows .mixedOrders = true := by kernel_rfl

theorem over47 : OverP Try.prog 47 := ⟨Try.f47, 29, 35, 4, by kernel_rfl, by kernel_rfl, by kernel_rfl, by kernel_rfl, by kernel_rfl, by kernel_rfl, by kernel_rfl⟩

theorem sat39 : ∀ vs H K, S39.cps vs H K → Sat Try.prog 39 vs H K := by
  intro vs H K h
  unfold S39 at h
  dsimp only at h
  split at h
  · refine fn_sat (N := {}) hm (look_nil _) Try.func39 ?_
    exact Eq.mp (nf39 (_, _, _, _, _) K) (h)
  · exact h.elim

theorem sat44 : ∀ vs H K, S39.cps vs H K → Sat Try.prog 44 vs H K := by
  intro vs H K h
  unfold S39 at h
  dsimp only at h
  split at h
  · refine fn_sat (N := {}) hm (look_nil _) Try.func44 ?_
    exact Eq.mp (nf44 (_, _, _, _, _) K) (h)
  · exact h.elim

theorem before_cases {a b : W} {K : SV → List AObj → Prop} (h : K (bv (beforeW a b)) []) :
    ((a.2.2.2.1 != b.2.2.2.1) = true → K (bv (decide (a.2.2.2.1 < b.2.2.2.1))) []) ∧ ((a.2.2.2.1 != b.2.2.2.1) = false →
      ((a.2.1 != b.2.1) = true → K (bv (decide (a.2.1 < b.2.1))) []) ∧ ((a.2.1 != b.2.1) = false →
        ((a.2.2.2.2 != b.2.2.2.2) = true → K (bv (decide (a.2.2.2.2 < b.2.2.2.2))) []) ∧ ((a.2.2.2.2 != b.2.2.2.2) = false → K (bv (decide (a.2.2.1 < b.2.2.1))) []))) := by
  unfold beforeW at h
  refine ⟨fun h1 => ?_, fun h1 => ⟨fun h2 => ?_, fun h2 => ⟨fun h3 => ?_, fun h3 => ?_⟩⟩⟩ <;> simp_all

theorem sat40 : ∀ vs H K, S40.cps vs H K → Sat Try.prog 40 vs H K := by
  intro vs H K h
  unfold S40 at h
  dsimp only at h
  split at h
  · refine fn_sat (N := {}) hm (look_nil _) Try.func40 ?_
    exact Eq.mp (nf40 (_, _, _, _, _) (_, _, _, _, _) K) (before_cases h)
  · exact h.elim

theorem sat42 : ∀ vs H K, S40.cps vs H K → Sat Try.prog 42 vs H K := by
  intro vs H K h
  unfold S40 at h
  dsimp only at h
  split at h
  · refine fn_sat (N := {}) hm (look_nil _) Try.func42 ?_
    exact Eq.mp (nf42 (_, _, _, _, _) (_, _, _, _, _) K) (before_cases h)
  · exact h.elim

theorem sat38 : ∀ vs H K, S38.cps vs H K → Sat Try.prog 38 vs H K := by
  intro vs H K h
  unfold S38 at h
  dsimp only at h
  split at h
  · rename_i ws
    obtain ⟨hl, hK⟩ := h
    unfold lenMax at hl
    refine Sat.matted 35 Win (fn_sat (N := {}) hm (look_nil _) Try.func38 ?_)
    rw [← nf38]
    refine ⟨fun e => ?_, by omega, by omega, ?_⟩
    · subst e
      refine Eq.mp ?_ hK
      kernel_rfl
    · refine Eq.mp ?_ hK
      kernel_rfl
  · exact h.elim

theorem insert_vc (ws : List Win.D) (v : Win.D) (i : Nat) (K : SV → List AObj → Prop) (hi : i ≤ ws.length) (hl : ws.length ≤ 1099511627776)
    (hK : K (hv 2) [.dead, wR [v], wR (ws.take i ++ [v] ++ ws.drop i)]) :
    fnVC Try.prog (look []) {} Try.f41 [hv 0, iv i, hv 1] [wR ws, wR [v]] (fun r H => K r (killN [0] H)) := by
  rw [← nf41]
  have w1 : wr ((ws.length : Int) + 1) = ((ws.length + 1 : Nat) : Int) := by rw [wr_eq (by omega) (by omega)]; rfl
  have w2 : wr ((i : Int) + 1) = ((i + 1 : Nat) : Int) := by rw [wr_eq (by omega) (by omega)]; rfl
  have w3 : wr (((ws.length + 1 : Nat) : Int) - (i : Int)) = ((ws.length + 1 - i : Nat) : Int) := by rw [wr_eq (by omega) (by omega)]; omega
  simp only [List.length_singleton, Int.cast_ofNat_Int, w1, w2, w3, Int.toNat_natCast, List.length_append, List.length_replicate, killN, List.set, List.length_take, List.length_drop, len_spl, decide_eq_true_eq, decide_eq_false_iff_not, beq_iff_eq, beq_eq_false_iff_ne]
  repeat' (first | apply And.intro | intro _)
  all_goals try omega
  all_goals try (exfalso; omega)
  all_goals try exact trivial
  all_goals try exact over47
  all_goals refine Eq.mp (congrArg (fun l => K (hv 2) [.dead, wR [v], wR l]) ?_) hK
  · have : i = ws.length := by omega
    subst this; simp
  · exact (ins_new (zs := [v]) hi (by simp; omega) (by rw [List.take_append_of_le_length (by simp; omega), List.take_take, Nat.min_self, List.take_append_of_le_length hi]) (List.take_of_length_le (by simp; omega)) (tail_get (Nat.le_refl _) hi _ (by omega))).symm
  · rw [show ws.length + 1 - i = ws.length - i + 1 by omega, List.take_of_length_le (l := [v]) (by simp)]
    exact (ins_room (zs := [v]) hi (by simp; omega) (by simp) (tail_get (by omega) hi _ (by omega))).symm
  · rw [show ws.length + 1 - i = ws.length - i + 1 by omega, List.take_of_length_le (l := [v]) (by simp)]
    exact (ins_room (zs := [v]) hi (by simp; omega) (by simp) (tail_get (by omega) hi _ (by omega))).symm

theorem sat41 : ∀ vs H K, S41.cps vs H K → Sat Try.prog 41 vs H K := by
  intro vs H K h
  unfold S41 at h
  dsimp only at h
  split at h
  · rename_i i ws v
    obtain ⟨h0, hi, hl, hK⟩ := h
    obtain ⟨k, rfl⟩ := Int.eq_ofNat_of_zero_le h0
    exact Sat.killed [0] (fn_sat (N := {}) hm (look_nil _) Try.func41 (insert_vc ws v k K hi hl hK))
  · exact h.elim

theorem sat10 : ∀ vs H K, S10.cps vs H K → Sat Try.prog 10 vs H K := by
  intro vs H K h
  unfold S10 at h
  dsimp only at h
  split at h
  · rename_i a b
    obtain ⟨h1, h2, hK⟩ := h
    refine fn_sat (N := {}) hm (look_nil _) Try.func10 ?_
    rw [← nf10]
    have e1 := Int.tmod_add_mul_tdiv a b
    have hb : b ≠ 0 := by omega
    have key : a % b = if a.tmod b < 0 then a.tmod b + b else a.tmod b := by
      rw [Int.tmod_eq_emod]
      have h3 := Int.emod_nonneg a hb
      have h4 := Int.emod_lt_of_pos a h1
      split <;> split <;> omega
    refine ⟨hb, fun h3 => ?_, fun h3 => ?_⟩
    · simp only [decide_eq_true_eq] at h3
      rw [if_pos h3] at key
      have h4 := Int.emod_nonneg a hb
      have h5 := Int.emod_lt_of_pos a h1
      rw [show wr (Int.tmod a b + b) = a % b by rw [← key]; exact wr_eq (by omega) (by omega)]
      exact hK
    · simp only [decide_eq_false_iff_not] at h3
      rw [if_neg h3] at key
      rw [← key]; exact hK
  · exact h.elim

theorem sat9 : ∀ vs H K, S9.cps vs H K → Sat Try.prog 9 vs H K := by
  intro vs H K h
  unfold S9 at h
  dsimp only at h
  split at h
  · rename_i l
    refine fn_sat (N := {}) hm (look_nil _) Try.func9 ?_
    rw [← nf9]
    have : decide ((l.length : Int) ≤ 150) = decide (l.length ≤ 150) := by simp only [decide_eq_decide]; omega
    rw [this]; exact h
  · exact h.elim

theorem sat11 : ∀ vs H K, S11.cps vs H K → Sat Try.prog 11 vs H K := by
  intro vs H K h
  unfold S11 at h
  dsimp only at h
  split at h
  · refine fn_sat (N := {}) hm (look_nil _) Try.func11 ?_
    rw [← nf11]
    refine Eq.mp ?_ h
    kernel_rfl
  · exact h.elim
theorem sat26 : ∀ vs H K, S26.cps vs H K → Sat Try.prog 26 vs H K := by
  intro vs H K h
  unfold S26 at h
  dsimp only at h
  split at h
  · refine fn_sat (N := {}) hm (look_nil _) Try.func26 ?_
    rw [← nf26]
    refine Eq.mp ?_ h
    kernel_rfl
  · exact h.elim
theorem sat27 : ∀ vs H K, S27.cps vs H K → Sat Try.prog 27 vs H K := by
  intro vs H K h
  unfold S27 at h
  dsimp only at h
  split at h
  · refine fn_sat (N := {}) hm (look_nil _) Try.func27 ?_
    rw [← nf27]
    refine Eq.mp ?_ h
    kernel_rfl
  · exact h.elim
theorem sat18 : ∀ vs H K, S18.cps vs H K → Sat Try.prog 18 vs H K := by
  intro vs H K h
  unfold S18 at h
  dsimp only at h
  split at h
  · refine fn_sat (N := {}) hm (look_nil _) Try.func18 ?_
    rw [← nf18]
    refine Eq.mp ?_ h
    kernel_rfl
  · exact h.elim
theorem sat33 : ∀ vs H K, S33.cps vs H K → Sat Try.prog 33 vs H K := by
  intro vs H K h
  unfold S33 at h
  dsimp only at h
  split at h
  · refine Sat.settled [1] (fn_sat (N := {}) hm (look_nil _) Try.func33 ?_)
    rw [← nf33]
    refine Eq.mp ?_ h
    kernel_rfl
  · exact h.elim
theorem sat34 : ∀ vs H K, S34.cps vs H K → Sat Try.prog 34 vs H K := by
  intro vs H K h
  unfold S34 at h
  dsimp only at h
  split at h
  · refine Sat.settled [1] (fn_sat (N := {}) hm (look_nil _) Try.func34 ?_)
    rw [← nf34]
    refine Eq.mp ?_ h
    kernel_rfl
  · exact h.elim
theorem sat17 : ∀ vs H K, S17.cps vs H K → Sat Try.prog 17 vs H K := by
  intro vs H K h
  unfold S17 at h
  dsimp only at h
  split at h
  · rename_i e c cl ws
    refine Sat.settled [1] (fn_sat (N := {}) hm (look_nil _) Try.func17 ?_)
    rw [← nf17]
    unfold closeR badE at h
    refine ⟨fun q => ?_, fun q => ?_⟩
    · rw [q] at h
      refine Eq.mp ?_ h
      kernel_rfl
    · rw [q] at h
      refine Eq.mp ?_ h
      kernel_rfl
  · exact h.elim
theorem sat37 : ∀ vs H K, S37.cps vs H K → Sat Try.prog 37 vs H K := by
  intro vs H K h
  unfold S37 at h
  dsimp only at h
  split at h
  · refine fn_sat (N := {}) hm (look_nil _) Try.func37 ?_
    exact Eq.mp (nf37 _ _ (_, _, _, _, _) _ K) (h)
  · exact h.elim
theorem sat43 : ∀ vs H K, S43.cps vs H K → Sat Try.prog 43 vs H K := by
  intro vs H K h
  unfold S43 at h
  dsimp only at h
  split at h
  · refine fn_sat (N := {}) hm (look_nil _) Try.func43 ?_
    exact Eq.mp (nf43 _ (_, _, _, _, _) K) (h)
  · exact h.elim

theorem tab1 : TabOK Try.prog (look L1) := by
  unfold L1
  refine look_cons (look_cons (look_cons (look_cons (look_cons (look_cons (look_cons (look_cons (look_cons (look_cons (look_cons (look_cons (look_cons (look_cons (look_cons (look_cons (look_cons (look_nil _) sat41) sat42) sat40) sat44) sat39) sat38) sat43) sat37) sat17) sat34) sat33) sat18) sat27) sat26) sat11) sat10) sat9

end Go.Proofs.Ytkjonmlepanjhaa.AM
