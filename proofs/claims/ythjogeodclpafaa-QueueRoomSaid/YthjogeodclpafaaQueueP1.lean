/- The queue chapter: what its small functions do. -/
import Derived.Test.YthjogeodclpafaaQueueN1
import Derived.Test.YthjogeodclpafaaQueueN2
set_option linter.unusedVariables false
set_option maxRecDepth 100000
namespace Go.Proofs.Ythjogeodclpafaa.AM
open Go Go.Proofs.Ythjogeodclpafaa

theorem hm : Try.prog.follows .mixedOrders = true := by kernel_rfl

theorem sat69 : ∀ vs H K, S69.cps vs H K → Sat Try.prog 69 vs H K := by
  intro vs H K h
  unfold S69 at h
  dsimp only at h
  split at h
  · exact fn_sat (N := {}) hm (look_nil _) Try.func69 (Eq.mp (nf69 _ _) h)
  · exact h.elim
theorem sat70 : ∀ vs H K, S70.cps vs H K → Sat Try.prog 70 vs H K := by
  intro vs H K h
  unfold S70 at h
  dsimp only at h
  split at h
  · exact fn_sat (N := {}) hm (look_nil _) Try.func70 (Eq.mp (nf70 _ _) h)
  · exact h.elim
theorem sat60 : ∀ vs H K, S60.cps vs H K → Sat Try.prog 60 vs H K := by
  intro vs H K h
  unfold S60 at h
  dsimp only at h
  split at h
  · exact fn_sat (N := {}) hm (look_nil _) Try.func60 (Eq.mp (nf60 (_, _) _ _) h)
  · exact h.elim
theorem sat62 : ∀ vs H K, S62.cps vs H K → Sat Try.prog 62 vs H K := by
  intro vs H K h
  unfold S62 at h
  dsimp only at h
  split at h
  · exact fn_sat (N := {}) hm (look_nil _) Try.func62 (Eq.mp (nf62 (_, _, _, _) _ _) h)
  · exact h.elim

theorem tab1 : TabOK Try.prog (look L1) := by
  unfold L1
  exact look_cons (look_cons (look_cons (look_cons (look_nil _) sat62) sat60) sat70) sat69

/-- Which changes are valid. -/
theorem valid_sat (x : Ch) (K : SV → List AObj → Prop) (hK : K (bv (validC x)) []) : Sat Try.prog 58 [cv x] [] K := by
  refine fn_sat (N := {}) hm tab1 Try.func58 (Eq.mp (nf58 x K) ?_)
  unfold validC at hK
  refine ⟨fun h => ?_, fun h => ?_⟩
  · rw [h] at hK; exact hK
  · rw [h, Bool.not_false, Bool.true_and] at hK
    refine ⟨fun h1 => ?_, fun h1 => ⟨fun h2 => ?_, fun h2 => ⟨fun h3 => ?_, fun h3 => ⟨fun h4 => ?_, fun h4 => ?_⟩⟩⟩⟩
    · rw [if_pos (eq_of_beq h1)] at hK
      refine ⟨fun q => ?_, fun q => ?_⟩
      · have q : keyB x.2.2.2.2.2.2.1 = true := q
        rw [q, Bool.true_and] at hK; exact hK
      · have q : keyB x.2.2.2.2.2.2.1 = false := q
        rw [q] at hK; exact hK
    · rw [if_neg (ne_of_beq_false h1), if_pos (eq_of_beq h2)] at hK
      exact hK
    · rw [if_neg (ne_of_beq_false h1), if_neg (ne_of_beq_false h2), if_pos (eq_of_beq h3)] at hK
      refine ⟨fun q => ?_, fun q => ?_⟩
      · have q : emptyB x.2.2.2.2.2.2.1 = true := q
        rw [q, Bool.true_and] at hK; exact hK
      · have q : emptyB x.2.2.2.2.2.2.1 = false := q
        rw [q] at hK; exact hK
    · rw [if_neg (ne_of_beq_false h1), if_neg (ne_of_beq_false h2), if_neg (ne_of_beq_false h3), if_pos (eq_of_beq h4)] at hK
      exact hK
    · rw [if_neg (ne_of_beq_false h1), if_neg (ne_of_beq_false h2), if_neg (ne_of_beq_false h3), if_neg (ne_of_beq_false h4)] at hK
      exact hK

theorem sat58 : ∀ vs H K, S58.cps vs H K → Sat Try.prog 58 vs H K := by
  intro vs H K h
  unfold S58 at h
  dsimp only at h
  split at h
  · rename_i a b c d e f g i
    exact valid_sat (a, b, c, d, e, f, g, i) K h
  · exact h.elim

theorem sat59 : ∀ vs H K, S59.cps vs H K → Sat Try.prog 59 vs H K := by
  intro vs H K h
  unfold S59 at h
  dsimp only at h
  split at h
  · rename_i xs n
    obtain ⟨hl, hK⟩ := h
    unfold lenMax at hl
    refine fn_sat (N := N59 _ _) hm tab1 Try.func59 (Eq.mp (nf59 _ _ _) ?_)
    simp only [true_and, and_true, decide_eq_true_eq, decide_eq_false_iff_not]
    refine ⟨⟨0, rfl, Nat.zero_le _⟩, fun x hx => ⟨fun h => ⟨by omega, by omega, fun h2 => ?_, fun h2 => ?_⟩, fun h => ?_⟩⟩
    · rw [idxE_hit (Ty.zero Item) hx (by omega) h2] at hK
      exact hK
    · exact ⟨x + 1, by rw [wr_eq (by omega) (by omega)]; rfl, fi_succ (Ty.zero Item) _ x hx (by omega) h2, by omega⟩
    · have h9 := Nat.le_trans (show xs.length ≤ x by omega) hx
      rw [idxE_none h9] at hK
      exact hK
  · exact h.elim

theorem sat61 : ∀ vs H K, S61.cps vs H K → Sat Try.prog 61 vs H K := by
  intro vs H K h
  unfold S61 at h
  dsimp only at h
  split at h
  · rename_i xs n
    obtain ⟨hl, hK⟩ := h
    unfold lenMax at hl
    refine fn_sat (N := N59 _ _) hm tab1 Try.func61 (Eq.mp (nf61 _ _ _) ?_)
    simp only [true_and, and_true, decide_eq_true_eq, decide_eq_false_iff_not]
    refine ⟨⟨0, rfl, Nat.zero_le _⟩, fun x hx => ⟨fun h => ⟨by omega, by omega, fun h2 => ?_, fun h2 => ?_⟩, fun h => ?_⟩⟩
    · rw [idxE_hit (Ty.zero Lease) hx (by omega) h2] at hK
      exact hK
    · exact ⟨x + 1, by rw [wr_eq (by omega) (by omega)]; rfl, fi_succ (Ty.zero Lease) _ x hx (by omega) h2, by omega⟩
    · have h9 := Nat.le_trans (show xs.length ≤ x by omega) hx
      rw [idxE_none h9] at hK
      exact hK
  · exact h.elim

theorem sat44 : ∀ vs H K, S44.cps vs H K → Sat Try.prog 44 vs H K := by
  intro vs H K h
  unfold S44 at h
  dsimp only at h
  split at h
  · rename_i i j xs
    obtain ⟨rfl, h0, hi, hl, hK⟩ := h
    suffices main : ∀ (xs : List Tm) (n : Nat), n < xs.length → xs.length ≤ 1099511627776 → K (hv 1) [.dead, tR (xs.take n ++ xs.drop (n + 1))] → Sat Try.prog 44 [hv 0, iv n, iv (n + 1)] [tR xs] K by
      obtain ⟨n, rfl⟩ := Int.eq_ofNat_of_zero_le h0
      exact main xs n (by omega) hl hK
    clear hK hl hi h0
    intro xs n hi hl hK
    refine fn_sat (N := {}) hm tab1 Try.func44 (Eq.mp (nf44 _ _ _) ?_)
    have hn : ((n : Int) + 1).toNat = n + 1 := by omega
    have hd : (List.take (xs.length - (n + 1)) (List.drop (n + 1) xs)).length = xs.length - (n + 1) := by rw [List.length_take, List.length_drop]; omega
    simp only [Int.toNat_natCast, hn, true_and, and_true]
    refine ⟨by omega, by omega, by omega, fun h => (by rw [beq_iff_eq] at h; omega), fun _ => ?_⟩
    have leaf : ∀ js R : List Tm, K (hv 1) [.dead, tR (List.take (n + (List.take (xs.length - (n + 1)) (List.drop (n + 1) xs)).length) (spl (spl (xs ++ js) n (List.take (xs.length - (n + 1)) (List.drop (n + 1) xs))) (n + (List.take (xs.length - (n + 1)) (List.drop (n + 1) xs)).length) R))] := fun js R => by
      rw [del_spl hi]; exact hK
    simp only [hd] at leaf ⊢
    refine ⟨⟨by omega, by omega, by omega, by omega, by omega, by omega, fun js hjs => ⟨by rw [List.length_append]; omega, fun hf => ⟨?_, by omega, ?_, leaf _ _⟩, fun hf => ?_⟩⟩, by omega, by omega, by omega, by omega, by omega, by omega, fun js hjs => ⟨by rw [List.length_append]; omega, fun hf => ⟨?_, by omega, ?_, leaf _ _⟩, fun hf => ?_⟩⟩
    all_goals try simp only [len_spl, List.length_append, List.length_replicate, hd] at *
    all_goals omega
  · exact h.elim

theorem sat46 : ∀ vs H K, S46.cps vs H K → Sat Try.prog 46 vs H K := by
  intro vs H K h
  unfold S46 at h
  dsimp only at h
  split at h
  · rename_i i j xs
    obtain ⟨rfl, h0, hi, hl, hK⟩ := h
    suffices main : ∀ (xs : List Le) (n : Nat), n < xs.length → xs.length ≤ 1099511627776 → K (hv 1) [.dead, lR (xs.take n ++ xs.drop (n + 1))] → Sat Try.prog 46 [hv 0, iv n, iv (n + 1)] [lR xs] K by
      obtain ⟨n, rfl⟩ := Int.eq_ofNat_of_zero_le h0
      exact main xs n (by omega) hl hK
    clear hK hl hi h0
    intro xs n hi hl hK
    refine fn_sat (N := {}) hm tab1 Try.func46 (Eq.mp (nf46 _ _ _) ?_)
    have hn : ((n : Int) + 1).toNat = n + 1 := by omega
    have hd : (List.take (xs.length - (n + 1)) (List.drop (n + 1) xs)).length = xs.length - (n + 1) := by rw [List.length_take, List.length_drop]; omega
    simp only [Int.toNat_natCast, hn, true_and, and_true]
    refine ⟨by omega, by omega, by omega, fun h => (by rw [beq_iff_eq] at h; omega), fun _ => ?_⟩
    have leaf : ∀ js R : List Le, K (hv 1) [.dead, lR (List.take (n + (List.take (xs.length - (n + 1)) (List.drop (n + 1) xs)).length) (spl (spl (xs ++ js) n (List.take (xs.length - (n + 1)) (List.drop (n + 1) xs))) (n + (List.take (xs.length - (n + 1)) (List.drop (n + 1) xs)).length) R))] := fun js R => by
      rw [del_spl hi]; exact hK
    simp only [hd] at leaf ⊢
    refine ⟨⟨by omega, by omega, by omega, by omega, by omega, by omega, fun js hjs => ⟨by rw [List.length_append]; omega, fun hf => ⟨?_, by omega, ?_, leaf _ _⟩, fun hf => ?_⟩⟩, by omega, by omega, by omega, by omega, by omega, by omega, fun js hjs => ⟨by rw [List.length_append]; omega, fun hf => ⟨?_, by omega, ?_, leaf _ _⟩, fun hf => ?_⟩⟩
    all_goals try simp only [len_spl, List.length_append, List.length_replicate, hd] at *
    all_goals omega
  · exact h.elim

theorem sat47 : ∀ vs H K, S47.cps vs H K → Sat Try.prog 47 vs H K := by
  intro vs H K h
  unfold S47 at h
  dsimp only at h
  split at h
  · rename_i xs
    obtain ⟨hl, hK⟩ := h
    suffices main : ∀ xs : List Tm, xs.length ≤ 1099511627776 → K (hv 0) [tR xs] → Sat Try.prog 47 [ft xs] [] K from main xs hl hK
    clear hl hK
    intro xs hl hK
    refine Sat.matted 52 Item (fn_sat (N := {}) hm (look_nil _) Try.func47 (Eq.mp (nf47 _ _) ⟨fun h => ?_, by omega, by omega, ?_⟩))
    · subst h
      refine Eq.mp ?_ hK
      kernel_rfl
    · refine Eq.mp ?_ hK
      kernel_rfl
  · exact h.elim

theorem sat55 : ∀ vs H K, S55.cps vs H K → Sat Try.prog 55 vs H K := by
  intro vs H K h
  unfold S55 at h
  dsimp only at h
  split at h
  · rename_i xs
    obtain ⟨hl, hK⟩ := h
    suffices main : ∀ xs : List Le, xs.length ≤ 1099511627776 → K (hv 0) [lR xs] → Sat Try.prog 55 [fl xs] [] K from main xs hl hK
    clear hl hK
    intro xs hl hK
    refine Sat.matted 54 Lease (fn_sat (N := {}) hm (look_nil _) Try.func55 (Eq.mp (nf55 _ _) ⟨fun h => ?_, by omega, by omega, ?_⟩))
    · subst h
      refine Eq.mp ?_ hK
      kernel_rfl
    · refine Eq.mp ?_ hK
      kernel_rfl
  · exact h.elim

theorem tab2 : TabOK Try.prog (look L2) := by
  unfold L2
  exact look_cons (look_cons (look_cons (look_cons (look_cons (look_cons (look_cons tab1 sat55) sat47) sat46) sat44) sat61) sat59) sat58
end Go.Proofs.Ythjogeodclpafaa.AM
