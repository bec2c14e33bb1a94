/- The gate chapter: a gate that is given the windows of another one, in plain Lean. -/
import Derived.Test.YtkjonmlepanjhaaGateF
import Derived.Test.YtkjonmlepanjhaaGateR
set_option linter.unusedVariables false
namespace Go.Proofs.Ytkjonmlepanjhaa.AM
open Go Go.Proofs.Ytkjonmlepanjhaa

theorem hG_next (c : Int) (xs : List W) (s k : Nat) : hG c xs s (k + 1) = (giveG (giveG (hG c xs s k) (xs.getD ((k + s) % xs.length) Win.zero)).2 (xs.getD ((k + s) % xs.length) Win.zero)).2 := by
  unfold hG
  rw [List.range_succ, List.map_append, List.foldl_append]; rfl

theorem give_good {c : Int} {ws : List W} {w : W} (hv : validW w = true) (hc : w.1 = c) : giveG (c, 0, ws) w = (0, (c, 0, insW ws w)) := by
  unfold giveG
  have h1 : ¬ validW w = false := by rw [hv]; simp
  have h2 : ¬ w.1 ≠ c := by simp [hc]
  have h3 : ¬ w.2.1 ≤ 0 := Int.not_le.2 (Int.lt_of_lt_of_le (by omega) (valid_ep hv))
  rw [if_neg h1, if_neg h2, if_neg h3]

/-- What the other gate is behind some windows. -/
structure HOk (c : Int) (xs : List W) (s k : Nat) : Prop where
  st : hG c xs s k = (c, 0, (hG c xs s k).2.2)
  so : Sorted (hG c xs s k).2.2
  len : (hG c xs s k).2.2.length ≤ k
  mem : ∀ w, w ∈ (hG c xs s k).2.2 ↔ ∃ j, j < k ∧ w = xs.getD ((j + s) % xs.length) Win.zero

theorem hok {c : Int} {xs : List W} (hx : ∀ w ∈ xs, validW w = true ∧ w.1 = c) (s : Nat) : ∀ k, k ≤ xs.length → HOk c xs s k
  | 0, _ => ⟨rfl, List.Pairwise.nil, Nat.le_refl _, fun w => ⟨(fun h => by cases h), fun ⟨j, h, _⟩ => by omega⟩⟩
  | k + 1, hk => by
    obtain ⟨st, so, len, mem⟩ := hok hx s k (by omega)
    have hy := getD_mem Win.zero (Nat.mod_lt (k + s) (show 0 < xs.length by omega))
    obtain ⟨hv, hc⟩ := hx _ hy
    have hm : ∀ x ∈ (hG c xs s k).2.2, x.1 = c := fun x h => by
      obtain ⟨j, hj, e⟩ := (mem x).1 h
      rw [e]; exact (hx _ (getD_mem Win.zero (Nat.mod_lt (j + s) (show 0 < xs.length by omega)))).2
    have hn := hG_next c xs s k
    rw [st] at hn
    generalize hyy : xs.getD ((k + s) % xs.length) Win.zero = y at hn hy hv hc
    rw [give_good hv hc] at hn
    dsimp only at hn
    rw [give_good hv hc] at hn
    dsimp only at hn
    have hm' : ∀ x ∈ (hG c xs s k).2.2, x.1 = y.1 := fun x h => (hm x h).trans hc.symm
    have hso := insW_sorted so hm'
    have hmem := insW_mem so hm'
    have hm2 : ∀ x ∈ insW (hG c xs s k).2.2 y, x.1 = y.1 := fun x h => ((hmem x).1 h).elim (hm' x) fun e => by rw [e]
    have htw : insW (insW (hG c xs s k).2.2 y) y = insW (hG c xs s k).2.2 y := by
      rw [insW_is y _ hso hm2, if_pos ((hmem y).2 (.inr rfl))]
    rw [htw] at hn
    have hl := len_insW (hG c xs s k).2.2 y
    refine ⟨by rw [hn], by rw [hn]; exact hso, by rw [hn]; dsimp only; omega, fun w => ?_⟩
    rw [hn]
    show w ∈ insW (hG c xs s k).2.2 y ↔ _
    rw [hmem, mem]
    constructor
    · rintro (⟨j, hj, e⟩ | e)
      · exact ⟨j, by omega, e⟩
      · exact ⟨k, by omega, e.trans hyy.symm⟩
    · rintro ⟨j, hj, e⟩
      rcases Nat.lt_or_ge j k with h | h
      · exact .inl ⟨j, h, e⟩
      · have : j = k := by omega
        subst this
        exact .inr (e.trans hyy)

/-- Behind all of them it has the same windows. -/
theorem h_all {c : Int} {xs : List W} (hs : Sorted xs) (hx : ∀ w ∈ xs, validW w = true ∧ w.1 = c) {s : Nat} (hsn : xs.length ≠ 0 → s < xs.length) : (hG c xs s xs.length).2.2 = xs := by
  obtain ⟨st, so, len, mem⟩ := hok hx s xs.length (Nat.le_refl _)
  refine sorted_eq _ _ so hs fun w => (mem w).trans ⟨?_, fun hw => ?_⟩
  · rintro ⟨j, hj, e⟩
    rw [e]; exact getD_mem Win.zero (Nat.mod_lt (j + s) (show 0 < xs.length by omega))
  · obtain ⟨i, hi⟩ := List.getElem?_of_mem hw
    have hlt : i < xs.length := (List.getElem?_eq_some_iff.1 hi).1
    have hs' := hsn (by omega)
    have hgd : xs.getD i Win.zero = w := by rw [List.getD_eq_getElem?_getD, hi]; rfl
    by_cases q : s ≤ i
    · refine ⟨i - s, by omega, ?_⟩
      rw [show i - s + s = i by omega, Nat.mod_eq_of_lt hlt, hgd]
    · refine ⟨i + xs.length - s, by omega, ?_⟩
      rw [show i + xs.length - s + s = i + xs.length by omega, Nat.add_mod_right, Nat.mod_eq_of_lt hlt, hgd]

theorem turn_idx {n : Int} {len k : Nat} (hl : len ≤ 80) (hk : k < len) : Int.tmod (wr ((k : Int) + n % (len : Int))) (len : Int) = (((k + (n % (len : Int)).toNat) % len : Nat) : Int) := by
  have h1 := Int.emod_nonneg n (b := (len : Int)) (by omega)
  have h2 := Int.emod_lt_of_pos n (b := (len : Int)) (by omega)
  generalize n % (len : Int) = m at h1 h2 ⊢
  obtain ⟨s, rfl⟩ := Int.eq_ofNat_of_zero_le h1
  rw [wr_eq (by omega) (by omega), Int.toNat_natCast, Int.ofNat_tmod, Int.natCast_add]
end Go.Proofs.Ytkjonmlepanjhaa.AM
