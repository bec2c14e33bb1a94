/- The gate chapter: GateLess: the contract of the law. -/
import Derived.Test.YtkjonmlepanjhaaGateP6
set_option linter.unusedVariables false
namespace Go.Proofs.Ytkjonmlepanjhaa.AM
open Go Go.Proofs.Ytkjonmlepanjhaa

/-- **GateLess**: whatever the numbers and the act. -/
theorem less_sat (c : Int) (l : List Int) (a : A) (v t : Int) (K : SV → List AObj → Prop) (hK : K (bv true) []) : Sat Try.prog 5 [iv c, fi l, av a, iv v, iv t] [] K := by
  refine fn_sat (N := NL c l) hm tab8 Try.func5 (Eq.mp (nf5 c l a v t K) ?_)
  have he1 : 0 ≤ (show Int from a.1) % 3 := Int.emod_nonneg _ (by omega)
  have he2 : (show Int from a.1) % 3 < 3 := Int.emod_lt_of_pos _ (by omega)
  have hw : wr ((4 : Int) + a.1 % (3 : Int)) = 4 + a.1 % 3 := by
    refine wr_eq ?_ ?_
    · show (_ : Int) ≤ 4 + (show Int from a.1) % 3; omega
    · show 4 + (show Int from a.1) % 3 ≤ (_ : Int); omega
  simp only [hw, true_and, and_true]
  have hml := madeA_len l c
  refine ⟨fun h => (by cases h), fun _ => ⟨fun _ => hK, fun hl => ?_⟩⟩
  have hl1 : l.length ≤ 150 := by simpa using hl
  refine ⟨(by unfold lenMax; omega), ⟨0, ⟨rfl, rfl, rfl, rfl, rfl⟩, Nat.zero_le _⟩, fun x hx => ⟨fun h => ?_, fun h => ?_⟩⟩
  · have hx' : x < (madeA l c).length := by simp only [decide_eq_true_eq] at h; omega
    rw [etaG _ (G0 c) (c := c) rfl, etaR _ (G0 c) (c := c) rfl, stepG hx', stepR hx']
    exact ⟨by omega, hx', lenG0 (by omega) _ (by simp [G0]), lenR0 (by omega) _ (by simp [G0]), x + 1, ⟨by rw [wr_eq (by omega) (by omega)]; rfl, rfl, rfl, rfl, rfl⟩, hx', by omega⟩
  · have hx' : x = (madeA l c).length := by simp only [decide_eq_false_iff_not] at h; omega
    have hll := lenG0 (n := (madeA l c).length) (l := madeA l c) (by omega) (G0 c) (by simp [G0])
    have hlr := lenR0 (n := (madeA l c).length) (l := madeA l c) (by omega) (G0 c) (by simp [G0])
    subst hx'
    rw [List.take_length] at hll hlr ⊢
    rw [etaG _ (G0 c) (c := c) rfl]
    have hless := less_doG (runG (madeA l c) (G0 c)) a
    generalize hd : doG (runG (madeA l c) (G0 c)) (4 + a.1 % 3, a.2.1, a.2.2.1, a.2.2.2.1, a.2.2.2.2.1, a.2.2.2.2.2.1, a.2.2.2.2.2.2) = d
    have hD : (∀ w ∈ d.2.2.2, w ∈ (runG (madeA l c) (G0 c)).2.2) ∧ (runG (madeA l c) (G0 c)).2.1 ≤ d.2.2.1 ∧ d.2.2.2.length ≤ (runG (madeA l c) (G0 c)).2.2.length := by rw [← hd]; exact hless
    clear hless hd
    generalize runG (madeA l c) (G0 c) = g at hD hll ⊢
    generalize runR (madeA l c) (G0 c) = r at hlr ⊢
    obtain ⟨h1, h2, h3⟩ := hD
    have hdl : d.2.2.2.length ≤ lenMax := Nat.le_trans h3 hll
    have hacc : ∀ v t, accE d.2.2.2 v t ≤ accE g.2.2 v t := fun v t => acc_less h1 v t
    have hacc0 : ∀ v t, 0 ≤ accE d.2.2.2 v t := fun v t => acc_ge _ v t
    refine ⟨by omega, by omega, hll, hll, hlr, ⟨0, rfl, Nat.zero_le _⟩, fun k hk => ⟨fun h => ?_, fun h => ?_⟩⟩
    · have hk' : k < 50 := by simp only [decide_eq_true_eq] at h; omega
      have a1 := hacc v (k : Int)
      have a0 := hacc0 v (k : Int)
      refine ⟨hdl, hll, fun h => ?_, fun _ => ⟨k + 1, (by rw [wr_eq (by omega) (by omega)]; rfl), hk', by omega⟩⟩
      exfalso
      simp only [Bool.and_eq_true, Bool.or_eq_true, Bool.not_eq_true', decide_eq_true_eq, decide_eq_false_iff_not] at h
      omega
    · have a1 := hacc v t
      have a0 := hacc0 v t
      have hPQ : (decide (accE g.2.2 v t > 0) || !decide (accE d.2.2.2 v t > 0)) = true := by
        by_cases q : accE d.2.2.2 v t > 0
        · rw [decide_eq_true (show accE g.2.2 v t > 0 by omega)]; rfl
        · rw [decide_eq_false q]; simp
      have hB : decide (d.2.2.1 ≥ g.2.1) = true := decide_eq_true h2
      have hC : decide ((d.2.2.2.length : Int) ≤ (g.2.2.length : Int)) = true := decide_eq_true (by omega)
      simp only [hPQ, hB, hC, sgnB]
      have hK' : K (SV.b (BV.bool true)) [] := hK
      simp [hdl, hll, hK']
end Go.Proofs.Ytkjonmlepanjhaa.AM
