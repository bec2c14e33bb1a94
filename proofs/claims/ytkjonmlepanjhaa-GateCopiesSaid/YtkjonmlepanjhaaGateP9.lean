/- The gate chapter: GateCopies: the contract of the law. -/
import Derived.Test.YtkjonmlepanjhaaGateN8
import Derived.Test.YtkjonmlepanjhaaGatePa
set_option linter.unusedVariables false
namespace Go.Proofs.Ytkjonmlepanjhaa.AM
open Go Go.Proofs.Ytkjonmlepanjhaa

/-- **GateCopies**: whatever the numbers and the act. -/
theorem copies_sat (c : Int) (l : List Int) (a : A) (v t : Int) (K : SV → List AObj → Prop) (hK : K (bv true) []) : Sat Try.prog 7 [iv c, fi l, av a, iv v, iv t] [] K := by
  refine fn_sat (N := NY c l) hm tab9 Try.func7 (Eq.mp (nf7 c l a v t K) ?_)
  simp only [true_and, and_true]
  have hml := madeA_len l c
  refine ⟨fun h => (by cases h), fun _ => ⟨fun _ => hK, fun hl => ?_⟩⟩
  have hl1 : l.length ≤ 150 := by simpa using hl
  refine ⟨(by unfold lenMax; omega), ⟨0, ⟨rfl, rfl, rfl, rfl, rfl⟩, Nat.zero_le _⟩, fun x hx => ⟨fun h => ?_, fun h => ?_⟩⟩
  · have hx' : x < (madeA l c).length := by simp only [decide_eq_true_eq] at h; omega
    rw [etaG _ (G0 c) (c := c) rfl, etaR _ (G0 c) (c := c) rfl, stepG hx', stepR hx']
    exact ⟨by omega, hx', lenG0 (by omega) _ (by simp [G0]), lenR0 (by omega) _ (by simp [G0]), x + 1, ⟨by rw [wr_eq (by omega) (by omega)]; rfl, rfl, rfl, rfl, rfl⟩, hx', by omega⟩
  · have hx' : x = (madeA l c).length := by simp only [decide_eq_false_iff_not] at h; omega
    have hll := lenG0 (n := (madeA l c).length) (l := madeA l c) (by omega) (G0 c) (by simp [G0])
    have hlr := lenR0 (n := (madeA l c).length) (l := madeA l c) (by omega) (G0 c) (by simp [G0])
    subst hx'
    rw [List.take_length] at hll hlr ⊢
    rw [etaG _ (G0 c) (c := c) rfl, etaR _ (G0 c) (c := c) rfl]
    have hs := sim_run (madeA l c) (sim_nil c)
    have hs' := sim_do hs a
    have hdl : (doG (runG (madeA l c) (G0 c)) a).2.2.2.length ≤ lenMax := by
      have h1 := len_doG (runG (madeA l c) (G0 c)) a
      have h2 := len_runG (madeA l c) (G0 c)
      simp only [G0, List.length_nil] at h1 h2 ⊢
      unfold lenMax; omega
    have hdr : (doR (runR (madeA l c) (G0 c)) a).2.2.2.length ≤ lenMax := by
      have h1 := len_doR (runR (madeA l c) (G0 c)) a
      have h2 := len_runR (madeA l c) (G0 c)
      simp only [G0, List.length_nil] at h1 h2 ⊢
      unfold lenMax; omega
    generalize hd : doG (runG (madeA l c) (G0 c)) (a.1, a.2.1, a.2.2.1, a.2.2.2.1, a.2.2.2.2.1, a.2.2.2.2.2.1, a.2.2.2.2.2.2) = d
    generalize hd' : doR (runR (madeA l c) (G0 c)) (a.1, a.2.1, a.2.2.1, a.2.2.2.1, a.2.2.2.2.1, a.2.2.2.2.2.1, a.2.2.2.2.2.2) = d'
    have hs' : GSim c d.2 d'.2 := by rw [← hd, ← hd']; exact hs'
    have hdl : d.2.2.2.length ≤ lenMax := by rw [← hd]; exact hdl
    have hdr : d'.2.2.2.length ≤ lenMax := by rw [← hd']; exact hdr
    clear hd hd'
    have hs : GSim c (runG (madeA l c) (G0 c)) (runR (madeA l c) (G0 c)) := hs
    generalize runG (madeA l c) (G0 c) = g at hs hll ⊢
    generalize runR (madeA l c) (G0 c) = r at hs hlr ⊢
    have h1 : decide (g.2.2 = winsR r.2.1 r.2.2) = true := decide_eq_true hs.wins.symm
    have h2 : decide (d.2.2.2 = winsR d'.2.2.1 d'.2.2.2) = true := decide_eq_true hs'.wins.symm
    have h3 : accR r.2.1 r.2.2 v t = accE g.2.2 v t := hs.acc v t
    have h4 : (g.2.1 == r.2.1) = true := by rw [beq_iff_eq]; exact hs.cl
    have h5 : (d.2.2.1 == d'.2.2.1) = true := by rw [beq_iff_eq]; exact hs'.cl
    have hK' : K (SV.b (BV.bool true)) [] := hK
    simp [h1, h2, h3, h4, h5, sgnB, hll, hlr, hdl, hdr, hK']
end Go.Proofs.Ytkjonmlepanjhaa.AM
