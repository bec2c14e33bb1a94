/- The gate chapter: GateLists: the contract of the law. -/
import Derived.Test.YtkjonmlepanjhaaGateN7
import Derived.Test.YtkjonmlepanjhaaGatePa
import Derived.Test.YtkjonmlepanjhaaGateS
set_option linter.unusedVariables false
namespace Go.Proofs.Ytkjonmlepanjhaa.AM
open Go Go.Proofs.Ytkjonmlepanjhaa

/-- **GateLists**: whatever the numbers. -/
theorem lists_sat (c : Int) (l : List Int) (n v t : Int) (K : SV → List AObj → Prop) (hK : K (bv true) []) : Sat Try.prog 6 [iv c, fi l, iv n, iv v, iv t] [] K := by
  refine fn_sat (N := NX c l (runG (madeA l c) (G0 c)).2.2 (n % (runG (madeA l c) (G0 c)).2.2.length).toNat) hm tab9 Try.func6 (Eq.mp (nf6 c l n v t K) ?_)
  simp only [true_and, and_true]
  have hml := madeA_len l c
  have hs : GSim c (runG (madeA l c) (G0 c)) (runR (madeA l c) (G0 c)) := sim_run (madeA l c) (sim_nil c)
  have hkept := (kept_runG (madeA l c) (kept_nil c)).1
  have hkept : Kept (runG (madeA l c) (G0 c)) := hkept
  have hvalid : ∀ w ∈ (runG (madeA l c) (G0 c)).2.2, validW w = true ∧ w.1 = c := fun w hw => by
    refine ⟨?_, hs.cellg hw⟩
    rcases mem_runG _ _ _ hw with h | ⟨a, _, _, h⟩
    · cases h
    · exact h
  have hlen : (runG (madeA l c) (G0 c)).2.2.length ≤ 40 := by
    have := len_runG (madeA l c) (G0 c)
    simp only [G0, List.length_nil] at this ⊢; omega
  refine ⟨fun h => (by cases h), fun _ => ⟨fun _ => hK, fun hl => ?_⟩⟩
  have hl1 : l.length ≤ 150 := by simpa using hl
  refine ⟨(by unfold lenMax; omega), ⟨0, ⟨rfl, rfl, rfl, rfl, rfl⟩, Nat.zero_le _⟩, fun x hx => ⟨fun h => ?_, fun h => ?_⟩⟩
  · have hx' : x < (madeA l c).length := by simp only [decide_eq_true_eq] at h; omega
    rw [etaG _ (G0 c) (c := c) rfl, etaR _ (G0 c) (c := c) rfl, stepG hx', stepR hx']
    exact ⟨by omega, hx', lenG0 (by omega) _ (by simp [G0]), lenR0 (by omega) _ (by simp [G0]), x + 1, ⟨by rw [wr_eq (by omega) (by omega)]; rfl, rfl, rfl, rfl, rfl⟩, hx', by omega⟩
  · have hx' : x = (madeA l c).length := by simp only [decide_eq_false_iff_not] at h; omega
    have hll := lenG0 (n := (madeA l c).length) (l := madeA l c) (by omega) (G0 c) (by simp [G0])
    have hlr := lenR0 (n := (madeA l c).length) (l := madeA l c) (by omega) (G0 c) (by simp [G0])
    subst hx'
    rw [List.take_length] at hll hlr ⊢
    have hw := hs.wins
    generalize runG (madeA l c) (G0 c) = g at hs hll hkept hvalid hlen hw ⊢
    generalize runR (madeA l c) (G0 c) = r at hs hlr hw ⊢
    have hH : (hG c g.2.2 (n % (g.2.2.length : Int)).toNat g.2.2.length).2.2 = g.2.2 := by
      refine h_all hs.so hvalid fun hne => ?_
      have h1 := Int.emod_nonneg n (b := (g.2.2.length : Int)) (by omega)
      have h2 := Int.emod_lt_of_pos n (b := (g.2.2.length : Int)) (by omega)
      omega
    refine ⟨hll, ⟨0, ⟨rfl, rfl, rfl⟩, Nat.zero_le _⟩, fun k hk => ⟨fun h => ?_, fun h => ?_⟩⟩
    · have hk' : k < g.2.2.length := by simp only [decide_eq_true_eq] at h; omega
      have ho := hok hvalid (n % (g.2.2.length : Int)).toNat k hk
      have hn := hG_next c g.2.2 (n % (g.2.2.length : Int)).toNat k
      have hy := getD_mem Win.zero (Nat.mod_lt (k + (n % (g.2.2.length : Int)).toNat) (show 0 < g.2.2.length by omega))
      have hyl := Nat.mod_lt (k + (n % (g.2.2.length : Int)).toNat) (show 0 < g.2.2.length by omega)
      have hnext := hok hvalid (n % (g.2.2.length : Int)).toNat (k + 1) hk'
      have hst := hnext.st
      have hlen1 := hnext.len
      have hlen0 := ho.len
      have hs0 := ho.st
      rw [turn_idx (by omega) hk', Int.toNat_natCast]
      obtain ⟨hv, hc⟩ := hvalid _ hy
      have hep := (hkept _ hy).1
      generalize hyy : g.2.2.getD ((k + (n % (g.2.2.length : Int)).toNat) % g.2.2.length) Win.zero = y at hn hy hv hc hep ⊢
      have h0 : (hG c g.2.2 (n % (g.2.2.length : Int)).toNat k).2.1 = 0 := by rw [hs0]
      have gg : ∀ ws : List W, giveG (c, 0, ws) (y.1, y.2.1, y.2.2.1, y.2.2.2.1, y.2.2.2.2) = (0, (c, 0, insW ws y)) := fun ws => give_good hv hc
      have gg' : ∀ ws : List W, giveG (c, 0, ws) y = (0, (c, 0, insW ws y)) := fun ws => give_good hv hc
      have hn2 : hG c g.2.2 (n % (g.2.2.length : Int)).toNat (k + 1) = (c, 0, insW (insW (hG c g.2.2 (n % (g.2.2.length : Int)).toNat k).2.2 y) y) := by
        rw [hn, hs0, gg']
        dsimp only
        rw [gg']
      have hl1 := len_insW (hG c g.2.2 (n % (g.2.2.length : Int)).toNat k).2.2 y
      have b1 : decide (y.2.1 ≤ g.2.1) = false := decide_eq_false (Int.not_le.2 hep)
      have b2 : (y.1 != c) = false := by rw [hc]; exact bne_self_eq_false _
      simp only [h0, gg, b1, b2, sgnB]
      have hx1 : (hG c g.2.2 (n % (g.2.2.length : Int)).toNat k).2.2.length ≤ lenMax := by unfold lenMax; omega
      have hx2 : (insW (hG c g.2.2 (n % (g.2.2.length : Int)).toNat k).2.2 y).length ≤ lenMax := by unfold lenMax; omega
      refine ⟨by omega, by omega, by omega, ⟨by omega, by omega⟩, hyl, fun _ => ⟨hx1, fun _ => ⟨hx2, fun h => (by simp at h), fun _ => ⟨k + 1, ⟨by rw [wr_eq (by omega) (by omega)]; rfl, ?_, ?_⟩, hk', by omega⟩⟩, fun h => (by simp at h)⟩, fun h => (by simp at h)⟩
      · rw [hn2]
      · rw [hn2]
    · have hk' : k = g.2.2.length := by simp only [decide_eq_false_iff_not] at h; omega
      subst hk'
      rw [hH]
      have h1 : decide (g.2.2 = winsR r.2.1 r.2.2) = true := decide_eq_true hw.symm
      have hK' : K (SV.b (BV.bool true)) [] := hK
      simp [h1, sgnB, hll, hlr, hK']
      intro u hu u1 hu1
      rw [until_eq hu hu1]
      simpa using hK'
end Go.Proofs.Ytkjonmlepanjhaa.AM
