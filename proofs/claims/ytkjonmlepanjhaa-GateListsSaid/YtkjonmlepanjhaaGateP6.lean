/- The gate chapter: GateClosed and GateLess: the contracts of the laws. -/
import Derived.Test.YtkjonmlepanjhaaGateN6
import Derived.Test.YtkjonmlepanjhaaGateQ
set_option linter.unusedVariables false
namespace Go.Proofs.Ytkjonmlepanjhaa.AM
open Go Go.Proofs.Ytkjonmlepanjhaa

theorem sat20 : ∀ vs H K, S20.cps vs H K → Sat Try.prog 20 vs H K := by
  intro vs H K h
  unfold S20 at h
  dsimp only at h
  split at h
  · refine fn_sat (N := {}) hm tab1 Try.func20 ?_
    rw [← nf20]
    exact h
  · exact h.elim

theorem tab8 : TabOK Try.prog (look L8) := look_cons tab7 sat20

theorem lenG0 {l : List A} {n : Nat} (h : l.length ≤ 80) (g : G) (hg : g.2.2.length ≤ 80) : (runG (l.take n) g).2.2.length ≤ lenMax := by
  have h1 := len_runG (l.take n) g
  have h2 : (l.take n).length ≤ 80 := by rw [List.length_take]; omega
  unfold lenMax; omega
theorem lenR0 {l : List A} {n : Nat} (h : l.length ≤ 80) (g : G) (hg : g.2.2.length ≤ 80) : (runR (l.take n) g).2.2.length ≤ lenMax := by
  have h1 := len_runR (l.take n) g
  have h2 : (l.take n).length ≤ 80 := by rw [List.length_take]; omega
  unfold lenMax; omega
theorem etaG (m : List A) (g : G) {c : Int} (h : g.1 = c) : (c, (runG m g).2.1, (runG m g).2.2) = runG m g := Prod.ext (h.symm.trans (runG_fst m g).symm) rfl
theorem etaR (m : List A) (g : G) {c : Int} (h : g.1 = c) : (c, (runR m g).2.1, (runR m g).2.2) = runR m g := Prod.ext (h.symm.trans (runR_fst m g).symm) rfl

theorem closeG_good {g : G} {e : Int} (h1 : 1 ≤ e) (h2 : e ≤ 5) : closeG g e = (0, (g.1, max g.2.1 e, g.2.2.filter fun w => decide (w.2.1 > max g.2.1 e))) := by
  unfold closeG
  rw [if_neg]
  unfold badE
  simp; omega
theorem closeR_good {g : G} {e : Int} (h1 : 1 ≤ e) (h2 : e ≤ 5) : closeR g e = (0, (g.1, max g.2.1 e, g.2.2)) := by
  unfold closeR
  rw [if_neg]
  unfold badE
  simp; omega

theorem stepG {l : List A} {x : Nat} (h : x < l.length) (g : G) : (doG (runG (l.take x) g) ((l.getD x Act.zero).1, (l.getD x Act.zero).2.1, (l.getD x Act.zero).2.2.1, (l.getD x Act.zero).2.2.2.1, (l.getD x Act.zero).2.2.2.2.1, (l.getD x Act.zero).2.2.2.2.2.1, (l.getD x Act.zero).2.2.2.2.2.2)).2 = runG (l.take (x + 1)) g := (runG_next h g).symm
theorem stepR {l : List A} {x : Nat} (h : x < l.length) (g : G) : (doR (runR (l.take x) g) ((l.getD x Act.zero).1, (l.getD x Act.zero).2.1, (l.getD x Act.zero).2.2.1, (l.getD x Act.zero).2.2.2.1, (l.getD x Act.zero).2.2.2.2.1, (l.getD x Act.zero).2.2.2.2.2.1, (l.getD x Act.zero).2.2.2.2.2.2)).2 = runR (l.take (x + 1)) g := (runR_next h g).symm

/-- **GateClosed**: whatever the numbers and acts. -/
theorem closed_sat (c : Int) (l m : List Int) (e : Int) (raw : List A) (K : SV → List AObj → Prop) (hK : K (bv true) []) : Sat Try.prog 4 [iv c, fi l, fi m, iv e, .t (.one (.fsl 37 Act raw))] [] K := by
  refine fn_sat (N := NC c l m (1 + e % 5) raw) hm tab8 Try.func4 (Eq.mp (nf4 c l m e raw K) ?_)
  have he1 := Int.emod_nonneg e (b := 5) (by omega)
  have he2 := Int.emod_lt_of_pos e (b := 5) (by omega)
  have hw : wr ((1 : Int) + e % (5 : Int)) = 1 + e % 5 := wr_eq (by omega) (by omega)
  simp only [hw, true_and, and_true]
  generalize hE : (1 : Int) + e % 5 = E
  have hE1 : 1 ≤ E := by omega
  have hE2 : E ≤ 5 := by omega
  clear hw hE he1 he2
  have hml := madeA_len l c
  have hmm := madeA_len m c
  refine ⟨fun h => (by cases h), fun _ => ⟨fun _ => ⟨fun _ => hK, fun hl => ?_⟩, fun _ => ⟨fun _ => hK, fun hl => (by simp at hl)⟩⟩⟩
  simp only [Bool.or_eq_false_iff, Bool.not_eq_false', decide_eq_true_eq, decide_eq_false_iff_not] at hl
  obtain ⟨⟨hl1, hl2⟩, hl3⟩ := hl
  have hraw : raw.length ≤ 40 := by omega
  refine ⟨by omega, by omega, (by unfold lenMax; omega), ⟨0, ⟨rfl, rfl, rfl, rfl, rfl⟩, Nat.zero_le _⟩, fun x hx => ⟨fun h => ?_, fun h => ?_⟩⟩
  · have hx' : x < (madeA l c).length := by simp only [decide_eq_true_eq] at h; omega
    rw [etaG _ (G0 c) (c := c) rfl, etaR _ (G0 c) (c := c) rfl, stepG hx', stepR hx']
    exact ⟨by omega, hx', lenG0 (by omega) _ (by simp [G0]), lenR0 (by omega) _ (by simp [G0]), x + 1, ⟨by rw [wr_eq (by omega) (by omega)]; rfl, rfl, rfl, rfl, rfl⟩, hx', by omega⟩
  · have hx' : x = (madeA l c).length := by simp only [decide_eq_false_iff_not] at h; omega
    have hll := lenG0 (n := (madeA l c).length) (l := madeA l c) (by omega) (G0 c) (by simp [G0])
    have hlr := lenR0 (n := (madeA l c).length) (l := madeA l c) (by omega) (G0 c) (by simp [G0])
    subst hx'
    rw [List.take_length] at hll hlr ⊢
    rw [etaG _ (G0 c) (c := c) rfl, etaR _ (G0 c) (c := c) rfl]
    have zG := closeG_good (g := runG (madeA l c) (G0 c)) hE1 hE2
    have zR := closeR_good (g := runR (madeA l c) (G0 c)) hE1 hE2
    have zG1 : (closeG (runG (madeA l c) (G0 c)) E).1 = 0 := by rw [zG]
    have zR1 : (closeR (runR (madeA l c) (G0 c)) E).1 = 0 := by rw [zR]
    have cg1 : (cG c l E).1 = c := by unfold cG; rw [zG]; exact runG_fst _ _
    have cr1 : (cR c l E).1 = c := by unfold cR; rw [zR]; exact runR_fst _ _
    simp only [zG1, zR1]
    refine ⟨hll, fun _ => ⟨fun h => (by simp at h), fun _ => ?_⟩, fun h => (by simp [sgnB] at h)⟩
    have kG := kept_closeG (kept_runG (madeA l c) (kept_nil c)).1 E
    have kG1 : Kept (cG c l E) := kG.1
    have kE : E ≤ (cG c l E).2.1 := by unfold cG; rw [zG]; exact Int.le_max_right _ _
    have lG : (cG c l E).2.2.length ≤ 80 := by
      unfold cG; rw [zG]
      refine Nat.le_trans (List.length_filter_le _ _) ?_
      have := len_runG (madeA l c) (G0 c)
      simp only [G0, List.length_nil] at this ⊢; omega
    have lR : (cR c l E).2.2.length ≤ 80 := by
      unfold cR; rw [zR]
      have := len_runR (madeA l c) (G0 c)
      simp only [G0, List.length_nil] at this ⊢; omega
    have hL : (madeA m c ++ raw).length ≤ 80 := by rw [List.length_append]; omega
    refine ⟨(by unfold lenMax; omega), by omega, by omega, ⟨0, ⟨rfl, rfl, rfl, rfl, by unfold cR; rw [zR]; rfl⟩, Nat.zero_le _⟩, ?_⟩
    generalize cG c l E = g0 at cg1 kG1 kE lG ⊢
    generalize cR c l E = r0 at cr1 lR ⊢
    generalize madeA m c ++ raw = L at hL ⊢
    intro x hx
    refine ⟨fun h => ?_, fun _ => hK⟩
    have hx' : x < L.length := by simp only [decide_eq_true_eq] at h; omega
    rw [etaG _ g0 cg1, etaR _ r0 cr1, stepG hx', stepR hx']
    have kR := kept_runG (L.take (x + 1)) kG1
    have hlG := lenG0 (n := x + 1) hL g0 lG
    refine ⟨by omega, hx', lenG0 hL g0 lG, lenR0 hL r0 lR, fun h => ?_, fun _ => ⟨⟨0, rfl, Nat.zero_le _⟩, fun t ht => ⟨fun h => ?_, fun _ => ?_⟩⟩⟩
    · have := Int.le_trans kE kR.2
      simp only [decide_eq_true_eq] at h; omega
    · have ht' : t < 50 := by simp only [decide_eq_true_eq] at h; omega
      have ho := acc_open kR.1 ((t : Int).tmod 2) t
      have hge := Int.le_trans kE kR.2
      refine ⟨by omega, hlG, fun h => ?_, fun _ => ⟨t + 1, (by rw [wr_eq (by omega) (by omega)]; rfl), ht', by omega⟩⟩
      generalize accE (runG (L.take (x + 1)) g0).2.2 ((t : Int).tmod 2) t = q at h ho
      exfalso
      rcases ho with ho | ⟨ho1, ho2⟩
      · subst ho; simp at h
      · have e1 : decide (q > 0) = true := decide_eq_true ho2
        have e2 : decide (q ≤ E) = false := decide_eq_false (Int.not_le.2 (Int.lt_of_le_of_lt hge ho1))
        rw [e1, e2] at h; simp at h
    · exact ⟨x + 1, ⟨by rw [wr_eq (by omega) (by omega)]; rfl, rfl, rfl, rfl, rfl⟩, hx', by omega⟩
end Go.Proofs.Ytkjonmlepanjhaa.AM
