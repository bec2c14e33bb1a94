/- The gate chapter: comparing, the reference's accepting. -/
import Derived.Test.YtkjonmlepanjhaaGateF
import Derived.Test.YtkjonmlepanjhaaGateP6
import Derived.Test.YtkjonmlepanjhaaGateR
set_option linter.unusedVariables false
namespace Go.Proofs.Ytkjonmlepanjhaa.AM
open Go Go.Proofs.Ytkjonmlepanjhaa

theorem eqb_win (a b : W) : Ty.eqb Win a b = true ↔ a = b := by
  obtain ⟨a1, a2, a3, a4, a5⟩ := a
  obtain ⟨b1, b2, b3, b4, b5⟩ := b
  simp only [Ty.eqb, Bool.and_eq_true, beq_iff_eq]
  constructor
  · rintro ⟨h1, h2, h3, h4, h5⟩
    have h1 : a1 = b1 := h1
    have h2 : a2 = b2 := h2
    have h3 : a3 = b3 := h3
    have h4 : a4 = b4 := h4
    have h5 : a5 = b5 := h5
    rw [h1, h2, h3, h4, h5]
  · intro h
    have h : (a1, a2, a3, a4, a5) = (b1, b2, b3, b4, b5) := h
    injection h with h1 h
    injection h with h2 h
    injection h with h3 h
    injection h with h4 h5
    exact ⟨h1, h2, h3, h4, h5⟩

theorem sat22 : ∀ vs H K, S22.cps vs H K → Sat Try.prog 22 vs H K := by
  intro vs H K h
  unfold S22 at h
  dsimp only at h
  split at h
  · rename_i xs ys
    obtain ⟨hl, hK⟩ := h
    suffices main : ∀ xs ys : List W, xs.length ≤ lenMax → K (bv (decide (xs = ys))) [] → Sat Try.prog 22 [fs xs, fs ys] [] K from main xs ys hl hK
    clear hl hK
    intro xs ys hl hK
    unfold lenMax at hl
    refine fn_sat (N := N22 xs ys) hm tab1 Try.func22 (Eq.mp (nf22 xs ys K) ?_)
    simp only [true_and, and_true]
    refine ⟨fun h => ?_, fun h => ⟨⟨0, rfl, Nat.zero_le _, rfl⟩, fun x hx => ⟨fun q => ?_, fun q => ?_⟩⟩⟩
    · have : xs ≠ ys := fun e => by rw [e] at h; simp at h
      rw [decide_eq_false this] at hK; exact hK
    · have hlen : xs.length = ys.length := by simp at h; omega
      have hx' : x < xs.length := by simp only [decide_eq_true_eq] at q; omega
      refine ⟨by omega, by omega, fun q2 => ?_, fun q2 => ?_⟩
      · have hne : xs.getD x Win.zero ≠ ys.getD x Win.zero := fun e => by
          have : Ty.eqb Win (xs.getD x Win.zero) (ys.getD x Win.zero) = false := by simpa using q2
          rw [(eqb_win _ _).2 e] at this; cases this
        have : xs ≠ ys := fun e => hne (by rw [e])
        rw [decide_eq_false this] at hK; exact hK
      · have heq : xs.getD x Win.zero = ys.getD x Win.zero := (eqb_win _ _).1 (by simpa using q2)
        exact ⟨x + 1, (by rw [wr_eq (by omega) (by omega)]; rfl), ⟨hx', by rw [take_next Win.zero hx', take_next Win.zero (by omega), hx.2, heq]⟩, by omega⟩
    · have hlen : xs.length = ys.length := by simp at h; omega
      have hx' : x = xs.length := by simp only [decide_eq_false_iff_not] at q; omega
      have : xs = ys := by
        have := hx.2
        rw [hx', List.take_length, hlen, List.take_length] at this; exact this
      rw [decide_eq_true this] at hK; exact hK
  · exact h.elim

theorem accR_next {cl : Int} {ws : List W} {x : Nat} (v t : Int) (h : x < ws.length) : accR cl (ws.take (x + 1)) v t = if decide ((ws.getD x (Ty.zero Win)).2.1 > cl) && onW v t (ws.getD x (Ty.zero Win)) then max (accR cl (ws.take x) v t) (ws.getD x (Ty.zero Win)).2.1 else accR cl (ws.take x) v t := by
  unfold accR; rw [take_next (Ty.zero Win) h, List.foldl_append]; rfl

theorem sat25 : ∀ vs H K, S25.cps vs H K → Sat Try.prog 25 vs H K := by
  intro vs H K h
  unfold S25 at h
  dsimp only at h
  split at h
  · rename_i v t c cl ws
    obtain ⟨h1, hK⟩ := h
    unfold lenMax at h1
    refine fn_sat (N := N25 cl ws v t) hm tab1 Try.func25 (Eq.mp (nf25 c cl v t ws K) ?_)
    simp only [decide_eq_true_eq, decide_eq_false_iff_not, true_and, and_true]
    refine ⟨⟨0, by simp [accR], by omega⟩, fun x hx => ⟨fun q => ?_, fun q => ?_⟩⟩
    · have hx' : x < ws.length := by omega
      have e1 : wr ((x : Int) + 1) = ((x + 1 : Nat) : Int) := by rw [wr_eq (by omega) (by omega)]; rfl
      have hn := accR_next (cl := cl) v t hx'
      refine ⟨by omega, hx', fun q2 => ?_, fun q2 => ?_⟩
      · have q3 : (decide ((ws.getD x (Ty.zero Win)).2.1 > cl) && onW v t (ws.getD x (Ty.zero Win))) = true := by
          unfold onW; rw [← q2]; simp only [Bool.and_assoc]
        rw [if_pos q3] at hn
        exact ⟨x + 1, ⟨hn.symm, e1⟩, by omega, by omega⟩
      · have q3 : (decide ((ws.getD x (Ty.zero Win)).2.1 > cl) && onW v t (ws.getD x (Ty.zero Win))) = false := by
          unfold onW; rw [← q2]; simp only [Bool.and_assoc]
        rw [if_neg (by rw [q3]; simp)] at hn
        exact ⟨x + 1, ⟨hn.symm, e1⟩, by omega, by omega⟩
    · have hx' : x = ws.length := by omega
      subst hx'
      rw [List.take_length]; exact hK
  · exact h.elim
end Go.Proofs.Ytkjonmlepanjhaa.AM
