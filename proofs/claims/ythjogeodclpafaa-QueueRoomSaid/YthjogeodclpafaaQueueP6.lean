/- The queue chapter: taking an item. -/
import Derived.Test.YthjogeodclpafaaQueueN5
import Derived.Test.YthjogeodclpafaaQueueP5
set_option linter.unusedVariables false
set_option maxRecDepth 100000
namespace Go.Proofs.Ythjogeodclpafaa.AM
open Go Go.Proofs.Ythjogeodclpafaa

theorem find_at {α : Type} {p : α → Bool} (z : α) : ∀ (l : List α) (x : Nat), x ≤ l.findIdx p → x < l.length → p (l.getD x z) = true → l.find? p = some (l.getD x z)
  | [], x, _, h, _ => by simp at h
  | a :: l, 0, _, _, h => by
    have : p a = true := by simpa using h
    simp [this]
  | a :: l, x + 1, h0, h1, h2 => by
    rw [List.findIdx_cons] at h0
    cases q : p a with
    | true => rw [q] at h0; simp at h0
    | false =>
      rw [q] at h0
      have := find_at z l x (by simpa using h0) (by simpa using h1) (by simpa using h2)
      simp only [List.find?_cons, q]
      rw [this]; simp

theorem find_end {α : Type} {p : α → Bool} (l : List α) (h : l.length ≤ l.findIdx p) : l.find? p = none := by
  have := fi_end l h
  rw [List.any_eq_false] at this
  rw [List.find?_eq_none]; exact this

theorem take_sat (p c e t h : Int) (xs : List Tm) (ls : List Le) (K : SV → List AObj → Prop) (hl1 : xs.length ≤ lenMax) (hl2 : ls.length ≤ lenMax)
    (hK : K (tkV (takeQ (xs, ls, p) c e t h).1) [qC 1 3 p, tR xs, .dead, lR (takeQ (xs, ls, p) c e t h).2.2.1]) : Sat Try.prog 23 [pv 0, iv c, iv e, iv t, iv h] [qC 1 2 p, tR xs, lR ls] K := by
  refine Sat.settled [2] (fn_sat (N := N23 xs ls e t) hm tab7 Try.func23 (Eq.mp (nf23 p c e t h xs ls _) ?_))
  unfold takeQ at hK
  have hl1' := hl1
  have hl2' := hl2
  unfold lenMax at hl1' hl2'
  refine ⟨fun q => ?_, fun q => ?_⟩
  · rw [if_pos (show badT c e t h = true from q)] at hK
    refine Eq.mp ?_ hK
    kernel_rfl
  · have q' : badT c e t h = false := q
    rw [if_neg (by rw [q']; simp)] at hK
    have hw : wr (t + h) = t + h := by
      unfold badT at q'
      simp only [Bool.or_eq_false_iff, decide_eq_false_iff_not] at q'
      exact wr_eq (by omega) (by omega)
    simp only [true_and, and_true]
    refine ⟨⟨0, rfl, Nat.zero_le _⟩, fun x hx => ⟨fun q2 => ?_, fun q2 => ?_⟩⟩
    · have hx' : x < xs.length := by simp only [decide_eq_true_eq] at q2; omega
      have ex : wr ((x : Int) + 1) = ((x + 1 : Nat) : Int) := by rw [wr_eq (by omega) (by omega)]; rfl
      refine ⟨by omega, hx', ⟨0, rfl, Nat.zero_le _⟩, fun k hk => ⟨fun q3 => ?_, fun q3 => ?_⟩⟩
      · have hk' : k < ls.length := by simp only [decide_eq_true_eq] at q3; omega
        have ek : wr ((k : Int) + 1) = ((k + 1 : Nat) : Int) := by rw [wr_eq (by omega) (by omega)]; rfl
        refine ⟨by omega, hk', fun q4 => ⟨fun q5 => ?_, fun q5 => ?_⟩, fun q4 => ?_⟩
        · have hit : hitL e t (xs.getD x (Ty.zero Item)).1 (ls.getD k (Ty.zero Lease)) = true := by unfold hitL; rw [q4]; exact q5
          have hf : freeQ ls e t (xs.getD x (Ty.zero Item)) = false := by
            unfold freeQ
            rw [List.any_eq_true.2 ⟨_, getD_mem _ hk', hit⟩]; rfl
          exact ⟨x + 1, ex, fi_succ (Ty.zero Item) _ x hx hx' hf, by omega⟩
        · have hit : hitL e t (xs.getD x (Ty.zero Item)).1 (ls.getD k (Ty.zero Lease)) = false := by unfold hitL; rw [q4]; exact q5
          exact ⟨k + 1, ek, fi_succ (Ty.zero Lease) _ k hk hk' hit, by omega⟩
        · have q6 : ((ls.getD k (Ty.zero Lease)).1 == (xs.getD x (Ty.zero Item)).1) = false := q4
          have hit : hitL e t (xs.getD x (Ty.zero Item)).1 (ls.getD k (Ty.zero Lease)) = false := by unfold hitL; rw [q6]; rfl
          exact ⟨k + 1, ek, fi_succ (Ty.zero Lease) _ k hk hk' hit, by omega⟩
      · have hk' : ls.length ≤ k := by simp only [decide_eq_false_iff_not] at q3; omega
        have hf : freeQ ls e t (xs.getD x (Ty.zero Item)) = true := by
          unfold freeQ
          rw [fi_end ls (Nat.le_trans hk' hk)]; rfl
        have hfind := find_at (p := freeQ ls e t) (Ty.zero Item) xs x hx hx' hf
        dsimp only at hK
        rw [hfind] at hK
        refine ⟨hl2, ?_⟩
        rw [hw]
        refine Eq.mp ?_ hK
        kernel_rfl
    · have hx' : xs.length ≤ x := by simp only [decide_eq_false_iff_not] at q2; omega
      have hfind := find_end (p := freeQ ls e t) xs (Nat.le_trans hx' hx)
      dsimp only at hK
      rw [hfind] at hK
      refine Eq.mp ?_ hK
      kernel_rfl

theorem sat23 : ∀ vs H K, S23.cps vs H K → Sat Try.prog 23 vs H K := by
  intro vs H K h
  unfold S23 at h
  dsimp only at h
  split at h
  · exact take_sat _ _ _ _ _ _ _ K h.1 h.2.1 h.2.2
  · exact h.elim
theorem tab8 : TabOK Try.prog (look L8) := look_cons tab7 sat23
end Go.Proofs.Ythjogeodclpafaa.AM
