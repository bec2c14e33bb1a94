/- The gate chapter: the reference's list of windows. -/
import Derived.Test.YtkjonmlepanjhaaGateN3
import Derived.Test.YtkjonmlepanjhaaGateP8
set_option linter.unusedVariables false
set_option maxHeartbeats 4000000
namespace Go.Proofs.Ytkjonmlepanjhaa.AM
open Go Go.Proofs.Ytkjonmlepanjhaa

theorem winsR_next {cl : Int} {ws : List W} {x : Nat} (h : x < ws.length) : winsR cl (ws.take (x + 1)) = if (gw ws x).2.1 ≤ cl then winsR cl (ws.take x) else winIns (winsR cl (ws.take x)) (gw ws x) := by
  unfold winsR; rw [take_next (Ty.zero Win) h, List.foldl_append]; rfl

theorem winIns_len (ws : List W) (w : W) : (winIns ws w).length = ws.length + 1 := by
  unfold winIns posW
  have : (ws.takeWhile fun x => beforeW x w).length ≤ ws.length := (List.takeWhile_sublist _).length_le
  simp; omega

theorem winsR_len (cl : Int) : ∀ (xs out : List W), (xs.foldl (fun out w => if w.2.1 ≤ cl then out else winIns out w) out).length ≤ out.length + xs.length
  | [], _ => Nat.le_refl _
  | a :: xs, out => by
    simp only [List.foldl_cons, List.length_cons]
    split
    · have := winsR_len cl xs out; omega
    · have := winsR_len cl xs (winIns out a)
      rw [winIns_len] at this; omega

theorem posW_le (ws : List W) (w : W) : posW ws w ≤ ws.length := (List.takeWhile_sublist _).length_le

theorem wx_len (cl : Int) (ws : List W) {x : Nat} (hx : x ≤ ws.length) : (wx cl ws x).length ≤ x := by
  have := winsR_len cl (ws.take x) []
  rw [List.length_take, List.length_nil] at this
  unfold wx winsR; omega

theorem fin23 {cl : Int} {ws : List W} {x : Nat} (hx : x < ws.length) (he : ¬ (gw ws x).2.1 ≤ cl) : [] ++ List.take (posW (wx cl ws x) (et (gw ws x))) (wx cl ws x) ++ [et (gw ws x)] ++ List.take (List.length (wx cl ws x) - posW (wx cl ws x) (et (gw ws x))) (List.drop (posW (wx cl ws x) (et (gw ws x))) (wx cl ws x)) = winsR cl (List.take (x + 1) ws) := by
  have hd : ∀ (o : List W) (k : Nat), List.take (List.length o - k) (List.drop k o) = List.drop k o := fun o k => List.take_of_length_le (by rw [List.length_drop]; exact Nat.le_refl _)
  rw [winsR_next hx, if_neg he, hd]
  rfl

theorem sat23 : ∀ vs H K, S23.cps vs H K → Sat Try.prog 23 vs H K := by
  intro vs H K h
  unfold S23 at h
  dsimp only at h
  split at h
  · rename_i c cl ws
    obtain ⟨h1, hK⟩ := h
    suffices main : ∀ ws : List W, ws.length ≤ lenMax → K (hv 2) [rC c cl 1, wR ws, wR (winsR cl ws)] → Sat Try.prog 23 [pv 0] [rC c cl 1, wR ws] K from main ws h1 hK
    clear h1 hK
    intro ws h1 hK
    unfold lenMax at h1
    refine fn_sat (N := N23b cl ws) hm tab1 Try.func23 (Eq.mp (nf23 c cl ws K) ?_)
    refine ⟨⟨0, ⟨rfl, rfl, rfl, rfl, rfl, rfl, trivial⟩, Nat.zero_le _⟩, fun x hx => ⟨fun q => ?_, fun q => ?_⟩⟩
    · have hx' : x < ws.length := by simp only [decide_eq_true_eq] at q; omega
      have hW := wx_len cl ws (Nat.le_of_lt hx')
      have hP := posW_le (wx cl ws x) (et (gw ws x))
      have e1 : wr ((x : Int) + 1) = ((x + 1 : Nat) : Int) := by rw [wr_eq (by omega) (by omega)]; rfl
      refine ⟨by omega, hx', fun he => ⟨x + 1, ⟨rfl, e1, rfl, rfl, rfl, ?_, trivial⟩, hx', by omega⟩, fun he => ⟨⟨⟨0, ⟨rfl, rfl, rfl, rfl, rfl, rfl, rfl, rfl, rfl, rfl, rfl, rfl, trivial⟩, Nat.zero_le _⟩, fun k hk => ?_⟩, ?_⟩⟩
      · rw [winsR_next hx', if_pos (of_decide_eq_true he)]; rfl
      · have hk2 : k ≤ (wx cl ws x).length := Nat.le_trans hk hP
        have e2 : k < (wx cl ws x).length → wr ((k : Int) + 1) = ((k + 1 : Nat) : Int) := fun _ => by rw [wr_eq (by omega) (by omega)]; rfl
        have hln : ln (wx cl ws x) = ((wx cl ws x).length : Int) := rfl
        have stop : (k < (wx cl ws x).length → beforeW ((wx cl ws x).getD k Win.zero) (et (gw ws x)) = false) → k = posW (wx cl ws x) (et (gw ws x)) := fun hb => tw_stop (p := fun y => beforeW y (et (gw ws x))) Win.zero _ k hk hb
        rw [hln]
        refine ⟨fun h => ?_, fun h => ?_, fun h => ⟨fun h2 => ?_, fun h2 => ?_⟩, fun h => ⟨fun h2 => ?_, fun h2 => ?_⟩⟩
        · have h : k < (wx cl ws x).length := by simp only [sgnB, decide_eq_true_eq] at h; omega
          omega
        · have h : k < (wx cl ws x).length := by simp only [sgnB, decide_eq_true_eq] at h; omega
          exact h
        · have h : k < (wx cl ws x).length := by simp only [sgnB, decide_eq_true_eq] at h; omega
          have h3 : beforeW ((wx cl ws x).getD k Win.zero) (et (gw ws x)) = true := by
            rw [Bool.and_eq_true] at h2; exact h2.2
          have := tw_succ (p := fun y => beforeW y (et (gw ws x))) Win.zero _ k hk h h3
          exact ⟨k + 1, ⟨e2 h, rfl, rfl, rfl, rfl, rfl, rfl, rfl, rfl, rfl, rfl, rfl, trivial⟩, this, by omega⟩
        · have h : k < (wx cl ws x).length := by simp only [sgnB, decide_eq_true_eq] at h; omega
          refine ⟨k, ⟨rfl, rfl, rfl, rfl, rfl, rfl, rfl, rfl, rfl, rfl, rfl, rfl, trivial⟩, stop fun _ => ?_⟩
          rw [decide_eq_true (by omega), Bool.true_and] at h2
          exact h2
        · rw [Bool.and_false] at h2; cases h2
        · have h : ¬ k < (wx cl ws x).length := by simp only [sgnB, decide_eq_false_iff_not] at h; omega
          exact ⟨k, ⟨rfl, rfl, rfl, rfl, rfl, rfl, rfl, rfl, rfl, rfl, rfl, rfl, trivial⟩, stop fun hlt => absurd hlt h⟩
      · rintro y rfl
        have hne : ¬ (gw ws x).2.1 ≤ cl := of_decide_eq_false he
        have fin := fin23 (cl := cl) hx' hne
        have last : ∃ (y_1 : Nat), ((List.length ws : Int) = (List.length ws : Int) ∧ wr ((↑x : Int) + (1 : Int)) = (↑y_1 : Int) ∧ c = c ∧ cl = cl ∧ ws = ws ∧ [] ++ List.take (posW (wx cl ws x) (et (gw ws x))) (wx cl ws x) ++ [et (gw ws x)] ++ List.take (List.length (wx cl ws x) - posW (wx cl ws x) (et (gw ws x))) (List.drop (posW (wx cl ws x) (et (gw ws x))) (wx cl ws x)) = winsR cl (List.take y_1 ws) ∧ True) ∧ y_1 ≤ List.length ws ∧ List.length ws - y_1 < List.length ws - x :=
          ⟨x + 1, ⟨rfl, e1, rfl, rfl, rfl, fin, trivial⟩, hx', by omega⟩
        generalize posW (wx cl ws x) (et (gw ws x)) = k at hP fin last ⊢
        unfold e5 ln
        simp only [true_and, and_true, List.length_append, List.length_take, List.length_drop, List.length_cons, List.length_nil, Int.natCast_nonneg, Int.le_refl] at last ⊢
        repeat' (first | exact last | apply And.intro | omega)
    · have hx' : x = ws.length := by simp only [decide_eq_false_iff_not] at q; omega
      subst hx'
      unfold wx
      rw [List.take_length]; exact hK
  · exact h.elim

theorem tab9 : TabOK Try.prog (look L9) := look_cons (look_cons (look_cons tab8 sat25) sat23) sat22
end Go.Proofs.Ytkjonmlepanjhaa.AM
