/- The gate chapter: what is accepted under which epoch, in plain Lean. -/
import Derived.Test.YtkjonmlepanjhaaGateP5
namespace Go.Proofs.Ytkjonmlepanjhaa.AM
open Go Go.Proofs.Ytkjonmlepanjhaa

/-- What a gate of the program keeps to. -/
def Kept (g : G) : Prop := ∀ w ∈ g.2.2, g.2.1 < w.2.1 ∧ (1 : Int) ≤ w.2.1

theorem valid_ep {w : W} (h : validW w = true) : (1 : Int) ≤ w.2.1 := by
  unfold validW at h
  simp only [Bool.and_eq_true, decide_eq_true_eq] at h
  exact h.1.1.1.1.1.1.1

theorem kept_closeG {g : G} (h : Kept g) (e : Int) : Kept (closeG g e).2 ∧ g.2.1 ≤ (closeG g e).2.2.1 := by
  unfold closeG
  split
  · exact ⟨h, Int.le_refl _⟩
  · refine ⟨fun w hw => ?_, Int.le_max_left _ _⟩
    have := List.mem_filter.1 hw
    exact ⟨by simpa using this.2, (h w this.1).2⟩

theorem kept_giveG {g : G} (h : Kept g) (w : W) : Kept (giveG g w).2 ∧ g.2.1 ≤ (giveG g w).2.2.1 := by
  have hm := @mem_giveG g w
  have hc : (giveG g w).2.2.1 = g.2.1 := by
    unfold giveG
    split
    · rfl
    · split
      · rfl
      · split <;> rfl
  by_cases q : (giveG g w).1 = 0
  · have hw : g.2.1 < w.2.1 := by
      unfold giveG at q
      split at q
      · cases q
      · split at q
        · cases q
        · split at q
          · cases q
          · rename_i hq; exact Int.not_le.1 hq
    refine ⟨fun x hx => ?_, by rw [hc]; exact Int.le_refl _⟩
    rw [hc]
    rcases hm hx with hx | ⟨rfl, hv⟩
    · exact h x hx
    · exact ⟨hw, valid_ep hv⟩
  · have hg : (giveG g w).2 = g := by
      unfold giveG at q ⊢
      split
      · rfl
      · split
        · rfl
        · split
          · rfl
          · simp_all
    rw [hg]; exact ⟨h, Int.le_refl _⟩

theorem kept_doG {g : G} (h : Kept g) (a : A) : Kept (doG g a).2 ∧ g.2.1 ≤ (doG g a).2.2.1 := by
  unfold doG
  split
  · exact kept_closeG h _
  · split
    · exact ⟨fun w hw => h w (List.mem_filter.1 hw).1, Int.le_refl _⟩
    · split
      · exact ⟨(fun w hw => by cases hw), Int.le_refl _⟩
      · split
        · exact ⟨h, Int.le_refl _⟩
        · exact kept_giveG h _

theorem kept_runG : ∀ (l : List A) {g : G}, Kept g → Kept (runG l g) ∧ g.2.1 ≤ (runG l g).2.1
  | [], _, h => ⟨h, Int.le_refl _⟩
  | a :: l, g, h => by
    have h1 := kept_doG h a
    have h2 := kept_runG l h1.1
    exact ⟨h2.1, Int.le_trans h1.2 h2.2⟩

theorem kept_nil (c : Int) : Kept (c, 0, []) := fun _ h => by cases h

/-! ### The epoch under which is accepted -/
theorem acc_fold (v t : Int) : ∀ (ws : List W) (e : Int),
    (ws.foldl (fun e w => if onW v t w then max e w.2.1 else e) e = e ∨ ∃ w ∈ ws, onW v t w = true ∧ ws.foldl (fun e w => if onW v t w then max e w.2.1 else e) e = w.2.1) ∧
      e ≤ ws.foldl (fun e w => if onW v t w then max e w.2.1 else e) e ∧ ∀ w ∈ ws, onW v t w = true → w.2.1 ≤ ws.foldl (fun e w => if onW v t w then max e w.2.1 else e) e
  | [], e => ⟨.inl rfl, Int.le_refl _, fun _ h => by cases h⟩
  | a :: ws, e => by
    simp only [List.foldl_cons]
    cases q : onW v t a with
    | true =>
      simp only [if_true]
      obtain ⟨h1, h2, h3⟩ := acc_fold v t ws (max e a.2.1)
      refine ⟨?_, Int.le_trans (Int.le_max_left _ _) h2, fun w hw on => ?_⟩
      · rcases h1 with h1 | ⟨w, hw, on, h1⟩
        · rcases Int.le_total e a.2.1 with hle | hle
          · exact .inr ⟨a, by simp, q, by rw [h1]; exact Int.max_eq_right hle⟩
          · exact .inl (by rw [h1]; exact Int.max_eq_left hle)
        · exact .inr ⟨w, by simp [hw], on, h1⟩
      · rcases List.mem_cons.1 hw with rfl | hw
        · exact Int.le_trans (Int.le_max_right _ _) h2
        · exact h3 w hw on
    | false =>
      simp only [Bool.false_eq_true, if_false]
      obtain ⟨h1, h2, h3⟩ := acc_fold v t ws e
      refine ⟨?_, h2, fun w hw on => ?_⟩
      · rcases h1 with h1 | ⟨w, hw, on, h1⟩
        · exact .inl h1
        · exact .inr ⟨w, by simp [hw], on, h1⟩
      · rcases List.mem_cons.1 hw with rfl | hw
        · rw [q] at on; cases on
        · exact h3 w hw on

theorem acc_is (ws : List W) (v t : Int) : accE ws v t = 0 ∨ ∃ w ∈ ws, onW v t w = true ∧ accE ws v t = w.2.1 := (acc_fold v t ws 0).1
theorem acc_ge (ws : List W) (v t : Int) : 0 ≤ accE ws v t := (acc_fold v t ws 0).2.1
theorem acc_on {ws : List W} {w : W} {v t : Int} (h : w ∈ ws) (on : onW v t w = true) : w.2.1 ≤ accE ws v t := (acc_fold v t ws 0).2.2 w h on

/-- Of fewer windows nothing greater is accepted. -/
theorem acc_less {xs ws : List W} (h : ∀ w ∈ xs, w ∈ ws) (v t : Int) : accE xs v t ≤ accE ws v t := by
  rcases acc_is xs v t with e | ⟨w, hw, on, e⟩
  · rw [e]; exact acc_ge ws v t
  · rw [e]; exact acc_on (h w hw) on

/-- What is accepted is accepted under an epoch that isn't closed. -/
theorem acc_open {g : G} (h : Kept g) (v t : Int) : accE g.2.2 v t = 0 ∨ g.2.1 < accE g.2.2 v t ∧ 0 < accE g.2.2 v t := by
  rcases acc_is g.2.2 v t with e | ⟨w, hw, on, e⟩
  · exact .inl e
  · obtain ⟨h1, h2⟩ := h w hw
    rw [e]; exact .inr ⟨h1, Int.lt_of_lt_of_le (by omega) h2⟩

/-- Closing, forgetting and crashing keep a part of the windows. -/
theorem less_doG (g : G) (a : A) : (∀ w ∈ (doG g (4 + a.1 % 3, a.2)).2.2.2, w ∈ g.2.2) ∧ g.2.1 ≤ (doG g (4 + a.1 % 3, a.2)).2.2.1 ∧ (doG g (4 + a.1 % 3, a.2)).2.2.2.length ≤ g.2.2.length := by
  have h1 := Int.emod_nonneg a.1 (b := 3) (by omega)
  have h2 := Int.emod_lt_of_pos a.1 (b := 3) (by omega)
  have h3 : a.1 % 3 = 0 ∨ a.1 % 3 = 1 ∨ a.1 % 3 = 2 := by
    generalize (show Int from a.1) % 3 = m at h1 h2
    show m = 0 ∨ m = 1 ∨ m = 2
    omega
  rcases h3 with h | h | h
  · rw [h]
    show (∀ w ∈ (closeG g a.2.1).2.2.2, w ∈ g.2.2) ∧ g.2.1 ≤ (closeG g a.2.1).2.2.1 ∧ (closeG g a.2.1).2.2.2.length ≤ g.2.2.length
    unfold closeG
    split
    · exact ⟨fun w hw => hw, Int.le_refl _, Nat.le_refl _⟩
    · exact ⟨fun w hw => (List.mem_filter.1 hw).1, Int.le_max_left _ _, List.length_filter_le _ _⟩
  · rw [h]
    exact ⟨fun w hw => (List.mem_filter.1 hw).1, Int.le_refl _, List.length_filter_le _ _⟩
  · rw [h]
    exact ⟨(fun w hw => by cases hw), Int.le_refl _, Nat.zero_le _⟩
end Go.Proofs.Ytkjonmlepanjhaa.AM
