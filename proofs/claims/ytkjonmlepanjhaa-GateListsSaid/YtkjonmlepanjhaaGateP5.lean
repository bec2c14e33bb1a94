/- The gate chapter: one call of both gates; the examples of the chapter; the law GateScans. -/
import Derived.Test.YtkjonmlepanjhaaGateN5
import Derived.Test.YtkjonmlepanjhaaGateP4
set_option linter.unusedVariables false
set_option linter.unusedSimpArgs false
namespace Go.Proofs.Ytkjonmlepanjhaa.AM
open Go Go.Proofs.Ytkjonmlepanjhaa

theorem eqmp {p q : Prop} (h : p) (e : p = q) : q := Eq.mp e h

theorem doG_4 {g : G} {a : A} (h : a.1 % 8 = 4) : doG g a = closeG g a.2.1 := if_pos h
theorem doG_5 {g : G} {a : A} (h : a.1 % 8 = 5) : doG g a = (0, forgetG g a.2.1) := (if_neg (fun e => by rw [e] at h; cases h)).trans (if_pos h)
theorem doG_6 {g : G} {a : A} (h : a.1 % 8 = 6) : doG g a = (0, (g.1, g.2.1, [])) := (if_neg (fun e => by rw [e] at h; cases h)).trans ((if_neg (fun e => by rw [e] at h; cases h)).trans (if_pos h))
theorem doG_7 {g : G} {a : A} (h : a.1 % 8 = 7) : doG g a = (0, g) := (if_neg (fun e => by rw [e] at h; cases h)).trans ((if_neg (fun e => by rw [e] at h; cases h)).trans ((if_neg (fun e => by rw [e] at h; cases h)).trans (if_pos h)))
theorem doG_0 {g : G} {a : A} (h4 : ¬ a.1 % 8 = 4) (h5 : ¬ a.1 % 8 = 5) (h6 : ¬ a.1 % 8 = 6) (h7 : ¬ a.1 % 8 = 7) : doG g a = giveG g a.2.2 := (if_neg h4).trans ((if_neg h5).trans ((if_neg h6).trans (if_neg h7)))
theorem doR_4 {g : G} {a : A} (h : a.1 % 8 = 4) : doR g a = closeR g a.2.1 := if_pos h
theorem doR_5 {g : G} {a : A} (h : a.1 % 8 = 5) : doR g a = (0, forgetG g a.2.1) := (if_neg (fun e => by rw [e] at h; cases h)).trans (if_pos h)
theorem doR_6 {g : G} {a : A} (h : a.1 % 8 = 6) : doR g a = (0, (g.1, g.2.1, [])) := (if_neg (fun e => by rw [e] at h; cases h)).trans ((if_neg (fun e => by rw [e] at h; cases h)).trans (if_pos h))
theorem doR_7 {g : G} {a : A} (h : a.1 % 8 = 7) : doR g a = (0, g) := (if_neg (fun e => by rw [e] at h; cases h)).trans ((if_neg (fun e => by rw [e] at h; cases h)).trans ((if_neg (fun e => by rw [e] at h; cases h)).trans (if_pos h)))
theorem doR_0 {g : G} {a : A} (h4 : ¬ a.1 % 8 = 4) (h5 : ¬ a.1 % 8 = 5) (h6 : ¬ a.1 % 8 = 6) (h7 : ¬ a.1 % 8 = 7) : doR g a = giveR g a.2.2 := (if_neg h4).trans ((if_neg h5).trans ((if_neg h6).trans (if_neg h7)))

theorem closeR_list (g : G) (e : Int) : (closeR g e).2.2.2 = g.2.2 := by unfold closeR; split <;> rfl

theorem core13 (c cl c2 cl2 : Int) (a : A) (ws xs : List W) (K : SV → List AObj → Prop) (hl : ws.length ≤ lenMax) (hl2 : xs.length ≤ lenMax)
    (hK : K (.tup [.one (.ptr 4 0), .one (.ptr 5 0), .one (.bool ((doG (c, cl, ws) a).1 == (doR (c2, cl2, xs) a).1))])
      [.dead, .dead, .dead, .dead, gC c (doG (c, cl, ws) a).2.2.1 6, rC c2 (doR (c2, cl2, xs) a).2.2.1 7, wR (doG (c, cl, ws) a).2.2.2, wR (doR (c2, cl2, xs) a).2.2.2]) :
    fnVC Try.prog (look L6) {} Try.f13 [pv 0, pv 1, av a] [gC c cl 2, rC c2 cl2 3, wR ws, wR xs] (settleK 4 [0, 1, 2, 3] K) := by
  refine Eq.mp (nf13 c cl c2 cl2 a ws xs (settleK 4 [0, 1, 2, 3] K)) ?_
  refine ⟨by decide, by decide, fun q4 => ⟨hl, rfl, ?_⟩, fun n4 => ⟨fun q5 => ⟨hl, hl2, ?_⟩, fun n5 => ⟨fun q6 => ?_, fun n6 => ⟨fun q7 => ⟨hl, hl2, ?_⟩, fun n7 => ⟨hl, rfl, rfl, rfl, rfl, rfl, hl2, ?_⟩⟩⟩⟩⟩
  · rw [doG_4 (beq_iff_eq.1 q4), doR_4 (beq_iff_eq.1 q4), closeR_list] at hK
    refine eqmp hK ?_
    kernel_rfl
  · rw [doG_5 (beq_iff_eq.1 q5), doR_5 (beq_iff_eq.1 q5)] at hK
    refine eqmp hK ?_
    kernel_rfl
  · rw [doG_6 (beq_iff_eq.1 q6), doR_6 (beq_iff_eq.1 q6)] at hK
    refine eqmp hK ?_
    kernel_rfl
  · rw [doG_7 (beq_iff_eq.1 q7), doR_7 (beq_iff_eq.1 q7)] at hK
    refine eqmp hK ?_
    kernel_rfl
  · rw [doG_0 (beq_eq_false_iff_ne.1 n4) (beq_eq_false_iff_ne.1 n5) (beq_eq_false_iff_ne.1 n6) (beq_eq_false_iff_ne.1 n7), doR_0 (beq_eq_false_iff_ne.1 n4) (beq_eq_false_iff_ne.1 n5) (beq_eq_false_iff_ne.1 n6) (beq_eq_false_iff_ne.1 n7)] at hK
    rw [(giveG_cl (c, cl, ws) a.2.2).2, (giveR_cl (c2, cl2, xs) a.2.2).2] at hK
    refine eqmp hK ?_
    kernel_rfl

theorem sat13 : ∀ vs H K, S13.cps vs H K → Sat Try.prog 13 vs H K := by
  intro vs H K h
  unfold S13 at h
  dsimp only at h
  split at h
  · obtain ⟨hl, hl2, hK⟩ := h
    exact Sat.settled [0, 1, 2, 3] (fn_sat (N := {}) hm tab6 Try.func13 (core13 _ _ _ _ (_, _, _, _, _, _, _) _ _ K hl hl2 hK))
  · exact h.elim


theorem until_ex {u : Int} (h : Until [((2, 1, 0, 0, 10) : W), (2, 1, 0, 10, 15)] 0 3 u) : u = 15 := by
  obtain ⟨h1, h2, _, h4⟩ := h
  have a := h4 (2, 1, 0, 0, 10) (by simp)
  have b := h4 (2, 1, 0, 10, 15) (by simp)
  simp only [onW, Bool.and_eq_false_imp, decide_eq_true_eq, decide_eq_false_iff_not, Bool.and_eq_true, beq_iff_eq, List.mem_cons, List.not_mem_nil, or_false] at a b h2
  rcases h2 with h | ⟨w, rfl | rfl, h⟩
  · exfalso; exact a ⟨trivial, by show (0 : Int) ≤ u; omega⟩ (by show u < 10; omega)
  · exfalso; exact b ⟨trivial, by show (10 : Int) ≤ u; have : u = (10 : Int) := h; omega⟩ (by show u < 15; have : u = (10 : Int) := h; omega)
  · exact h

theorem sat8 : ∀ vs H K, S8.cps vs H K → Sat Try.prog 8 vs H K := by
  intro vs H K h
  unfold S8 at h
  dsimp only at h
  split at h
  · refine fn_sat (N := {}) hm tab6 Try.func8 (Eq.mp (nf8 _) ?_)
    have le : ∀ n : Nat, n ≤ 100 → n ≤ lenMax := fun n hn => by unfold lenMax; omega
    refine ⟨Nat.zero_le _, le _ (of_decide_eq_true (by kernel_rfl)), le _ (of_decide_eq_true (by kernel_rfl)), le _ (of_decide_eq_true (by kernel_rfl)), le _ (of_decide_eq_true (by kernel_rfl)), le _ (of_decide_eq_true (by kernel_rfl)), fun u hu => ?_⟩
    have hu' : Until [((2, 1, 0, 0, 10) : W), (2, 1, 0, 10, 15)] 0 3 u := by
      refine Eq.mp ?_ hu
      kernel_rfl
    have := until_ex hu'
    subst this
    refine ⟨le _ (of_decide_eq_true (by kernel_rfl)), le _ (of_decide_eq_true (by kernel_rfl)), le _ (of_decide_eq_true (by kernel_rfl)), ?_⟩
    refine Eq.mp ?_ h
    kernel_rfl
  · exact h.elim

theorem tab7 : TabOK Try.prog (look L7) := by
  unfold L7
  exact look_cons (look_cons tab6 sat13) sat8

/-! ### What the acts do to a gate -/
theorem doG_fst (g : G) (a : A) : (doG g a).2.1 = g.1 := by
  unfold doG
  split
  · unfold closeG; split <;> rfl
  · split
    · rfl
    · split
      · rfl
      · split
        · rfl
        · exact (giveG_cl _ _).1

theorem doR_fst (g : G) (a : A) : (doR g a).2.1 = g.1 := by
  unfold doR
  split
  · unfold closeR; split <;> rfl
  · split
    · rfl
    · split
      · rfl
      · split
        · rfl
        · exact (giveR_cl _ _).1

theorem runG_fst (l : List A) : ∀ g : G, (runG l g).1 = g.1 := by
  induction l with
  | nil => intro g; rfl
  | cons a l ih => intro g; show (runG l (doG g a).2).1 = _; rw [ih, doG_fst]

theorem runR_fst (l : List A) : ∀ g : G, (runR l g).1 = g.1 := by
  induction l with
  | nil => intro g; rfl
  | cons a l ih => intro g; show (runR l (doR g a).2).1 = _; rw [ih, doR_fst]

theorem runG_next {l : List A} {x : Nat} (h : x < l.length) (g : G) : runG (l.take (x + 1)) g = (doG (runG (l.take x) g) (l.getD x Act.zero)).2 := by
  unfold runG; rw [take_next Act.zero h, List.foldl_append]; rfl

theorem runR_next {l : List A} {x : Nat} (h : x < l.length) (g : G) : runR (l.take (x + 1)) g = (doR (runR (l.take x) g) (l.getD x Act.zero)).2 := by
  unfold runR; rw [take_next Act.zero h, List.foldl_append]; rfl

theorem mem_insW {ws : List W} {w x : W} (h : x ∈ insW ws w) : x ∈ ws ∨ x = w := by
  unfold insW at h
  split at h
  · exact .inl h
  · simp only [List.mem_append, List.mem_singleton] at h
    rcases h with (h | h) | h
    · exact .inl (List.mem_of_mem_take h)
    · exact .inr h
    · exact .inl (List.mem_of_mem_drop h)

theorem len_insW (ws : List W) (w : W) : (insW ws w).length ≤ ws.length + 1 := by
  unfold insW
  split
  · omega
  · simp; omega

theorem mem_giveG {g : G} {w x : W} (h : x ∈ (giveG g w).2.2.2) : x ∈ g.2.2 ∨ (x = w ∧ validW w = true) := by
  unfold giveG at h
  split at h
  · exact .inl h
  · rename_i hv
    split at h
    · exact .inl h
    · split at h
      · exact .inl h
      · rcases mem_insW h with h | h
        · exact .inl h
        · exact .inr ⟨h, by simpa using hv⟩

theorem mem_doG {g : G} {a : A} {x : W} (h : x ∈ (doG g a).2.2.2) : x ∈ g.2.2 ∨ (x = a.2.2 ∧ validW a.2.2 = true) := by
  unfold doG at h
  split at h
  · unfold closeG at h
    split at h
    · exact .inl h
    · exact .inl (List.mem_filter.1 h).1
  · split at h
    · exact .inl (List.mem_filter.1 h).1
    · split at h
      · cases h
      · split at h
        · exact .inl h
        · exact mem_giveG h

theorem len_doG (g : G) (a : A) : (doG g a).2.2.2.length ≤ g.2.2.length + 1 := by
  unfold doG
  split
  · unfold closeG
    split
    · dsimp only; omega
    · exact Nat.le_succ_of_le (List.length_filter_le _ _)
  · split
    · exact Nat.le_succ_of_le (List.length_filter_le _ _)
    · split
      · dsimp only; simp
      · split
        · dsimp only; omega
        · unfold giveG
          split
          · dsimp only; omega
          · split
            · dsimp only; omega
            · split
              · dsimp only; omega
              · exact len_insW _ _

theorem len_doR (g : G) (a : A) : (doR g a).2.2.2.length ≤ g.2.2.length + 1 := by
  unfold doR
  split
  · unfold closeR
    split <;> (dsimp only; omega)
  · split
    · exact Nat.le_succ_of_le (List.length_filter_le _ _)
    · split
      · dsimp only; simp
      · split
        · dsimp only; omega
        · unfold giveR
          split
          · dsimp only; omega
          · split
            · dsimp only; omega
            · split
              · dsimp only; omega
              · split
                · dsimp only; omega
                · simp

theorem mem_runG (l : List A) : ∀ (g : G) (x : W), x ∈ (runG l g).2.2 → x ∈ g.2.2 ∨ ∃ a ∈ l, x = a.2.2 ∧ validW x = true := by
  induction l with
  | nil => intro g x h; exact .inl h
  | cons a l ih =>
    intro g x h
    rcases ih (doG g a).2 x h with h | ⟨b, hb, h⟩
    · rcases mem_doG h with h | ⟨h1, h2⟩
      · exact .inl h
      · exact .inr ⟨a, by simp, h1, by rw [h1]; exact h2⟩
    · exact .inr ⟨b, by simp [hb], h⟩

theorem len_runG (l : List A) : ∀ g : G, (runG l g).2.2.length ≤ g.2.2.length + l.length := by
  induction l with
  | nil => intro g; simp [runG]
  | cons a l ih =>
    intro g
    have h1 := ih (doG g a).2
    have h2 := len_doG g a
    show (runG l (doG g a).2).2.2.length ≤ _
    simp only [List.length_cons]; omega

theorem len_runR (l : List A) : ∀ g : G, (runR l g).2.2.length ≤ g.2.2.length + l.length := by
  induction l with
  | nil => intro g; simp [runR]
  | cons a l ih =>
    intro g
    have h1 := ih (doR g a).2
    have h2 := len_doR g a
    show (runR l (doR g a).2).2.2.length ≤ _
    simp only [List.length_cons]; omega

/-! ### The acts that a list of numbers makes -/
theorem windowV_until (l : List Int) (k : Nat) (c : Int) : (44 : Int) ≥ (windowV l k c).2.2.2.2 ∧ (windowV l k c).1 = c := by
  have h1 := nextV_bound l k (n := 30) (by omega)
  have h2 := nextV_bound l (nextK l (nextK l (nextK l k))) (n := 15) (by omega)
  unfold windowV
  dsimp only
  exact ⟨by omega, rfl⟩

theorem actV_until (l : List Int) (k : Nat) (c : Int) : (44 : Int) ≥ (actV l k c).1.2.2.2.2.2.2 ∧ (actV l k c).1.2.2.1 = c := by
  unfold actV
  dsimp only
  split
  · exact windowV_until _ _ _
  · exact windowV_until _ _ _

theorem actsGo_all {l : List Int} {c : Int} {p : A → Prop} (hp : ∀ k, p (actV l k c).1) : ∀ (f k : Nat) (acc : List A), (∀ a ∈ acc, p a) → ∀ a ∈ actsGo l c f k acc, p a
  | 0, k, acc, h, a, ha => h a ha
  | f + 1, k, acc, h, a, ha => by
    unfold actsGo at ha
    split at ha
    · refine actsGo_all hp f _ _ (fun b hb => ?_) a ha
      rcases List.mem_append.1 hb with hb | hb
      · exact h b hb
      · rw [List.mem_singleton] at hb; subst hb; exact hp k
    · exact h a ha

theorem actsGo_len {l : List Int} {c : Int} : ∀ (f k : Nat) (acc : List A), acc.length ≤ 40 → (actsGo l c f k acc).length ≤ 40
  | 0, k, acc, h => h
  | f + 1, k, acc, h => by
    unfold actsGo
    split
    · rename_i q; exact actsGo_len f _ _ (by simp; omega)
    · exact h

theorem madeA_until (l : List Int) (c : Int) : ∀ a ∈ madeA l c, (44 : Int) ≥ a.2.2.2.2.2.2 := actsGo_all (fun k => (actV_until l k c).1) _ _ _ (by simp)
theorem madeA_len (l : List Int) (c : Int) : (madeA l c).length ≤ 40 := actsGo_len _ _ _ (by simp)

/-! ### What is accepted -/
theorem foldl_acc (v t : Int) : ∀ (ws : List W) (e : Int), (∀ w ∈ ws, (1 : Int) ≤ w.2.1) → 0 ≤ e →
    e ≤ ws.foldl (fun e w => if onW v t w then max e w.2.1 else e) e ∧ ((∃ w ∈ ws, onW v t w = true) → 1 ≤ ws.foldl (fun e w => if onW v t w then max e w.2.1 else e) e) ∧
      ((∀ w ∈ ws, onW v t w = false) → ws.foldl (fun e w => if onW v t w then max e w.2.1 else e) e = e)
  | [], e, _, _ => ⟨Int.le_refl _, (fun ⟨w, hw, _⟩ => by cases hw), fun _ => rfl⟩
  | a :: ws, e, h, he => by
    simp only [List.foldl_cons]
    have ha := h a (by simp)
    cases q : onW v t a with
    | true =>
      obtain ⟨i1, i2, i3⟩ := foldl_acc v t ws (max e a.2.1) (fun w hw => h w (by simp [hw])) (by omega)
      simp only [if_true]
      have ha' : (1 : Int) ≤ a.2.1 := ha
      have hmx : (1 : Int) ≤ max e a.2.1 := Int.le_trans ha' (Int.le_max_right _ _)
      have hmx' : e ≤ max e a.2.1 := Int.le_max_left _ _
      refine ⟨Int.le_trans hmx' i1, fun _ => Int.le_trans hmx i1, fun hn => ?_⟩
      have := hn a (by simp)
      rw [q] at this; cases this
    | false =>
      obtain ⟨i1, i2, i3⟩ := foldl_acc v t ws e (fun w hw => h w (by simp [hw])) he
      simp only [Bool.false_eq_true, if_false]
      refine ⟨i1, fun ⟨w, hw, hon⟩ => ?_, fun hn => i3 fun w hw => hn w (by simp [hw])⟩
      rcases List.mem_cons.1 hw with rfl | hw
      · rw [q] at hon; cases hon
      · exact i2 ⟨w, hw, hon⟩

theorem acc_pos {ws : List W} (h : ∀ w ∈ ws, (1 : Int) ≤ w.2.1) {v t : Int} (hx : ∃ w ∈ ws, onW v t w = true) : 0 < accE ws v t := by
  exact Int.lt_of_lt_of_le (by omega) ((foldl_acc v t ws 0 h (Int.le_refl _)).2.1 hx)

theorem acc_zero {ws : List W} (h : ∀ w ∈ ws, (1 : Int) ≤ w.2.1) {v t : Int} (hx : ∀ w ∈ ws, onW v t w = false) : accE ws v t = 0 := (foldl_acc v t ws 0 h (Int.le_refl _)).2.2 hx

/-- **GateScans**: whatever the numbers. -/
theorem scans_sat (l : List Int) (v t : Int) (K : SV → List AObj → Prop) (hK : K (bv true) []) : Sat Try.prog 3 [fi l, iv v, iv t] [] K := by
  refine fn_sat (N := NS l) hm tab7 Try.func3 (Eq.mp (nf3 l v t K) ?_)
  have hma := madeA_len l 1
  have hrun : ∀ x, (runG ((madeA l 1).take x) (1, 0, [])).2.2.length ≤ lenMax := fun x => by
    have h1 := len_runG ((madeA l 1).take x) (1, 0, [])
    have h2 : ((madeA l 1).take x).length ≤ 40 := by rw [List.length_take]; omega
    simp only [List.length_nil] at h1
    unfold lenMax; omega
  have hrunR : ∀ x, (runR ((madeA l 1).take x) (1, 0, [])).2.2.length ≤ lenMax := fun x => by
    have h1 := len_runR ((madeA l 1).take x) (1, 0, [])
    have h2 : ((madeA l 1).take x).length ≤ 40 := by rw [List.length_take]; omega
    simp only [List.length_nil] at h1
    unfold lenMax; omega
  have hetaG : ∀ m, ((1 : Int), (runG m (1, 0, [])).2.1, (runG m (1, 0, [])).2.2) = runG m (1, 0, []) := fun m => by
    have := runG_fst m (1, 0, [])
    exact Prod.ext this.symm rfl
  have hetaR : ∀ m, ((1 : Int), (runR m (1, 0, [])).2.1, (runR m (1, 0, [])).2.2) = runR m (1, 0, []) := fun m => by
    have := runR_fst m (1, 0, [])
    exact Prod.ext this.symm rfl
  refine ⟨fun h => (by cases h), fun _ => ⟨fun _ => hK, fun hlen => ?_⟩⟩
  have hlen' : l.length ≤ 150 := by simpa using hlen
  refine ⟨by omega, by omega, by omega, by omega, (by unfold lenMax; omega), ⟨0, ⟨rfl, rfl, rfl, rfl, rfl, rfl, rfl, rfl, rfl, rfl, rfl, trivial⟩, Nat.zero_le _⟩, fun x hx => ⟨fun h => ?_, fun h => ?_⟩⟩
  · have hx' : x < (madeA l 1).length := by simp only [decide_eq_true_eq] at h; omega
    have nG := runG_next hx' (1, 0, [])
    have nR := runR_next hx' (1, 0, [])
    rw [hetaG, hetaR]
    refine ⟨by omega, hx', hrun x, hrunR x, x + 1, ⟨rfl, rfl, rfl, by rw [wr_eq (by omega) (by omega)]; rfl, rfl, ?_, rfl, ?_, rfl, ?_, ?_, trivial⟩, hx', by omega⟩
    · rw [nG]
    · rw [nR]
    · rw [nG]
    · rw [nR]
  · have hx' : x = (madeA l 1).length := by simp only [decide_eq_false_iff_not] at h; omega
    refine ⟨hrun x, fun u hu => ?_⟩
    subst hx'
    rw [List.take_length] at hu ⊢
    have hvalid : ∀ w ∈ (runG (madeA l 1) (1, 0, [])).2.2, (1 : Int) ≤ w.2.1 ∧ (44 : Int) ≥ w.2.2.2.2 := by
      intro w hw
      rcases mem_runG _ _ _ hw with hw | ⟨a, ha, e, hv⟩
      · cases hw
      · have := madeA_until l 1 a ha
        rw [← e] at this
        unfold validW at hv
        simp only [Bool.and_eq_true, decide_eq_true_eq] at hv
        exact ⟨hv.1.1.1.1.1.1.1, this⟩
    have hrl := hrun (madeA l 1).length
    rw [List.take_length] at hrl
    have hep : ∀ w ∈ (runG (madeA l 1) (1, 0, [])).2.2, (1 : Int) ≤ w.2.1 := fun w hw => (hvalid w hw).1
    generalize (runG (madeA l 1) (1, 0, [])).2.2 = ws at hu hvalid hep hrl ⊢
    obtain ⟨u1, u2, u3, u4⟩ := hu
    have ht1 := Int.emod_nonneg t (b := 50) (by omega)
    have ht2 := Int.emod_lt_of_pos t (b := 50) (by omega)
    have hu100 : u ≤ 100 := by
      rcases u2 with h | ⟨w, hw, h⟩
      · omega
      · have := (hvalid w hw).2; omega
    refine ⟨fun h => ?_, fun _ => ⟨⟨(t % 50, u), ⟨rfl, rfl, rfl, rfl, rfl, rfl, trivial⟩, Int.le_refl _, u1, rfl⟩, ?_⟩⟩
    · simp only [Bool.or_eq_true, decide_eq_true_eq] at h; omega
    · rintro ⟨s, u'⟩ ⟨s1, s2, s3⟩
      dsimp only at s1 s2 s3 ⊢
      subst s3
      refine ⟨fun h => ⟨hrl, fun h2 => ?_, fun _ => ?_⟩, fun h => ⟨hrl, ?_⟩⟩
      · simp only [decide_eq_true_eq] at h
        have := acc_pos hep (u3 s s1 h)
        simp only [Bool.not_eq_true', decide_eq_false_iff_not] at h2
        omega
      · simp only [decide_eq_true_eq] at h
        exact ⟨(s + 1, u'), ⟨rfl, rfl, wr_eq (by omega) (by omega), rfl, rfl, rfl, trivial⟩, ⟨by dsimp only; omega, by dsimp only; omega, rfl⟩, by dsimp only; omega⟩
      · rw [acc_zero hep u4]
        refine Eq.mp ?_ hK
        kernel_rfl

end Go.Proofs.Ytkjonmlepanjhaa.AM
