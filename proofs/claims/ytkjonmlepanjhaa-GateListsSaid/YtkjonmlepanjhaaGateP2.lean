/- The gate chapter: functions with loops do what is told of them. -/
import Derived.Test.YtkjonmlepanjhaaGateN2
import Derived.Test.YtkjonmlepanjhaaGateP1
set_option linter.unusedVariables false
set_option linter.unusedSimpArgs false
namespace Go.Proofs.Ytkjonmlepanjhaa.AM
open Go Go.Proofs.Ytkjonmlepanjhaa

/-! ### Lists -/
theorem take_next {α : Type} {l : List α} {x : Nat} (z : α) (h : x < l.length) : l.take (x + 1) = l.take x ++ [l.getD x z] := by
  rw [List.take_succ_eq_append_getElem h, List.getD_eq_getElem?_getD, List.getElem?_eq_getElem h]; rfl

theorem getD_mem {α : Type} {l : List α} {x : Nat} (z : α) (h : x < l.length) : l.getD x z ∈ l := by
  rw [List.getD_eq_getElem?_getD, List.getElem?_eq_getElem h]; exact List.getElem_mem h

theorem getD_get? {α : Type} {l : List α} {x : Nat} (z : α) (h : x < l.length) : l[x]? = some (l.getD x z) := by
  rw [List.getD_eq_getElem?_getD, List.getElem?_eq_getElem h]; rfl

theorem tw_succ {α : Type} {p : α → Bool} (z : α) : ∀ (l : List α) (x : Nat), x ≤ (l.takeWhile p).length → x < l.length → p (l.getD x z) = true → x + 1 ≤ (l.takeWhile p).length
  | [], x, _, h, _ => by simp at h
  | a :: l, 0, _, _, h => by
    have : p a = true := by simpa using h
    simp [List.takeWhile_cons, this]
  | a :: l, x + 1, h0, h1, h2 => by
    rw [List.takeWhile_cons] at h0 ⊢
    split at h0
    · rename_i q
      have := tw_succ z l x (by simpa using h0) (by simpa using h1) (by simpa using h2)
      simp [q]; omega
    · simp at h0

theorem tw_stop {α : Type} {p : α → Bool} (z : α) : ∀ (l : List α) (x : Nat), x ≤ (l.takeWhile p).length → (x < l.length → p (l.getD x z) = false) → x = (l.takeWhile p).length
  | [], x, h, _ => by simpa using h
  | a :: l, 0, _, h => by
    have : p a = false := by simpa using h (by simp)
    simp [List.takeWhile_cons, this]
  | a :: l, x + 1, h0, h => by
    rw [List.takeWhile_cons] at h0 ⊢
    split at h0
    · rename_i q
      have := tw_stop z l x (by simpa using h0) (fun hx => by simpa using h (by simpa using hx))
      simp [q, ← this]
    · simp at h0

theorem tw_le {α : Type} (p : α → Bool) (l : List α) : (l.takeWhile p).length ≤ l.length := List.Sublist.length_le (List.takeWhile_sublist p)

theorem count_lt {α : Type} {p q : α → Bool} {l : List α} {w : α} (hw : w ∈ l) (h : ∀ x, q x = true → p x = true) (hp : p w = true) (hq : q w = false) : l.countP q < l.countP p := by
  induction l with
  | nil => cases hw
  | cons a l ih =>
    have hle : l.countP q ≤ l.countP p := List.countP_mono_left fun x _ => h x
    rw [List.countP_cons, List.countP_cons]
    rcases List.mem_cons.1 hw with rfl | hw
    · rw [hp, hq]; simp; omega
    · have := ih hw
      cases ha : q a with
      | false => simp; split <;> omega
      | true => rw [h a ha]; simp; omega

theorem eqbWin (x y : W) : Ty.eqb Win x y = decide (x = y) := by
  obtain ⟨a, b, c, d, e⟩ := x
  obtain ⟨a', b', c', d', e'⟩ := y
  rw [Bool.eq_iff_iff]
  simp [Ty.eqb, and_assoc]

theorem accE_next {ws : List W} {x : Nat} (v t : Int) (h : x < ws.length) : accE (ws.take (x + 1)) v t = if onW v t (ws.getD x (Ty.zero Win)) then max (accE (ws.take x) v t) (ws.getD x (Ty.zero Win)).2.1 else accE (ws.take x) v t := by
  unfold accE; rw [take_next (Ty.zero Win) h, List.foldl_append]; rfl

theorem nextV_lt {l : List Int} {k : Nat} (h : k < l.length) (n : Int) : nextV l k n = l.getD k 0 % n := by
  unfold nextV; rw [getD_get? 0 h]
theorem nextV_ge {l : List Int} {k : Nat} (h : l.length ≤ k) (n : Int) : nextV l k n = 0 := by
  unfold nextV; rw [List.getElem?_eq_none h]
theorem nextK_lt {l : List Int} {k : Nat} (h : k < l.length) : nextK l k = k + 1 := by unfold nextK; rw [if_pos h]
theorem nextK_ge {l : List Int} {k : Nat} (h : l.length ≤ k) : nextK l k = k := by unfold nextK; rw [if_neg (by omega)]

/-! ### Functions -/
theorem sat46 : ∀ vs H K, S46.cps vs H K → Sat Try.prog 46 vs H K := by
  intro vs H K h
  unfold S46 at h
  dsimp only at h
  split at h
  · exact fn_sat (N := {}) hm tab1 Try.func46 (Eq.mp (nf46a _ _ (_, _, _, _, _) _ K) h)
  · exact fn_sat (N := {}) hm tab1 Try.func46 (Eq.mp (nf46b _ (_, _, _, _, _) K) h)
  · exact h.elim

theorem sat28 : ∀ vs H K, S28.cps vs H K → Sat Try.prog 28 vs H K := by
  intro vs H K h
  unfold S28 at h
  dsimp only at h
  split at h
  · rename_i n l k
    obtain ⟨h1, h2, h3, hK⟩ := h
    unfold lenMax at h3
    refine fn_sat (N := {}) hm tab1 Try.func28 ?_
    rw [← nf28]
    simp only [Int.ofNat_eq_natCast, decide_eq_true_eq, decide_eq_false_iff_not] at hK ⊢
    refine ⟨fun q => ?_, fun q => ?_⟩
    · rw [nextV_ge (by omega), nextK_ge (by omega)] at hK
      exact hK
    · have hk : k < l.length := by omega
      rw [nextV_lt hk, nextK_lt hk] at hK
      have e1 : wr ((k : Int) + 1) = ((k + 1 : Nat) : Int) := by rw [wr_eq (by omega) (by omega)]; rfl
      have e2 : wr (((k + 1 : Nat) : Int) - 1) = (k : Int) := by rw [wr_eq (by omega) (by omega)]; omega
      rw [e1, e2, Int.toNat_natCast]
      exact ⟨by omega, h1, h2, hK⟩
  · exact h.elim

theorem sat15 : ∀ vs H K, S15.cps vs H K → Sat Try.prog 15 vs H K := by
  intro vs H K h
  unfold S15 at h
  dsimp only at h
  split at h
  · rename_i v t c cl ws
    obtain ⟨h1, hK⟩ := h
    unfold lenMax at h1
    refine fn_sat (N := N15 ws v t) hm tab1 Try.func15 ?_
    rw [← nf15]
    simp only [decide_eq_true_eq, decide_eq_false_iff_not, true_and, and_true]
    refine ⟨⟨0, by simp [accE], by omega⟩, fun x hx => ⟨fun q => ?_, fun q => ?_⟩⟩
    · have hx' : x < ws.length := by omega
      have e1 : wr ((x : Int) + 1) = ((x + 1 : Nat) : Int) := by rw [wr_eq (by omega) (by omega)]; rfl
      have hn := accE_next v t hx'
      refine ⟨by omega, hx', fun q2 => ?_, fun q2 => ?_⟩
      · rw [if_pos (show onW v t _ = true from q2)] at hn
        exact ⟨x + 1, ⟨hn.symm, e1⟩, by omega, by omega⟩
      · rw [if_neg (by unfold onW; rw [q2]; simp)] at hn
        exact ⟨x + 1, ⟨hn.symm, e1⟩, by omega, by omega⟩
    · have hx' : x = ws.length := by omega
      subst hx'
      rw [List.take_length]; exact hK
  · exact h.elim

theorem sat14 : ∀ vs H K, S14.cps vs H K → Sat Try.prog 14 vs H K := by
  intro vs H K h
  unfold S14 at h
  dsimp only at h
  split at h
  · rename_i v t c cl ws
    obtain ⟨h1, hK⟩ := h
    suffices main : ∀ ws : List W, ws.length ≤ lenMax → (∀ u, Until ws v t u → K (iv u) [gC c cl 1, wR ws]) → Sat Try.prog 14 [pv 0, iv v, iv t] [gC c cl 1, wR ws] K from main ws h1 hK
    clear h1 hK
    intro ws h1 hK
    unfold lenMax at h1
    refine fn_sat (N := N14 ws v t) hm tab1 Try.func14 ?_
    rw [← nf14]
    simp only [decide_eq_true_eq, decide_eq_false_iff_not, true_and, and_true]
    refine ⟨⟨(t, true), ⟨rfl, rfl⟩, Int.le_refl _, .inl rfl, fun s a b => (by omega), fun q => by cases q⟩, ?_⟩
    rintro ⟨u, again⟩ ⟨i1, i2, i3, i4⟩
    dsimp only at i1 i2 i3 i4 ⊢
    refine ⟨fun qa => ?_, fun qa => hK u ⟨i1, i2, i3, i4 qa⟩⟩
    subst qa
    refine ⟨⟨(u, false, 0), ⟨rfl, rfl, rfl⟩, Nat.zero_le _, Int.le_refl _, fun s a b => (by dsimp only at b; omega), fun _ => ⟨rfl, by simp⟩, fun q => by cases q⟩, ?_⟩
    rintro ⟨u2, b, i⟩ ⟨j1, j2, j3, j4, j5⟩
    dsimp only at j1 j2 j3 j4 j5 ⊢
    refine ⟨fun q => ?_, fun q => ?_⟩
    · have hi : i < ws.length := by omega
      have e1 : wr ((i : Int) + 1) = ((i + 1 : Nat) : Int) := by rw [wr_eq (by omega) (by omega)]; rfl
      refine ⟨by omega, hi, fun q2 => ?_, fun q2 => ?_⟩
      · have hon : onW v u2 (ws.getD i (Ty.zero Win)) = true := q2
        have hmem := getD_mem (Ty.zero Win) hi
        generalize ws.getD i (Ty.zero Win) = w at q2 hon hmem ⊢
        have hlt : u2 < w.2.2.2.2 := by
          unfold onW at hon; simp only [Bool.and_eq_true, decide_eq_true_eq] at hon; exact hon.2
        refine ⟨(w.2.2.2.2, true, i + 1), ⟨rfl, rfl, e1⟩, ⟨by dsimp only; omega, by dsimp only; omega, fun s a b => ?_, (fun q => by cases q), fun _ => ⟨(by dsimp only; omega), w, hmem, rfl⟩⟩, by dsimp only; omega⟩
        dsimp only at b
        by_cases hs : s < u2
        · exact j3 s a hs
        · refine ⟨w, hmem, ?_⟩
          unfold onW at hon ⊢
          simp only [Bool.and_eq_true, decide_eq_true_eq] at hon ⊢
          exact ⟨⟨hon.1.1, Int.le_trans hon.1.2 (by omega)⟩, by omega⟩
      · have hoff : onW v u2 (ws.getD i (Ty.zero Win)) = false := q2
        refine ⟨(u2, b, i + 1), ⟨rfl, rfl, e1⟩, ⟨by dsimp only; omega, j2, j3, fun qb => ⟨(j4 qb).1, ?_⟩, j5⟩, by dsimp only; omega⟩
        dsimp only
        intro w hw
        rw [take_next (Ty.zero Win) hi, List.mem_append, List.mem_singleton] at hw
        rcases hw with hw | rfl
        · exact (j4 qb).2 w hw
        · exact hoff
    · have hi : i = ws.length := by omega
      subst hi
      rw [List.take_length] at j4
      refine ⟨(u2, b), ⟨rfl, rfl⟩, ⟨by dsimp only; omega, ?_, fun s a c => ?_, fun qb => (j4 qb).2⟩, ?_⟩
      · dsimp only
        cases b with
        | false => rw [(j4 rfl).1]; exact i2
        | true => exact .inr (j5 rfl).2
      · dsimp only at c
        by_cases hs : s < u
        · exact i3 s a hs
        · exact j3 s (by omega) c
      · dsimp only
        cases b with
        | false => rw [(j4 rfl).1]; simp
        | true =>
          obtain ⟨k1, w, hw, k2⟩ := j5 rfl
          have hlt : ws.countP (fun w => decide (w.2.2.2.2 > u2)) < ws.countP (fun w => decide (w.2.2.2.2 > u)) := by
            refine count_lt hw (fun x hx => ?_) ?_ ?_
            · simp only [decide_eq_true_eq] at hx ⊢; omega
            · simp only [decide_eq_true_eq]; omega
            · simp only [decide_eq_false_iff_not]; omega
          simp only [if_true]; omega
  · exact h.elim

theorem give_cases {c cl : Int} {ws : List W} {w : W} {K : Int → List W → Prop} (h : K (giveG (c, cl, ws) w).1 (giveG (c, cl, ws) w).2.2.2) :
    (validW w = false → K 1 ws) ∧ (validW w = true → w.1 ≠ c → K 5 ws) ∧ (validW w = true → w.1 = c → w.2.1 ≤ cl → K 7 ws) ∧ (validW w = true → w.1 = c → ¬ w.2.1 ≤ cl → K 0 (insW ws w)) := by
  unfold giveG at h
  refine ⟨fun q => ?_, fun q q2 => ?_, fun q q2 q3 => ?_, fun q q2 q3 => ?_⟩ <;> simp_all

theorem giveG_cl (g : G) (w : W) : (giveG g w).2.1 = g.1 ∧ (giveG g w).2.2.1 = g.2.1 := by
  unfold giveG; split
  · exact ⟨rfl, rfl⟩
  · split
    · exact ⟨rfl, rfl⟩
    · split <;> exact ⟨rfl, rfl⟩

theorem giveR_cl (g : G) (w : W) : (giveR g w).2.1 = g.1 ∧ (giveR g w).2.2.1 = g.2.1 := by
  unfold giveR; split
  · exact ⟨rfl, rfl⟩
  · split
    · exact ⟨rfl, rfl⟩
    · split
      · exact ⟨rfl, rfl⟩
      · split <;> exact ⟨rfl, rfl⟩

theorem giveR_cases {c cl : Int} {ws : List W} {w : W} {K : Int → List W → Prop} (h : K (giveR (c, cl, ws) w).1 (giveR (c, cl, ws) w).2.2.2) :
    (validW w = false → K 1 ws) ∧ (validW w = true → w.1 ≠ c → K 5 ws) ∧ (validW w = true → w.1 = c → w.2.1 ≤ cl → K 7 ws) ∧ (validW w = true → w.1 = c → ¬ w.2.1 ≤ cl → w ∈ ws → K 0 ws) ∧ (validW w = true → w.1 = c → ¬ w.2.1 ≤ cl → w ∉ ws → K 0 (ws ++ [w])) := by
  unfold giveR at h
  refine ⟨fun q => ?_, fun q q2 => ?_, fun q q2 q3 => ?_, fun q q2 q3 q4 => ?_, fun q q2 q3 q4 => ?_⟩ <;> simp_all

theorem sat21 : ∀ vs H K, S21.cps vs H K → Sat Try.prog 21 vs H K := by
  intro vs H K h
  unfold S21 at h
  dsimp only at h
  split at h
  · rename_i a b c' d e c cl ws
    obtain ⟨hl, hK⟩ := h
    generalize hw : ((a, b, c', d, e) : W) = w at hK
    obtain ⟨k1, k5, k7, k0⟩ := give_cases (K := fun n l => K (iv n) [gC c cl 2, .dead, wR l]) hK
    refine Sat.settled [1] (fn_sat (N := N21 ws w) hm tab1 Try.func21 ?_)
    subst hw
    refine Eq.mp (nf21 c cl (a, b, c', d, e) ws _) ?_
    have hl' := hl
    unfold lenMax at hl'
    have hp := tw_le (fun x => beforeW x (a, b, c', d, e)) ws
    simp only [sgnB, eqbWin, true_and, and_true, decide_eq_true_eq, decide_eq_false_iff_not, Bool.not_eq_true', Bool.not_eq_false', bne_iff_ne, ne_eq, bne_eq_false_iff_eq, Bool.and_eq_true, Bool.and_eq_false_imp, Bool.or_eq_true, Bool.or_eq_false_iff, beq_iff_eq, beq_eq_false_iff_ne]
    refine ⟨fun q => ?_, fun q => ⟨fun q2 => ?_, fun q2 => ⟨fun q3 => ?_, fun q3 => ⟨⟨0, rfl, Nat.zero_le _⟩, fun x hx => ?_⟩⟩⟩⟩
    · refine Eq.mp ?_ (k1 q)
      kernel_rfl
    · refine Eq.mp ?_ (k5 q q2)
      kernel_rfl
    · refine Eq.mp ?_ (k7 q q2 q3)
      kernel_rfl
    · have hx2 : x ≤ ws.length := by unfold posW at hx; omega
      have kk := k0 q q2 q3
      have e1 : x < ws.length → wr ((x : Int) + 1) = ((x + 1 : Nat) : Int) := fun _ => by rw [wr_eq (by omega) (by omega)]; rfl
      have stop : (x < ws.length → beforeW (ws.getD x Win.zero) (a, b, c', d, e) = false) → x = posW ws (a, b, c', d, e) := fun hb => tw_stop (p := fun x => beforeW x (a, b, c', d, e)) Win.zero ws x hx hb
      have ins : (x < ws.length → beforeW (ws.getD x Win.zero) (a, b, c', d, e) = false) → ((x : Int) = ws.length ∨ ¬ ws.getD x Win.zero = (a, b, c', d, e)) → K (iv 0) [gC c cl 2, AObj.dead, wR (ws.take x ++ [(a, b, c', d, e)] ++ ws.drop x)] := by
        intro hb hor
        have := stop hb
        unfold insW at kk
        rw [← this, if_neg] at kk
        · exact kk
        · intro hs
          have hlt : x < ws.length := (List.getElem?_eq_some_iff.1 hs).1
          rcases hor with h | h
          · omega
          · rw [getD_get? Win.zero hlt] at hs
            exact h (Option.some.inj hs)
      have same : (x < ws.length → beforeW (ws.getD x Win.zero) (a, b, c', d, e) = false) → ¬ (x : Int) = ws.length → ws.getD x Win.zero = (a, b, c', d, e) → K (iv 0) [gC c cl 2, AObj.dead, wR ws] := by
        intro hb hne he
        have := stop hb
        unfold insW at kk
        rw [← this, if_pos (by rw [getD_get? Win.zero (by omega), he])] at kk
        exact kk
      refine ⟨fun h => by omega, fun h => (by show x < ws.length; omega), fun h => ⟨fun h2 => ?_, fun h2 => ⟨fun h3 => by omega, fun h3 => (by show x < ws.length; omega), fun h3 => ⟨by omega, by omega, hl, ?_⟩, fun h3 => ?_⟩⟩, fun h => ⟨fun h2 => ?_, fun h2 => ⟨fun h3 => by omega, fun h3 => (by show x < ws.length; omega), fun h3 => ⟨by omega, by omega, hl, ?_⟩, fun h3 => ?_⟩⟩⟩
      · have hlt : x < ws.length := by omega
        have := tw_succ (p := fun x => beforeW x (a, b, c', d, e)) Win.zero ws x hx hlt h2.2
        exact ⟨x + 1, e1 hlt, this, by omega⟩
      · refine Eq.mp ?_ (ins (fun hx => h2 (by omega)) h3)
        kernel_rfl
      · refine Eq.mp ?_ (same (fun hx => h2 (by omega)) h3.1 h3.2)
        kernel_rfl
      · exact absurd h2.2 (by simp)
      · refine Eq.mp ?_ (ins (fun hx => by omega) h3)
        kernel_rfl
      · refine Eq.mp ?_ (same (fun hx => by omega) h3.1 h3.2)
        kernel_rfl
  · exact h.elim

theorem sat35 : ∀ vs H K, S35.cps vs H K → Sat Try.prog 35 vs H K := by
  intro vs H K h
  unfold S35 at h
  dsimp only at h
  split at h
  · rename_i a b c' d e c cl ws
    obtain ⟨hl, hK⟩ := h
    unfold lenMax at hl
    generalize hw : ((a, b, c', d, e) : W) = w at hK
    obtain ⟨k1, k5, k7, k0, k00⟩ := giveR_cases (K := fun n l => K (iv n) [rC c cl 2, .dead, wR l]) hK
    refine Sat.settled [1] (fn_sat (N := N35 ws w) hm tab1 Try.func35 ?_)
    subst hw
    refine Eq.mp (nf35 c cl (a, b, c', d, e) ws _) ?_
    simp only [eqbWin, true_and, and_true, decide_eq_true_eq, decide_eq_false_iff_not, Bool.not_eq_true', Bool.not_eq_false', bne_iff_ne, ne_eq, bne_eq_false_iff_eq]
    refine ⟨fun q => ?_, fun q => ⟨fun q2 => ?_, fun q2 => ⟨fun q3 => ?_, fun q3 => ⟨⟨0, rfl, Nat.zero_le _, by simp⟩, fun x hx => ⟨fun h => ⟨by omega, by omega, fun h2 => ?_, fun h2 => ?_⟩, fun h => ?_⟩⟩⟩⟩⟩
    · refine Eq.mp ?_ (k1 q)
      kernel_rfl
    · refine Eq.mp ?_ (k5 q q2)
      kernel_rfl
    · refine Eq.mp ?_ (k7 q q2 q3)
      kernel_rfl
    · have hlt : x < ws.length := by omega
      have h2' : ws.getD x Win.zero = (a, b, c', d, e) := h2
      have := getD_mem Win.zero hlt
      rw [h2'] at this
      refine Eq.mp ?_ (k0 q q2 q3 this)
      kernel_rfl
    · have hlt : x < ws.length := by omega
      have h2' : ¬ ws.getD x Win.zero = (a, b, c', d, e) := h2
      refine ⟨x + 1, by rw [wr_eq (by omega) (by omega)]; rfl, ⟨by omega, fun hm => ?_⟩, by omega⟩
      rw [take_next Win.zero hlt, List.mem_append, List.mem_singleton] at hm
      rcases hm with hm | hm
      · exact hx.2 hm
      · exact h2' hm.symm
    · have hxl : x = ws.length := by omega
      have hni := hx.2
      rw [hxl, List.take_length] at hni
      simp only [List.nil_append, List.length_singleton]
      have kk := k00 q q2 q3 hni
      repeat' (first | apply And.intro | intro _)
      all_goals try omega
      all_goals refine Eq.mp ?_ kk
      all_goals kernel_rfl
  · exact h.elim

theorem sat19 : ∀ vs H K, S19.cps vs H K → Sat Try.prog 19 vs H K := by
  intro vs H K h
  unfold S19 at h
  dsimp only at h
  split at h
  · obtain ⟨hl, hK⟩ := h
    refine fn_sat (N := {}) hm tab1 Try.func19 ?_
    rw [← nf19]
    exact ⟨hl, rfl, rfl, hK⟩
  · exact h.elim

theorem sat24 : ∀ vs H K, S24.cps vs H K → Sat Try.prog 24 vs H K := by
  intro vs H K h
  unfold S24 at h
  dsimp only at h
  split at h
  · obtain ⟨hl, hK⟩ := h
    unfold lenMax at hl
    refine fn_sat (N := {}) hm tab1 Try.func24 ?_
    rw [← nf24]
    exact ⟨rfl, rfl, by omega, by omega, rfl, rfl, hK⟩
  · exact h.elim

theorem filter_next {xs : List W} {x : Nat} (p : W → Bool) (h : x < xs.length) : (xs.take (x + 1)).filter p = (xs.take x).filter p ++ if p (xs.getD x Win.zero) then [xs.getD x Win.zero] else [] := by
  rw [take_next Win.zero h, List.filter_append]
  congr 1
  simp only [List.filter_cons, List.filter_nil]

theorem sat32 : ∀ vs H K, S32.cps vs H K → Sat Try.prog 32 vs H K := by
  intro vs H K h
  unfold S32 at h
  dsimp only at h
  split at h
  · rename_i t c cl ws
    obtain ⟨hl, hK⟩ := h
    suffices main : ∀ ws : List W, ws.length ≤ lenMax → K (.tup []) [rC c cl 2, .dead, wR (forgetG (c, cl, ws) t).2.2] → Sat Try.prog 32 [pv 0, iv t] [rC c cl 1, wR ws] K from main ws hl hK
    clear hl hK
    intro ws hl hK
    unfold lenMax at hl
    refine Sat.settled [1] (fn_sat (N := N32 ws t) hm tab1 Try.func32 ?_)
    refine Eq.mp (nf32 c cl t ws _) ?_
    simp only [true_and, and_true, decide_eq_true_eq, decide_eq_false_iff_not, List.length_singleton]
    refine ⟨⟨0, ⟨rfl, by simp⟩, Nat.zero_le _⟩, fun x hx => ⟨fun h => ⟨by omega, by omega, fun h2 => ?_, fun h2 => ?_⟩, fun h => ?_⟩⟩
    · have hlt : x < ws.length := by omega
      have hf := filter_next (fun w => decide (w.2.2.2.2 > t)) hlt
      have hfl : ((ws.take x).filter (fun w => decide (w.2.2.2.2 > t))).length ≤ x := Nat.le_trans (List.length_filter_le _ _) (by simp; omega)
      rw [if_pos (by simpa using h2)] at hf
      exact ⟨by omega, by omega, x + 1, ⟨by rw [wr_eq (by omega) (by omega)]; rfl, hf.symm⟩, by omega, by omega⟩
    · have hlt : x < ws.length := by omega
      have hf := filter_next (fun w => decide (w.2.2.2.2 > t)) hlt
      rw [if_neg (by simpa using h2), List.append_nil] at hf
      exact ⟨x + 1, ⟨by rw [wr_eq (by omega) (by omega)]; rfl, hf.symm⟩, by omega, by omega⟩
    · have hxl : x = ws.length := by omega
      subst hxl
      rw [List.take_length]
      refine Eq.mp ?_ hK
      kernel_rfl
  · exact h.elim

theorem tab2 : TabOK Try.prog (look L2) := by
  unfold L2
  exact look_cons (look_cons (look_cons (look_cons (look_cons (look_cons (look_cons (look_cons (look_cons tab1 sat32) sat24) sat19) sat35) sat21) sat14) sat15) sat28) sat46

end Go.Proofs.Ytkjonmlepanjhaa.AM
