/- QueuePlays: what every sequence of calls returns. No conditions. -/
import Derived.Test.YthjogeodclpafaaM5
import Derived.Test.YthjogeodclpafaaRows
set_option linter.unusedVariables false
set_option linter.unusedSimpArgs false

section
set_option linter.unusedVariables false
set_option linter.unusedSimpArgs false
set_option maxRecDepth 100000
namespace Go.Proofs.Ythjogeodclpafaa.AM
open Go Go.Proofs.Ythjogeodclpafaa

theorem tab10 : TabOK Try.prog (look L10) := look_app tab9 tabB6

theorem foldF_step {σ : Type} (f : σ → Ch → Int × σ) {h : List Ch} {x : Nat} (q : σ) (hx : x < h.length) :
    foldF f (h.drop x) x q = bif (f q (h.getD x (Ty.zero Change))).1 != 0 then ((x : Int), (f q (h.getD x (Ty.zero Change))).1, q) else foldF f (h.drop (x + 1)) (x + 1) (f q (h.getD x (Ty.zero Change))).2 := by
  rw [List.drop_eq_getElem_cons hx]
  have : h.getD x (Ty.zero Change) = h[x] := by rw [List.getD_eq_getElem?_getD, List.getElem?_eq_getElem hx]; rfl
  rw [this]
  rfl
theorem runF_next {σ : Type} (f : σ → Ch → Int × σ) {h : List Ch} {x : Nat} (q : σ) (hx : x < h.length) : runF f (h.take (x + 1)) q = (f (runF f (h.take x) q) (h.getD x (Ty.zero Change))).2 := by
  rw [take_next (Ty.zero Change) hx]
  unfold runF
  rw [List.foldl_append]
  rfl

theorem dropAt_len {α : Type} (xs : List α) (i : Int) : (dropAt xs i).length ≤ xs.length := by
  unfold dropAt
  split
  · exact Nat.le_refl _
  · simp; omega
theorem lenQ (q : Q) (x : Ch) : (applyQ q x).2.1.length ≤ q.1.length + 1 ∧ (applyQ q x).2.2.1.length ≤ q.2.1.length := by
  unfold applyQ
  split
  · exact ⟨Nat.le_succ _, Nat.le_refl _⟩
  · split
    · exact ⟨by simp, Nat.le_refl _⟩
    · split
      · have h1 := dropAt_len q.1 (atQ q.1 x.2.2.2.2.2.1)
        have h2 := dropAt_len q.2.1 (leaseQ q.2.1 x.2.2.2.2.2.1)
        exact ⟨by show (dropAt q.1 (atQ q.1 x.2.2.2.2.2.1)).length ≤ _; omega, h2⟩
      · exact ⟨Nat.le_succ _, Nat.le_refl _⟩
theorem runQ_len (f : Q → Ch → Int × Q) (hf : ∀ q x, (f q x).2.1.length ≤ q.1.length + 1 ∧ (f q x).2.2.1.length ≤ q.2.1.length) : ∀ (h : List Ch) (q : Q), (runF f h q).1.length ≤ q.1.length + h.length ∧ (runF f h q).2.1.length ≤ q.2.1.length
  | [], q => ⟨Nat.le_refl _, Nat.le_refl _⟩
  | x :: h, q => by
    have h1 := hf q x
    have h2 := runQ_len f hf h (f q x).2
    show (runF f h (f q x).2).1.length ≤ _ ∧ (runF f h (f q x).2).2.1.length ≤ _
    simp only [List.length_cons]
    omega

theorem foldQ_sat (h : List Ch) (K : SV → List AObj → Prop) (hl : h.length ≤ 1000000)
    (h0 : (foldF applyQ h 0 q0).2.1 = 0 → K (.tup [.one (.ptr 0 0), .one (.int .i64 (foldF applyQ h 0 q0).1), .one (.int .i64 0)]) [qC 1 2 (foldF applyQ h 0 q0).2.2.2.2, tR (foldF applyQ h 0 q0).2.2.1, lR (foldF applyQ h 0 q0).2.2.2.1])
    (h1 : (foldF applyQ h 0 q0).2.1 ≠ 0 → K (.tup [.one .nilp, .one (.int .i64 (foldF applyQ h 0 q0).1), .one (.int .i64 (foldF applyQ h 0 q0).2.1)]) []) :
    Sat Try.prog 20 [fc h] [] K := by
  refine fn_satE tab10 Try.func20 (nfFoldQ h _) ?_
  simp only [true_and, and_true]
  refine ⟨⟨0, ⟨rfl, rfl, rfl, rfl⟩, Nat.zero_le _, rfl⟩, fun x ⟨hx, hinv⟩ => ⟨fun hlt => ?_, fun hge => ?_⟩⟩
  · have hx' : x < h.length := by simp only [decide_eq_true_eq] at hlt; omega
    have hb := runQ_len applyQ lenQ (h.take x) q0
    have ht : (h.take x).length ≤ h.length := by rw [List.length_take]; omega
    have z1 : q0.1.length = 0 := rfl
    have z2 : q0.2.1.length = 0 := rfl
    have hst := foldF_step applyQ (runF applyQ (h.take x) q0) hx'
    have hnx := runF_next applyQ q0 hx'
    rw [hinv] at h0 h1
    refine ⟨by omega, by unfold lenMax; omega, by unfold lenMax; omega, fun r hr => ⟨fun hne => ?_, fun he => ?_⟩⟩
    · have hr' : applyQ (runF applyQ (h.take x) q0) (h.getD x (Ty.zero Change)) = r := hr.symm
      rw [hst, hr', hne] at h1
      refine h1 ?_
      simpa using hne
    · have hr' : applyQ (runF applyQ (h.take x) q0) (h.getD x (Ty.zero Change)) = r := hr.symm
      rw [hr', he] at hst
      rw [hr'] at hnx
      refine ⟨x + 1, ⟨by rw [wr_eq (by omega) (by omega)]; rfl, by rw [hnx], by rw [hnx], by rw [hnx]⟩, ⟨by omega, ?_⟩, by omega⟩
      rw [hinv, hst, hnx]; rfl
  · have hx' : x = h.length := by simp only [decide_eq_false_iff_not] at hge; omega
    subst hx'
    rw [List.drop_length] at hinv
    rw [hinv] at h0
    exact h0 rfl

theorem foldR_sat (h : List Ch) (K : SV → List AObj → Prop) (hl : h.length ≤ 1000000)
    (h0 : (foldF applyR h 0 q0).2.1 = 0 → K (.tup [.one (.ptr 0 0), .one (.int .i64 (foldF applyR h 0 q0).1), .one (.int .i64 0)]) [rC (foldF applyR h 0 q0).2.2.1 (foldF applyR h 0 q0).2.2.2.1 (foldF applyR h 0 q0).2.2.2.2])
    (h1 : (foldF applyR h 0 q0).2.1 ≠ 0 → K (.tup [.one .nilp, .one (.int .i64 (foldF applyR h 0 q0).1), .one (.int .i64 (foldF applyR h 0 q0).2.1)]) []) :
    Sat Try.prog 21 [fc h] [] K := by
  refine fn_satE tab10 Try.func21 (nfFoldR h _) ?_
  simp only [true_and, and_true]
  refine ⟨⟨0, ⟨rfl, rfl, rfl, rfl⟩, Nat.zero_le _, rfl⟩, fun x ⟨hx, hinv⟩ => ⟨fun hlt => ?_, fun hge => ?_⟩⟩
  · have hx' : x < h.length := by simp only [decide_eq_true_eq] at hlt; omega
    have hb := runQ_len applyR lenR (h.take x) q0
    have ht : (h.take x).length ≤ h.length := by rw [List.length_take]; omega
    have z1 : q0.1.length = 0 := rfl
    have z2 : q0.2.1.length = 0 := rfl
    have hst := foldF_step applyR (runF applyR (h.take x) q0) hx'
    have hnx := runF_next applyR q0 hx'
    rw [hinv] at h0 h1
    refine ⟨by omega, by unfold lenMax; omega, by unfold lenMax; omega, fun r hr => ⟨fun hne => ?_, fun he => ?_⟩⟩
    · have hr' : applyR (runF applyR (h.take x) q0) (h.getD x (Ty.zero Change)) = r := hr.symm
      rw [hst, hr', hne] at h1
      refine h1 ?_
      simpa using hne
    · have hr' : applyR (runF applyR (h.take x) q0) (h.getD x (Ty.zero Change)) = r := hr.symm
      rw [hr', he] at hst
      rw [hr'] at hnx
      refine ⟨x + 1, ⟨by rw [wr_eq (by omega) (by omega)]; rfl, by rw [hnx], by rw [hnx], by rw [hnx]⟩, ⟨by omega, ?_⟩, by omega⟩
      rw [hinv, hst, hnx]; rfl
  · have hx' : x = h.length := by simp only [decide_eq_false_iff_not] at hge; omega
    subst hx'
    rw [List.drop_length] at hinv
    rw [hinv] at h0
    exact h0 rfl

theorem sat_FoldQ : ∀ vs H K, S_FoldQ.cps vs H K → Sat Try.prog 20 vs H K := by
  intro vs H K h
  unfold S_FoldQ at h
  dsimp only at h
  split at h
  · exact foldQ_sat _ K h.1 (h.2 _ rfl).1 (h.2 _ rfl).2
  · exact h.elim
theorem sat_FoldR : ∀ vs H K, S_FoldR.cps vs H K → Sat Try.prog 21 vs H K := by
  intro vs H K h
  unfold S_FoldR at h
  dsimp only at h
  split at h
  · exact foldR_sat _ K h.1 (h.2 _ rfl).1 (h.2 _ rfl).2
  · exact h.elim

theorem filter_next {α : Type} (z : α) (p : α → Bool) {ls : List α} {x : Nat} (h : x < ls.length) : (ls.take (x + 1)).filter p = if p (ls.getD x z) = true then (ls.take x).filter p ++ [ls.getD x z] else (ls.take x).filter p := by
  rw [take_next z h, List.filter_append]
  split
  · rename_i q; simp only [List.filter_cons, List.filter_nil, q, if_true]
  · rename_i q; simp only [List.filter_cons, List.filter_nil, q]; simp

theorem sat_Leases : ∀ vs H K, S_Leases.cps vs H K → Sat Try.prog 24 vs H K := by
  intro vs H K h
  unfold S_Leases at h
  dsimp only at h
  split at h
  · rename_i e t p xs ls
    obtain ⟨hl, hK⟩ := h
    unfold lenMax at hl
    refine fn_satE tab10 Try.func24 (nfLeases p e t xs ls _) ?_
    simp only [true_and, and_true]
    refine ⟨⟨0, ⟨rfl, rfl⟩, Nat.zero_le _⟩, fun x hx => ⟨fun h => ?_, fun h => ?_⟩⟩
    · have hx' : x < ls.length := by simp only [decide_eq_true_eq] at h; omega
      have hf : ((ls.take x).filter (liveL e t)).length ≤ ls.length := by
        have h1 := List.length_filter_le (liveL e t) (ls.take x)
        have h2 : (ls.take x).length ≤ ls.length := by rw [List.length_take]; omega
        omega
      have hn := filter_next (Ty.zero Lease) (liveL e t) hx'
      refine ⟨by omega, hx', fun h2 => ⟨by simp only [List.length_singleton]; omega, by simp only [List.length_singleton]; omega, x + 1, ⟨by rw [wr_eq (by omega) (by omega)]; rfl, ?_⟩, by omega, by omega⟩, fun h2 => ⟨x + 1, ⟨by rw [wr_eq (by omega) (by omega)]; rfl, ?_⟩, by omega, by omega⟩⟩
      · have h3 : liveL e t (ls.getD x (Ty.zero Lease)) = true := h2
        rw [hn, if_pos h3]
      · have h3 : liveL e t (ls.getD x (Ty.zero Lease)) = false := h2
        rw [hn, if_neg (by rw [h3]; simp)]
    · have hx' : x = ls.length := by simp only [decide_eq_false_iff_not] at h; omega
      subst hx'
      rw [List.take_length]
      exact hK
  · exact h.elim

theorem find_idx {α : Type} (p : α → Bool) : ∀ (l : List α), match l.find? p with
    | some x => l[l.findIdx p]? = some x ∧ l.any p = true
    | none => l.any p = false
  | [] => rfl
  | a :: l => by
    have ih := find_idx p l
    cases q : p a with
    | true => simp [List.find?_cons, List.findIdx_cons, q]
    | false =>
      simp only [List.find?_cons, q]
      cases hf : l.find? p with
      | none => rw [hf] at ih; simp [q, ih]
      | some x => rw [hf] at ih; simp [List.findIdx_cons, q, ih]

theorem sat_Holds : ∀ vs H K, S_Holds.cps vs H K → Sat Try.prog 29 vs H K := by
  intro vs H K h
  unfold S_Holds at h
  dsimp only at h
  split at h
  · rename_i c e i t p xs ls
    obtain ⟨hl, hK⟩ := h
    refine fn_satE tab10 Try.func29 (nfHolds p c e i t xs ls _) ?_
    have hi := idxE_lt (fun w : Le => w.1 == i) ls
    have hi : -1 ≤ leaseQ ls i ∧ leaseQ ls i < ls.length := hi
    have hb : decide (leaseQ ls i ≥ 0) = true → (0 : Int) ≤ leaseQ ls i ∧ leaseQ ls i < (ls.length : Int) := fun h => by simp only [decide_eq_true_eq] at h; omega
    have hb' : decide (leaseQ ls i ≥ 0) = true → (leaseQ ls i).toNat < ls.length := fun h => by have := hb h; omega
    have key : holdsQ ls c e i t = ((decide (leaseQ ls i ≥ 0) && (ls.getD (leaseQ ls i).toNat (Ty.zero Lease)).2.1 == c) && liveL e t (ls.getD (leaseQ ls i).toNat (Ty.zero Lease))) := by
      have hf := find_idx (fun l : Le => l.1 == i) ls
      unfold holdsQ leaseQ idxE
      cases hq : ls.find? (fun l : Le => l.1 == i) with
      | none =>
        rw [hq] at hf
        have hf' : (ls.any fun w => w.1 == i) = false := hf
        rw [hf']
        rfl
      | some l =>
        rw [hq] at hf
        have hf' : (ls.any fun w => w.1 == i) = true := hf.2
        rw [hf']
        have hg : ls.getD (ls.findIdx fun w => w.1 == i) (Ty.zero Lease) = l := by rw [List.getD_eq_getElem?_getD, hf.1]; rfl
        simp only [if_true, Int.toNat_natCast, hg]
        have : decide (((ls.findIdx fun w => w.1 == i : Nat) : Int) ≥ 0) = true := decide_eq_true (by omega)
        rw [this, Bool.true_and]
    rw [key] at hK
    simp only [sgnB]
    refine ⟨hl, hb, hb', fun h => hb (by rw [Bool.and_eq_true] at h; exact h.1), fun h => hb' (by rw [Bool.and_eq_true] at h; exact h.1), fun h => ?_, fun h => ?_⟩
    · rw [h, Bool.true_and] at hK; exact hK
    · rw [h, Bool.false_and] at hK; exact hK
  · exact h.elim

theorem copyQ_sat (xs : List Tm) (ls : List Le) (p : Int) (K : SV → List AObj → Prop) (h1 : xs.length ≤ lenMax) (h2 : ls.length ≤ lenMax) (hK : K (pv 3) [qC 1 2 p, tR xs, lR ls, qC 4 5 p, tR xs, lR ls]) :
    Sat Try.prog 33 [pv 0] [qC 1 2 p, tR xs, lR ls] K := by
  refine fn_satE tab10 Try.func33 (nfCopyQ p xs ls _) ?_
  repeat' (first | apply And.intro | intro _)
  all_goals first | trivial | exact h1 | exact h2 | exact hK
theorem sat_CopyQ : ∀ vs H K, S_CopyQ.cps vs H K → Sat Try.prog 33 vs H K := by
  intro vs H K h
  unfold S_CopyQ at h
  dsimp only at h
  split at h
  · exact copyQ_sat _ _ _ K h.1 h.2.1 h.2.2
  · exact h.elim
end Go.Proofs.Ythjogeodclpafaa.AM
end

section
set_option linter.unusedVariables false
set_option linter.unusedSimpArgs false
set_option maxRecDepth 100000
namespace Go.Proofs.Ythjogeodclpafaa.AM
open Go Go.Proofs.Ythjogeodclpafaa

theorem lens_eq {m n : Nat} (h : ((m : Int) != (n : Int)) = false) : m = n := by
  have : (m : Int) = (n : Int) := by simpa using h
  omega
theorem equal_law {α : Type} [DecidableEq α] (z : α) (eqb : α → α → Bool) (heqb : ∀ a b, eqb a b = decide (a = b)) (a b : List α) (K : SV → List AObj → Prop) (hl : a.length ≤ lenMax) (hK : K (bv (decide (a = b))) []) :
    ((((a.length : Int) != (b.length : Int)) = true → K (bv false) []) ∧ (((a.length : Int) != (b.length : Int)) = false → (∃ (y : Nat), ((0 : Int) = (y : Int)) ∧ y ≤ a.length ∧ a.take y = b.take y) ∧ ∀ (x : Nat), x ≤ a.length ∧ a.take x = b.take x → (decide ((x : Int) < (a.length : Int)) = true → ((0 : Int) ≤ (x : Int) ∧ (x : Int) < (a.length : Int)) ∧ ((0 : Int) ≤ (x : Int) ∧ (x : Int) < (b.length : Int)) ∧
      ((!eqb (a.getD x z) (b.getD x z)) = true → K (bv false) []) ∧ ((!eqb (a.getD x z) (b.getD x z)) = false → ∃ (y : Nat), (wr ((x : Int) + (1 : Int)) = (y : Int)) ∧ (y ≤ a.length ∧ a.take y = b.take y) ∧ a.length - y < a.length - x)) ∧ (decide ((x : Int) < (a.length : Int)) = false → K (bv true) []))) := by
  unfold lenMax at hl
  refine ⟨fun h => ?_, fun h => ⟨⟨0, rfl, Nat.zero_le _, rfl⟩, fun x ⟨hx, he⟩ => ⟨fun hlt => ⟨?_, ?_, fun hn => ?_, fun hq => ?_⟩, fun hge => ?_⟩⟩⟩
  · have : a ≠ b := fun e => by subst e; simp at h
    rw [decide_eq_false this] at hK; exact hK
  · simp only [decide_eq_true_eq] at hlt; omega
  · simp only [decide_eq_true_eq] at hlt
    have hab : a.length = b.length := lens_eq h
    omega
  · have : a ≠ b := take_ne z (k := x) (by rw [heqb] at hn; simpa using hn)
    rw [decide_eq_false this] at hK; exact hK
  · simp only [decide_eq_true_eq] at hlt
    have hab : a.length = b.length := lens_eq h
    exact ⟨x + 1, by rw [wr_eq (by omega) (by omega)]; rfl, ⟨by omega, take_step z (by omega) (by omega) he (by rw [heqb] at hq; simpa using hq)⟩, by omega⟩
  · simp only [decide_eq_false_iff_not] at hge
    have hab : a.length = b.length := lens_eq h
    have : a = b := take_all hab (by omega) he
    rw [decide_eq_true this] at hK; exact hK

theorem equalT_sat (a b : List Tm) (K : SV → List AObj → Prop) (hl : a.length ≤ lenMax) (hK : K (bv (decide (a = b))) []) : Sat Try.prog 57 [ft a, ft b] [] K := by
  refine fn_satE (look_nil _) Try.func57 (nfEqualT a b _) ?_
  have := equal_law (Ty.zero Item) (Ty.eqb Item) eqb_item a b K hl hK
  simp only [true_and, and_true] at this ⊢
  exact this
theorem sameT_sat (a b : List Tm) (K : SV → List AObj → Prop) (hl : a.length ≤ lenMax) (hK : K (bv (decide (a = b))) []) : Sat Try.prog 22 [ft a, ft b] [] K := by
  refine fn_satE (look_nil _) Try.func22 (nfSameT a b _) ?_
  have := equal_law (Ty.zero Item) (Ty.eqb Item) eqb_item a b K hl hK
  simp only [true_and, and_true] at this ⊢
  exact this
theorem sameL_sat (a b : List Le) (K : SV → List AObj → Prop) (hl : a.length ≤ lenMax) (hK : K (bv (decide (a = b))) []) : Sat Try.prog 36 [fl a, fl b] [] K := by
  refine fn_satE (look_nil _) Try.func36 (nfSameL a b _) ?_
  have := equal_law (Ty.zero Lease) (Ty.eqb Lease) eqb_lease a b K hl hK
  simp only [true_and, and_true] at this ⊢
  exact this
theorem sat_EqualT : ∀ vs H K, S_EqualT.cps vs H K → Sat Try.prog 57 vs H K := by
  intro vs H K h
  unfold S_EqualT at h
  dsimp only at h
  split at h
  · exact equalT_sat _ _ K h.1 h.2
  · exact h.elim
theorem sat_SameT : ∀ vs H K, S_EqualT.cps vs H K → Sat Try.prog 22 vs H K := by
  intro vs H K h
  unfold S_EqualT at h
  dsimp only at h
  split at h
  · exact sameT_sat _ _ K h.1 h.2
  · exact h.elim
theorem sat_SameL : ∀ vs H K, S_SameL.cps vs H K → Sat Try.prog 36 vs H K := by
  intro vs H K h
  unfold S_SameL at h
  dsimp only at h
  split at h
  · exact sameL_sat _ _ K h.1 h.2
  · exact h.elim

theorem few_sat (l : List Ch) (n : Int) (K : SV → List AObj → Prop) (hl : n ≤ 1099511627776) (hK : K (bv (fewB l n)) []) : Sat Try.prog 17 [fc l, iv n] [] K := by
  refine fn_satE tabB6 Try.func17 (nfFew l n _) ?_
  simp only [true_and, and_true]
  refine ⟨⟨0, rfl, Nat.zero_le _, rfl⟩, fun x ⟨hx, ha⟩ => ⟨fun h => ?_, fun h => ?_⟩⟩
  · simp only [Bool.and_eq_true, decide_eq_true_eq] at h
    have hx' : x < l.length := by omega
    refine ⟨by omega, fun h2 => ?_, fun h2 => ⟨x + 1, by rw [wr_eq (by omega) (by omega)]; rfl, ⟨by omega, ?_⟩, by omega⟩⟩
    · have h3 : shortC (l.getD x (Ty.zero Change)) = false := by rw [← Bool.not_eq_true']; exact h2
      have h4 : l.all shortC = false := by
        rw [List.all_eq_false]
        exact ⟨_, getD_mem (Ty.zero Change) hx', by rw [h3]; simp⟩
      unfold fewB at hK
      rw [h4, Bool.and_false] at hK
      exact hK
    · have h3 : shortC (l.getD x (Ty.zero Change)) = true := by rw [← Bool.not_eq_false']; exact h2
      rw [take_next (Ty.zero Change) hx', List.all_append, ha]
      simp only [List.all_cons, List.all_nil, h3, Bool.and_true]
  · unfold fewB at hK
    by_cases hn : (l.length : Int) ≤ n
    · have hx' : x = l.length := by
        rw [decide_eq_true hn, Bool.and_true] at h
        simp only [decide_eq_false_iff_not] at h
        omega
      subst hx'
      rw [List.take_length] at ha
      rw [ha, Bool.and_true] at hK
      exact hK
    · rw [decide_eq_false hn] at hK ⊢
      exact hK
theorem sat_Few : ∀ vs H K, S_Few.cps vs H K → Sat Try.prog 17 vs H K := by
  intro vs H K h
  unfold S_Few at h
  dsimp only at h
  split at h
  · exact few_sat _ _ K h.1 h.2
  · exact h.elim

theorem live25_sat (xs : List Tm) (ls : List Le) (p e i t : Int) (K : SV → List AObj → Prop) (hl : ls.length ≤ lenMax) (hK : K (.tup [leT (findR ls e i t).1, .one (.bool (findR ls e i t).2)]) [rC xs ls p]) :
    Sat Try.prog 56 [pv 0, iv e, iv i, iv t] [rC xs ls p] K := by
  refine fn_satE (look_nil _) Try.func56 (nfLive25 xs ls p e i t _) ?_
  unfold lenMax at hl
  simp only [true_and, and_true]
  refine ⟨⟨0, rfl, Nat.zero_le _⟩, fun x hx => ⟨fun h => ?_, fun h => ?_⟩⟩
  · have hx' : x < ls.length := by simp only [decide_eq_true_eq] at h; omega
    refine ⟨by omega, fun h2 => ?_, fun h2 => ⟨x + 1, by rw [wr_eq (by omega) (by omega)]; rfl, fi_succ (Ty.zero Lease) _ x hx hx' h2, by omega⟩⟩
    have hf := find_at (p := liveR e i t) (Ty.zero Lease) ls x hx hx' h2
    unfold findR at hK
    rw [hf] at hK
    exact hK
  · have hx' : ls.length ≤ x := by simp only [decide_eq_false_iff_not] at h; omega
    have hf := find_end (p := liveR e i t) ls (Nat.le_trans hx' hx)
    unfold findR at hK
    rw [hf] at hK
    exact hK
theorem sat_live25 : ∀ vs H K, S_live25.cps vs H K → Sat Try.prog 56 vs H K := by
  intro vs H K h
  unfold S_live25 at h
  dsimp only at h
  split at h
  · exact live25_sat _ _ _ _ _ _ K h.1 (h.2 _ rfl)
  · exact h.elim

theorem tab11 : TabOK Try.prog (look L11) := by
  unfold L11
  exact look_cons (look_cons (look_cons (look_cons (look_cons (look_cons (look_cons (look_cons (look_cons (look_cons (look_cons tab10 (inl_sat (look_nil _) Try.func32)) sat_live25) sat_Few) sat_SameL) sat_SameT) sat_EqualT) sat_CopyQ) sat_Holds) sat_Leases) sat_FoldR) sat_FoldQ

theorem take25_sat (xs : List Tm) (ls : List Le) (p c e t h : Int) (K : SV → List AObj → Prop) (hl1 : xs.length ≤ lenMax) (hl2 : ls.length ≤ lenMax) (hK : K (tkV (takeR (xs, ls, p) c e t h).1) [rC xs (takeR (xs, ls, p) c e t h).2.2.1 p]) :
    Sat Try.prog 35 [pv 0, iv c, iv e, iv t, iv h] [rC xs ls p] K := by
  refine Sat.frozen [0] [] (fn_satE tab11 Try.func35 (nfTake25 xs ls p c e t h _) ?_)
  have hl2' := hl2
  unfold lenMax at hl1 hl2'
  have hb : badT c e t h = (decide (c < (1 : Int)) || decide (c > (8 : Int)) || decide (e < (1 : Int)) || decide (e > (1048576 : Int)) || decide (t < (0 : Int)) || decide (t > (1073741824 : Int)) || decide (h < (1 : Int)) || decide (h > (1000 : Int))) := rfl
  rw [← hb]
  unfold takeR at hK
  cases hq : badT c e t h with
  | true =>
    rw [hq] at hK
    simp only [cond_true, true_implies, Bool.true_eq_false, false_implies, and_true] at hK ⊢
    refine Eq.mp ?_ hK
    kernel_rfl
  | false =>
    have hw : wr (t + h) = t + h := by
      rw [hq] at hb
      have hb := hb.symm
      simp only [Bool.or_eq_false_iff, decide_eq_false_iff_not] at hb
      exact wr_eq (by omega) (by omega)
    rw [hw]
    rw [hq] at hK
    simp only [cond_false, true_implies, Bool.false_eq_true, false_implies, true_and, and_true] at hK ⊢
    refine ⟨⟨0, rfl, Nat.zero_le _⟩, fun x hx => ⟨fun q => ?_, fun q => ?_⟩⟩
    · have hx' : x < xs.length := by simp only [decide_eq_true_eq] at q; omega
      refine ⟨by omega, hl2, fun r hr => ⟨fun hn => ?_, fun hn => ?_⟩⟩
      · have hf : freeR ls e t (xs.getD x (Ty.zero Item)) = true := by unfold freeR; rw [← hr]; exact hn
        have hfind := find_at (p := freeR ls e t) (Ty.zero Item) xs x hx hx' hf
        have hfind' : xs.find? (fun x => !(findR ls e x.1 t).2) = some (xs.getD x (Ty.zero Item)) := hfind
        rw [hfind'] at hK
        have hd := dropR_len ls (xs.getD x (Ty.zero Item)).1
        refine ⟨hl2, by simp only [List.length_singleton]; omega, by simp only [List.length_singleton]; omega, ?_⟩
        refine Eq.mp ?_ hK
        kernel_rfl
      · have hf : freeR ls e t (xs.getD x (Ty.zero Item)) = false := by unfold freeR; rw [← hr]; exact hn
        exact ⟨x + 1, by rw [wr_eq (by omega) (by omega)]; rfl, fi_succ (Ty.zero Item) _ x hx hx' hf, by omega⟩
    · have hx' : xs.length ≤ x := by simp only [decide_eq_false_iff_not] at q; omega
      have hfind := find_end (p := freeR ls e t) xs (Nat.le_trans hx' hx)
      have hfind' : xs.find? (fun x => !(findR ls e x.1 t).2) = none := hfind
      rw [hfind'] at hK
      refine Eq.mp ?_ hK
      kernel_rfl
theorem sat_take25 : ∀ vs H K, S_take25.cps vs H K → Sat Try.prog 35 vs H K := by
  intro vs H K h
  unfold S_take25 at h
  dsimp only at h
  split at h
  · exact take25_sat _ _ _ _ _ _ _ K h.1 h.2.1 (h.2.2 _ rfl)
  · exact h.elim

theorem leasesR_next {xs : List Tm} {x : Nat} (ls : List Le) (p e t : Int) (h : x < xs.length) : leasesR (xs.take (x + 1), ls, p) e t = if (findR ls e (xs.getD x (Ty.zero Item)).1 t).2 = true then leasesR (xs.take x, ls, p) e t ++ [(findR ls e (xs.getD x (Ty.zero Item)).1 t).1] else leasesR (xs.take x, ls, p) e t := by
  unfold leasesR
  have := filter_next (Ty.zero Item) (fun y : Tm => (findR ls e y.1 t).2) h
  dsimp only
  rw [this]
  split
  · rw [List.map_append]; rfl
  · rfl
theorem leasesR_len (xs : List Tm) (ls : List Le) (p e t : Int) : (leasesR (xs, ls, p) e t).length ≤ xs.length := by
  unfold leasesR
  rw [List.length_map]
  exact List.length_filter_le _ _

theorem leases25_sat (xs : List Tm) (ls : List Le) (p e t : Int) (K : SV → List AObj → Prop) (hl1 : xs.length ≤ lenMax) (hl2 : ls.length ≤ lenMax) (hK : K (hv 1) [rC xs ls p, lR (leasesR (xs, ls, p) e t)]) :
    Sat Try.prog 37 [pv 0, iv e, iv t] [rC xs ls p] K := by
  refine fn_satE tab11 Try.func37 (nfLeases25 xs ls p e t _) ?_
  unfold lenMax at hl1
  simp only [true_and, and_true]
  refine ⟨⟨0, ⟨rfl, rfl⟩, Nat.zero_le _⟩, fun x hx => ⟨fun h => ?_, fun h => ?_⟩⟩
  · have hx' : x < xs.length := by simp only [decide_eq_true_eq] at h; omega
    have hn := leasesR_next ls p e t hx'
    have hle := leasesR_len (xs.take x) ls p e t
    have ht : (xs.take x).length ≤ xs.length := by rw [List.length_take]; omega
    refine ⟨by omega, hl2, fun r hr => ⟨fun h2 => ⟨by simp only [List.length_singleton]; omega, by simp only [List.length_singleton]; omega, x + 1, ⟨by rw [wr_eq (by omega) (by omega)]; rfl, ?_⟩, by omega, by omega⟩, fun h2 => ⟨x + 1, ⟨by rw [wr_eq (by omega) (by omega)]; rfl, ?_⟩, by omega, by omega⟩⟩⟩
    · rw [hn, ← hr, if_pos h2]
    · rw [hn, ← hr, if_neg (by rw [h2]; simp)]
  · have hx' : x = xs.length := by simp only [decide_eq_false_iff_not] at h; omega
    subst hx'
    rw [List.take_length]
    exact hK
theorem sat_leases25 : ∀ vs H K, S_leases25.cps vs H K → Sat Try.prog 37 vs H K := by
  intro vs H K h
  unfold S_leases25 at h
  dsimp only at h
  split at h
  · exact leases25_sat _ _ _ _ _ K h.1 h.2.1 h.2.2
  · exact h.elim

theorem sameQ_sat (xs xs' : List Tm) (ls ls' : List Le) (p p' : Int) (K : SV → List AObj → Prop) (hl : xs.length ≤ lenMax) (hK : K (bv ((p == p') && decide (xs = xs'))) [qC 2 3 p, qC 4 5 p', tR xs, lR ls, tR xs', lR ls']) :
    Sat Try.prog 40 [pv 0, pv 1] [qC 2 3 p, qC 4 5 p', tR xs, lR ls, tR xs', lR ls'] K := by
  refine fn_satE tab11 Try.func40 (nfSameQ xs xs' ls ls' p p' _) ?_
  refine ⟨fun _ => ⟨hl, hK⟩, fun h => ?_⟩
  have h : (p == p') = false := h
  rw [h] at hK ⊢
  exact hK
theorem sat_SameQ : ∀ vs H K, S_SameQ.cps vs H K → Sat Try.prog 40 vs H K := by
  intro vs H K h
  unfold S_SameQ at h
  dsimp only at h
  split at h
  · exact sameQ_sat _ _ _ _ _ _ K h.1 h.2
  · exact h.elim
theorem sameR_sat (xs xs' : List Tm) (ls ls' : List Le) (p p' : Int) (K : SV → List AObj → Prop) (hl : xs.length ≤ lenMax) (hK : K (bv (decide (xs = xs') && (p == p'))) [rC xs ls p, rC xs' ls' p']) :
    Sat Try.prog 41 [pv 0, pv 1] [rC xs ls p, rC xs' ls' p'] K := by
  refine fn_satE tab11 Try.func41 (nfSameR xs xs' ls ls' p p' _) ?_
  exact ⟨hl, hK⟩
theorem sat_SameR : ∀ vs H K, S_SameR.cps vs H K → Sat Try.prog 41 vs H K := by
  intro vs H K h
  unfold S_SameR at h
  dsimp only at h
  split at h
  · exact sameR_sat _ _ _ _ _ _ K h.1 h.2
  · exact h.elim

theorem tab12 : TabOK Try.prog (look L12) := by
  unfold L12
  exact look_cons (look_cons (look_cons (look_cons (look_cons tab11 (inl_sat tab11 Try.func38)) sat_SameR) sat_SameQ) sat_leases25) sat_take25
end Go.Proofs.Ythjogeodclpafaa.AM
end

section
set_option linter.unusedVariables false
set_option linter.unusedSimpArgs false
namespace Go.Proofs.Ythjogeodclpafaa.AM
open Go Go.Proofs.Ythjogeodclpafaa

/-- The same items and the same greatest number. -/
def SimI (q w : Q) : Prop := q.1 = w.1 ∧ q.2.2 = w.2.2

theorem apply_sim {q w : Q} (h : SimI q w) (x : Ch) : (applyQ q x).1 = (applyR w x).1 ∧ SimI (applyQ q x).2 (applyR w x).2 := by
  obtain ⟨qi, ql, qp⟩ := q
  obtain ⟨wi, wl, wp⟩ := w
  obtain ⟨h1, h2⟩ := h
  dsimp only at h1 h2
  subst h1 h2
  unfold applyQ applyR checkQ SimI
  dsimp only
  cases hv : validC x
  · simp
  · simp only [Bool.not_true, cond_false, Bool.true_eq_false, if_false]
    by_cases h3 : x.2.2.1 = 3
    · have e3 : (x.2.2.1 == 3) = true := beq_iff_eq.2 h3
      have n4 : ¬ x.2.2.1 = 4 := by rw [h3]; decide
      simp only [h3, e3, beq_self_eq_true, true_and, cond_true]
      by_cases h4 : x.2.1 ≤ qp
      · simp [h4]
      · simp only [h4, decide_false, cond_false, if_false]
        by_cases h5 : qi.length ≥ 16
        · have : ((qi.length : Int) ≥ 16) := by omega
          simp [h5, this]
        · have : ¬ ((qi.length : Int) ≥ 16) := by omega
          simp [h5, this]
    · have e3 : (x.2.2.1 == 3) = false := beq_eq_false_iff_ne.2 h3
      simp only [h3, e3, false_and, if_false, cond_false]
      by_cases h4 : x.2.2.1 = 4
      · have e4 : (x.2.2.1 == 4) = true := beq_iff_eq.2 h4
        simp only [h4, e4, beq_self_eq_true, true_and, cond_true]
        by_cases h5 : atQ qi x.2.2.2.2.2.1 < 0
        · simp [h5]
        · simp [h5, dropAt]
      · have e4 : (x.2.2.1 == 4) = false := beq_eq_false_iff_ne.2 h4
        simp [h4, e4]

theorem fold_sim : ∀ (h : List Ch) (i : Nat) {q w : Q}, SimI q w → (foldF applyQ h i q).1 = (foldF applyR h i w).1 ∧ (foldF applyQ h i q).2.1 = (foldF applyR h i w).2.1 ∧ SimI (foldF applyQ h i q).2.2 (foldF applyR h i w).2.2
  | [], i, q, w, h => ⟨rfl, rfl, h⟩
  | x :: r, i, q, w, h => by
    obtain ⟨h1, h2⟩ := apply_sim h x
    simp only [foldF, h1]
    cases hc : ((applyR w x).1 != 0)
    · exact fold_sim r (i + 1) h2
    · exact ⟨rfl, rfl, h⟩

theorem fold_len (f : Q → Ch → Int × Q) (hf : ∀ q x, (f q x).2.1.length ≤ q.1.length + 1 ∧ (f q x).2.2.1.length ≤ q.2.1.length) : ∀ (h : List Ch) (i : Nat) (q : Q), (foldF f h i q).2.2.1.length ≤ q.1.length + h.length ∧ (foldF f h i q).2.2.2.1.length ≤ q.2.1.length
  | [], i, q => ⟨Nat.le_refl _, Nat.le_refl _⟩
  | x :: r, i, q => by
    have h1 := hf q x
    simp only [foldF]
    cases ((f q x).1 != 0)
    · have h2 := fold_len f hf r (i + 1) (f q x).2
      simp only [cond_false, List.length_cons]
      omega
    · simp only [cond_true, List.length_cons]
      omega

/-- A change behind a list that was taken. -/
theorem fold_snoc {σ : Type} (f : σ → Ch → Int × σ) (x : Ch) : ∀ (h : List Ch) (i : Nat) (q q' : σ), foldF f h i q = ((i : Int) + h.length, 0, q') →
    foldF f (h ++ [x]) i q = bif (f q' x).1 != 0 then ((i : Int) + h.length, (f q' x).1, q') else ((i : Int) + (h ++ [x]).length, 0, (f q' x).2)
  | [], i, q, q', e => by
    simp only [foldF, Prod.mk.injEq] at e
    obtain ⟨_, _, rfl⟩ := e
    simp [foldF]
  | y :: r, i, q, q', e => by
    simp only [List.cons_append, foldF] at e ⊢
    cases hc : ((f q y).1 != 0)
    · rw [hc] at e
      simp only [cond_false] at e ⊢
      have e' : foldF f r (i + 1) (f q y).2 = (((i + 1 : Nat) : Int) + r.length, 0, q') := by
        rw [e]; simp only [List.length_cons]; congr 1; omega
      rw [fold_snoc f x r (i + 1) _ _ e']
      have a1 : ((i + 1 : Nat) : Int) + (r.length : Int) = (i : Int) + ((y :: r).length : Int) := by simp only [List.length_cons]; omega
      have a2 : ((i + 1 : Nat) : Int) + ((r ++ [x]).length : Int) = (i : Int) + ((y :: (r ++ [x])).length : Int) := by simp only [List.length_cons]; omega
      rw [a1, a2]
    · rw [hc] at e
      simp only [cond_true, Prod.mk.injEq] at e
      obtain ⟨e1, _⟩ := e
      simp only [List.length_cons] at e1
      omega

/-! ### What is known of histories -/
def seqC (x : Ch) : Int := x.2.1
def itemC (x : Ch) : Int := x.2.2.2.2.2.1
def numT (a : Tm) : Int := a.1
structure Inv (s : CP) : Prop where
  valid : ∀ (i : Nat) (x : Ch), s.h[i]? = some x → validC x = true ∧ seqC x = (i : Int) + 1
  fold : foldF applyR s.h 0 q0 = ((s.h.length : Int), 0, s.q)
  waits : s.q.1 = waitsF s.h s.h
  asc : s.q.1.Pairwise fun a b => a.1 < b.1
  most : ∀ a ∈ s.q.1, numT a ≤ (s.h.length : Int)

theorem getElem?_snoc {α : Type} {l : List α} {x y : α} {i : Nat} (h : (l ++ [x])[i]? = some y) : (i < l.length ∧ l[i]? = some y) ∨ (i = l.length ∧ y = x) := by
  rw [List.getElem?_append] at h
  split at h
  · exact .inl ⟨by assumption, h⟩
  · rename_i q
    have : i - l.length = 0 := by
      cases hh : i - l.length with
      | zero => rfl
      | succ n => rw [hh] at h; simp at h
    rw [this] at h
    simp at h
    exact .inr ⟨by omega, h.symm⟩

theorem valid_kind4 {x : Ch} (h : validC x = true) (hk : x.2.2.1 = 4) : itemC x < seqC x := by
  have hb := (valid_head h).2
  unfold bodyC at hb
  rw [if_neg (by rw [hk]; decide), if_neg (by rw [hk]; decide), if_neg (by rw [hk]; decide), if_pos hk] at hb
  simp only [Bool.and_eq_true, decide_eq_true_eq] at hb
  exact hb.2

theorem waits_other {h : List Ch} {x : Ch} (h3 : x.2.2.1 ≠ 3) (h4 : x.2.2.1 ≠ 4) : waitsF (h ++ [x]) (h ++ [x]) = waitsF h h := by
  have e3 : (x.2.2.1 == 3) = false := beq_eq_false_iff_ne.2 h3
  have e4 : ∀ y : Ch, closesB y x = true := fun y => by unfold closesB; rw [bne_iff_ne.2 h4]; rfl
  have ew : ∀ y, waitB (h ++ [x]) y = waitB h y := fun y => by unfold waitB; rw [List.all_append]; simp [e4]
  unfold waitsF
  rw [List.filter_append]
  have : [x].filter (waitB (h ++ [x])) = [] := by simp [waitB, e3]
  rw [this, List.append_nil]
  congr 1
  exact List.filter_congr fun y _ => ew y

theorem waits_push {h : List Ch} {x : Ch} (hk : x.2.2.1 = 3) (hc : ∀ y ∈ h, closesB x y = true) : waitsF (h ++ [x]) (h ++ [x]) = waitsF h h ++ [(x.2.1, x.2.2.2.2.2.2.2)] := by
  have e3 : (x.2.2.1 == 3) = true := beq_iff_eq.2 hk
  have e4 : ∀ y : Ch, closesB y x = true := fun y => by unfold closesB; rw [bne_iff_ne.2 (by rw [hk]; decide)]; rfl
  have ew : ∀ y, waitB (h ++ [x]) y = waitB h y := fun y => by unfold waitB; rw [List.all_append]; simp [e4]
  unfold waitsF
  rw [List.filter_append]
  have hx : waitB (h ++ [x]) x = true := by
    unfold waitB
    rw [e3, Bool.true_and, List.all_append, Bool.and_eq_true]
    exact ⟨List.all_eq_true.2 hc, by simp [e4]⟩
  have : [x].filter (waitB (h ++ [x])) = [x] := by simp [hx]
  rw [this, List.map_append]
  congr 1
  congr 1
  exact List.filter_congr fun y _ => ew y

theorem waits_done {h : List Ch} {x : Ch} (hk : x.2.2.1 = 4) : waitsF (h ++ [x]) (h ++ [x]) = (waitsF h h).filter fun a => a.1 != x.2.2.2.2.2.1 := by
  have e3 : (x.2.2.1 == 3) = false := beq_eq_false_iff_ne.2 (by rw [hk]; decide)
  have e4 : ∀ y : Ch, closesB y x = (y.2.1 != x.2.2.2.2.2.1) := fun y => by
    unfold closesB
    have : (x.2.2.1 != 4) = false := by rw [hk]; rfl
    rw [this, Bool.false_or]
    rw [Bool.eq_iff_iff, bne_iff_ne, bne_iff_ne]
    exact ⟨fun a b => a b.symm, fun a b => a b.symm⟩
  have ew : ∀ y, waitB (h ++ [x]) y = ((y.2.1 != x.2.2.2.2.2.1) && waitB h y) := fun y => by
    unfold waitB
    rw [List.all_append]
    simp only [List.all_cons, List.all_nil, e4, Bool.and_true]
    cases (y.2.2.1 == 3) <;> cases h.all (closesB y) <;> cases (y.2.1 != x.2.2.2.2.2.1) <;> rfl
  unfold waitsF
  rw [List.filter_append]
  have : [x].filter (waitB (h ++ [x])) = [] := by simp [waitB, e3]
  rw [this, List.append_nil, List.filter_map]
  congr 1
  rw [List.filter_filter]
  exact List.filter_congr fun y _ => ew y

/-- What stands at the place is taken out: one element, where all are different. -/
theorem del_filter : ∀ {xs : List Tm} {n : Int}, (xs.Pairwise fun a b => a.1 < b.1) → 0 ≤ atQ xs n → xs.take (atQ xs n).toNat ++ xs.drop ((atQ xs n).toNat + 1) = xs.filter fun a => a.1 != n
  | [], n, _, h => by simp [atQ, idxE] at h
  | a :: r, n, hp, h => by
    obtain ⟨hp1, hp2⟩ := List.pairwise_cons.1 hp
    by_cases e : a.1 = n
    · have e1 : (a.1 == n) = true := beq_iff_eq.2 e
      have h0 : atQ (a :: r) n = 0 := by simp [atQ, idxE, List.findIdx_cons, e1]
      rw [h0]
      have hb : (a.1 != n) = false := by rw [e]; simp
      rw [List.filter_cons, if_neg (by rw [hb]; simp)]
      show [] ++ r = _
      rw [List.nil_append]
      symm
      rw [List.filter_eq_self]
      intro y hy
      have := hp1 y hy
      have ne : y.1 ≠ n := by
        intro e'
        rw [e, e'] at this
        exact Int.lt_irrefl _ this
      exact bne_iff_ne.2 ne
    · have e1 : (a.1 == n) = false := beq_eq_false_iff_ne.2 e
      have hb : (a.1 != n) = true := bne_iff_ne.2 e
      have ha : (r.any fun w => w.1 == n) = true := by
        cases q : (r.any fun w => w.1 == n) with
        | true => rfl
        | false => simp [atQ, idxE, e1, q] at h
      have h1 : atQ (a :: r) n = atQ r n + 1 := by
        simp [atQ, idxE, List.findIdx_cons, e1, ha]
      have h2 : 0 ≤ atQ r n := by simp [atQ, idxE, ha]
      rw [h1, List.filter_cons, if_pos hb]
      have ih := del_filter hp2 h2
      obtain ⟨k, hk⟩ := Int.eq_ofNat_of_zero_le h2
      rw [hk] at ih ⊢
      have t1 : (((k : Nat) : Int) + 1).toNat = k + 1 := by omega
      rw [t1]
      simp only [Int.toNat_natCast] at ih
      show a :: (r.take k ++ r.drop (k + 1)) = _
      rw [ih]

theorem inv_new : Inv new28 := by
  refine ⟨fun i x h => ?_, rfl, rfl, List.Pairwise.nil, fun a h => ?_⟩
  · simp [new28] at h
  · simp [new28] at h

theorem inv_apply {s : CP} (h : Inv s) (x : Ch) : Inv (apply28 s x).2 := by
  rcases apply28_cases s x with ⟨_, e⟩ | ⟨hv, hs, he, h26, h24, hR, e⟩
  · rw [e]; exact h
  · rw [e]
    have hvalid : ∀ (i : Nat) (y : Ch), (s.h ++ [x])[i]? = some y → validC y = true ∧ seqC y = (i : Int) + 1 := by
      intro i y hy
      rcases getElem?_snoc hy with ⟨_, hy⟩ | ⟨rfl, rfl⟩
      · exact h.valid i y hy
      · exact ⟨hv, hs⟩
    have hlt : ∀ y ∈ s.h, y.2.2.1 = 4 → itemC y < seqC x := by
      intro y hy hk
      have hs' : seqC x = (s.h.length : Int) + 1 := hs
      obtain ⟨i, hi⟩ := List.getElem?_of_mem hy
      have h1 := h.valid i y hi
      have h2 := valid_kind4 h1.1 hk
      have h3 : i < s.h.length := (List.getElem?_eq_some_iff.1 hi).1
      have h4 := h1.2
      omega
    have hf : foldF applyR (s.h ++ [x]) 0 q0 = (((s.h ++ [x]).length : Int), 0, (applyR s.q x).2) := by
      rw [fold_snoc applyR x s.h 0 q0 s.q (by rw [h.fold]; simp), hR]
      simp
    have hcases : (applyR s.q x).2 = (bif x.2.2.1 == 3 then (s.q.1 ++ [(x.2.1, x.2.2.2.2.2.2.2)], s.q.2.1, x.2.1) else bif x.2.2.1 == 4 then (s.q.1.filter (fun a => a.1 != x.2.2.2.2.2.1), dropR s.q.2.1 x.2.2.2.2.2.1, s.q.2.2) else s.q) := by
      unfold applyR at hR ⊢
      simp only [hv, Bool.not_true, cond_false] at hR ⊢
      cases h3 : (x.2.2.1 == 3) <;> simp only [h3, cond_true, cond_false] at hR ⊢
      · cases h4 : (x.2.2.1 == 4) <;> simp only [h4, cond_true, cond_false] at hR ⊢
        cases h5 : decide (atQ s.q.1 x.2.2.2.2.2.1 < 0) <;> simp only [h5, cond_true, cond_false] at hR ⊢
        · simp only [decide_eq_false_iff_not, Int.not_lt] at h5
          rw [del_filter h.asc h5]
        · exact absurd hR (by decide)
      · cases h4 : decide (x.2.1 ≤ s.q.2.2) <;> simp only [h4, cond_true, cond_false] at hR ⊢
        · cases h5 : decide ((s.q.1.length : Int) ≥ 16) <;> simp only [h5, cond_true, cond_false] at hR ⊢
          exact absurd hR (by decide)
        · exact absurd hR (by decide)
    refine ⟨hvalid, hf, ?_, ?_, ?_⟩
    · show (applyR s.q x).2.1 = _
      rw [hcases]
      cases h3 : (x.2.2.1 == 3) <;> simp only [cond_true, cond_false]
      · cases h4 : (x.2.2.1 == 4) <;> simp only [cond_true, cond_false]
        · rw [waits_other (ne_of_beq_false h3) (ne_of_beq_false h4)]; exact h.waits
        · rw [waits_done (eq_of_beq h4), ← h.waits]
      · rw [waits_push (eq_of_beq h3), ← h.waits]
        intro y hy
        unfold closesB
        by_cases hk : y.2.2.1 = 4
        · have := hlt y hy hk
          have ne : y.2.2.2.2.2.1 ≠ x.2.1 := fun e' => by
            have e' : itemC y = seqC x := e'
            omega
          rw [bne_iff_ne.2 ne, Bool.or_true]
        · rw [bne_iff_ne.2 hk]; rfl
    · show ((applyR s.q x).2.1).Pairwise _
      rw [hcases]
      cases h3 : (x.2.2.1 == 3) <;> simp only [cond_true, cond_false]
      · cases h4 : (x.2.2.1 == 4) <;> simp only [cond_true, cond_false]
        · exact h.asc
        · exact h.asc.filter _
      · rw [List.pairwise_append]
        refine ⟨h.asc, List.pairwise_singleton _ _, fun a ha b hb => ?_⟩
        rw [List.mem_singleton] at hb
        subst hb
        have := h.most a ha
        have hs' : seqC x = (s.h.length : Int) + 1 := hs
        show numT a < seqC x
        omega
    · show ∀ a ∈ (applyR s.q x).2.1, numT a ≤ ((s.h ++ [x]).length : Int)
      intro a ha
      rw [hcases] at ha
      have hl : ((s.h ++ [x]).length : Int) = (s.h.length : Int) + 1 := by simp
      rw [hl]
      cases h3 : (x.2.2.1 == 3) <;> simp only [h3, cond_true, cond_false] at ha
      · cases h4 : (x.2.2.1 == 4) <;> simp only [h4, cond_true, cond_false] at ha
        · have := h.most a ha; omega
        · have := h.most a (List.mem_filter.1 ha).1; omega
      · rcases List.mem_append.1 ha with ha | ha
        · have := h.most a ha; omega
        · rw [List.mem_singleton] at ha
          subst ha
          show seqC x ≤ (s.h.length : Int) + 1
          have hs' : seqC x = (s.h.length : Int) + 1 := hs
          omega

theorem inv_grow (l : List Int) {g : GS} (h : Inv g.c) : ∀ n, Inv (growN l n g).c
  | 0 => h
  | n + 1 => by
    have ih := inv_grow l h n
    simp only [growN]
    unfold growStep
    cases decide ((growN l n g).k < l.length)
    · exact ih
    · exact inv_apply ih _

theorem inv_hist (l : List Int) : Inv (histCP l) := inv_grow l (g := ⟨0, 1, new28⟩) inv_new 60
theorem hist_len (l : List Int) : (histF l).length ≤ 60 := by
  have := (grow_lens l ⟨0, 1, new28⟩ 60).1
  show (growN l 60 ⟨0, 1, new28⟩).c.h.length ≤ 60
  simpa [new28] using this
end Go.Proofs.Ythjogeodclpafaa.AM
end

section
set_option linter.unusedVariables false
set_option linter.unusedSimpArgs false
namespace Go.Proofs.Ythjogeodclpafaa.AM
open Go Go.Proofs.Ythjogeodclpafaa

def leItem (l : Le) : Int := l.1

theorem del_gen {α : Type} (f : α → Int) (n : Int) : ∀ (xs : List α), (xs.Pairwise fun a b => f a < f b) → dropAt xs (idxE (fun w => f w == n) xs) = xs.filter fun a => f a != n
  | [], _ => by simp [dropAt, idxE]
  | a :: r, hp => by
    obtain ⟨hp1, hp2⟩ := List.pairwise_cons.1 hp
    have ih := del_gen f n r hp2
    by_cases e : f a = n
    · have e1 : (f a == n) = true := beq_iff_eq.2 e
      have h0 : idxE (fun w => f w == n) (a :: r) = 0 := by simp [idxE, List.findIdx_cons, e1]
      have hb : (f a != n) = false := by rw [e]; simp
      rw [h0, List.filter_cons, if_neg (by rw [hb]; simp)]
      show [] ++ r = _
      rw [List.nil_append]
      symm
      rw [List.filter_eq_self]
      intro y hy
      have := hp1 y hy
      exact bne_iff_ne.2 (by omega)
    · have e1 : (f a == n) = false := beq_eq_false_iff_ne.2 e
      have hb : (f a != n) = true := bne_iff_ne.2 e
      rw [List.filter_cons, if_pos hb, ← ih]
      cases ha : (r.any fun w => f w == n) with
      | false =>
        have h1 : idxE (fun w => f w == n) (a :: r) = -1 := by unfold idxE; rw [List.any_cons, e1, ha]; rfl
        have h2 : idxE (fun w => f w == n) r = -1 := by unfold idxE; rw [ha]; rfl
        rw [h1, h2]
        rfl
      | true =>
        have h2 : idxE (fun w => f w == n) r = ((r.findIdx fun w => f w == n : Nat) : Int) := by unfold idxE; rw [ha]; rfl
        have h1 : idxE (fun w => f w == n) (a :: r) = ((r.findIdx fun w => f w == n : Nat) : Int) + 1 := by
          unfold idxE
          rw [List.any_cons, e1, ha, List.findIdx_cons, e1]
          simp
        rw [h1, h2]
        unfold dropAt
        rw [if_neg (by omega), if_neg (by omega)]
        have t1 : (((r.findIdx fun w => f w == n : Nat) : Int) + 1).toNat = (r.findIdx fun w => f w == n) + 1 := by omega
        rw [t1, Int.toNat_natCast]
        rfl

theorem dist_eq {α : Type} (f : α → Int) : ∀ {ls : List α}, (ls.Pairwise fun a b => f a ≠ f b) → ∀ {a b : α}, a ∈ ls → b ∈ ls → f a = f b → a = b
  | [], _, a, b, ha, _, _ => by cases ha
  | c :: r, hp, a, b, ha, hb, e => by
    obtain ⟨hp1, hp2⟩ := List.pairwise_cons.1 hp
    rcases List.mem_cons.1 ha with e1 | ha1
    · rcases List.mem_cons.1 hb with e2 | hb1
      · rw [e1, e2]
      · rw [e1] at e; exact absurd e (hp1 b hb1)
    · rcases List.mem_cons.1 hb with e2 | hb1
      · rw [e2] at e; exact absurd e.symm (hp1 a ha1)
      · exact dist_eq f hp2 ha1 hb1 e

theorem asc_dist {α : Type} {f : α → Int} {ls : List α} (h : ls.Pairwise fun a b => f a < f b) : ls.Pairwise fun a b => f a ≠ f b :=
  h.imp fun h e => by rw [e] at h; exact Int.lt_irrefl _ h

/-- Ascending lists with the same members are equal. -/
theorem asc_ext {α : Type} (f : α → Int) : ∀ {a b : List α}, (a.Pairwise fun x y => f x < f y) → (b.Pairwise fun x y => f x < f y) → (∀ m, m ∈ a ↔ m ∈ b) → a = b
  | [], [], _, _, _ => rfl
  | [], y :: b, _, _, h => absurd ((h y).2 (by simp)) (by simp)
  | x :: a, [], _, _, h => absurd ((h x).1 (by simp)) (by simp)
  | x :: a, y :: b, ha, hb, h => by
    obtain ⟨a1, a2⟩ := List.pairwise_cons.1 ha
    obtain ⟨b1, b2⟩ := List.pairwise_cons.1 hb
    have hxy : x = y := by
      rcases List.mem_cons.1 ((h x).1 (by simp)) with e | hx
      · exact e
      · rcases List.mem_cons.1 ((h y).2 (by simp)) with e | hy
        · exact e.symm
        · have q1 := b1 x hx
          have q2 := a1 y hy
          omega
    subst hxy
    congr 1
    refine asc_ext f a2 b2 fun m => ⟨fun hm => ?_, fun hm => ?_⟩
    · rcases List.mem_cons.1 ((h m).1 (by simp [hm])) with e | q
      · have := a1 m hm; rw [e] at this; exact absurd this (Int.lt_irrefl _)
      · exact q
    · rcases List.mem_cons.1 ((h m).2 (by simp [hm])) with e | q
      · have := b1 m hm; rw [e] at this; exact absurd this (Int.lt_irrefl _)
      · exact q

/-! ### Giving a lease -/
def insL (l : Le) : List Le → List Le
  | [] => [l]
  | a :: r => if leItem a < leItem l then a :: insL l r else if leItem a = leItem l then l :: r else l :: a :: r

theorem posL_cons (a : Le) (r : List Le) (n : Int) : posL (a :: r) n = if leItem a < n then posL r n + 1 else 0 := by
  unfold posL
  rw [List.takeWhile_cons]
  by_cases h : leItem a < n
  · have : decide (a.1 < n) = true := decide_eq_true h
    rw [this, if_pos h]; rfl
  · have : decide (a.1 < n) = false := decide_eq_false h
    rw [this, if_neg h]; rfl

theorem give_ins (l : Le) : ∀ (ls : List Le), (ls.Pairwise fun a b => leItem a < leItem b) → giveQ ls l = insL l ls
  | [], _ => by simp [giveQ, leaseQ, idxE, insL, posL]
  | a :: r, hp => by
    obtain ⟨hp1, hp2⟩ := List.pairwise_cons.1 hp
    have ih := give_ins l r hp2
    unfold insL
    by_cases e : leItem a = leItem l
    · have e1 : (a.1 == l.1) = true := beq_iff_eq.2 e
      have h0 : leaseQ (a :: r) l.1 = 0 := by simp [leaseQ, idxE, List.findIdx_cons, e1]
      unfold giveQ
      rw [h0, if_pos (by omega), if_neg (by rw [e]; exact Int.lt_irrefl _), if_pos e]
      rfl
    · have e1 : (a.1 == l.1) = false := beq_eq_false_iff_ne.2 e
      cases ha : (r.any fun w => w.1 == l.1) with
      | true =>
        obtain ⟨y, hy, hyl⟩ := List.any_eq_true.1 ha
        have hlt : leItem a < leItem l := by
          have h1 := hp1 y hy
          have h2 : leItem y = leItem l := eq_of_beq hyl
          omega
        have h2 : leaseQ r l.1 = ((r.findIdx fun w => w.1 == l.1 : Nat) : Int) := by unfold leaseQ idxE; rw [ha]; rfl
        have h1 : leaseQ (a :: r) l.1 = ((r.findIdx fun w => w.1 == l.1 : Nat) : Int) + 1 := by
          unfold leaseQ idxE
          rw [List.any_cons, e1, ha, List.findIdx_cons, e1]
          simp
        rw [if_pos hlt, ← ih]
        unfold giveQ
        rw [h1, h2, if_pos (by omega), if_pos (by omega)]
        have t1 : (((r.findIdx fun w => w.1 == l.1 : Nat) : Int) + 1).toNat = (r.findIdx fun w => w.1 == l.1) + 1 := by omega
        rw [t1, Int.toNat_natCast]
        rfl
      | false =>
        have h2 : leaseQ r l.1 = -1 := by unfold leaseQ idxE; rw [ha]; rfl
        have h1 : leaseQ (a :: r) l.1 = -1 := by unfold leaseQ idxE; rw [List.any_cons, e1, ha]; rfl
        unfold giveQ at ih ⊢
        rw [h1, if_neg (by omega), posL_cons]
        rw [h2, if_neg (by omega)] at ih
        by_cases hlt : leItem a < leItem l
        · have hlt' : leItem a < l.1 := hlt
          rw [if_pos hlt', if_pos hlt, ← ih]
          rfl
        · have hlt' : ¬ leItem a < l.1 := hlt
          rw [if_neg hlt', if_neg hlt, if_neg e]
          rfl

theorem ins_mem (l : Le) : ∀ {ls : List Le}, (ls.Pairwise fun a b => leItem a < leItem b) → ∀ m, m ∈ insL l ls ↔ m = l ∨ (m ∈ ls ∧ leItem m ≠ leItem l)
  | [], _, m => by simp [insL]
  | a :: r, hp, m => by
    obtain ⟨hp1, hp2⟩ := List.pairwise_cons.1 hp
    have ih := ins_mem l hp2 m
    unfold insL
    split
    · rename_i h
      simp only [List.mem_cons, ih]
      constructor
      · rintro (rfl | h1 | ⟨h1, h2⟩)
        · exact .inr ⟨.inl rfl, by omega⟩
        · exact .inl h1
        · exact .inr ⟨.inr h1, h2⟩
      · rintro (h1 | ⟨h1 | h1, h2⟩)
        · exact .inr (.inl h1)
        · exact .inl h1
        · exact .inr (.inr ⟨h1, h2⟩)
    · split
      · rename_i h1 h2
        simp only [List.mem_cons]
        constructor
        · rintro (h | h)
          · exact .inl h
          · exact .inr ⟨.inr h, by have := hp1 m h; omega⟩
        · rintro (h | ⟨h | h, h3⟩)
          · exact .inl h
          · subst h; exact absurd h2 h3
          · exact .inr h
      · rename_i h1 h2
        simp only [List.mem_cons]
        constructor
        · rintro (h | h | h)
          · exact .inl h
          · subst h; exact .inr ⟨.inl rfl, h2⟩
          · exact .inr ⟨.inr h, by have := hp1 m h; omega⟩
        · rintro (h | ⟨h, _⟩)
          · exact .inl h
          · exact .inr h

theorem ins_asc (l : Le) : ∀ {ls : List Le}, (ls.Pairwise fun a b => leItem a < leItem b) → (insL l ls).Pairwise fun a b => leItem a < leItem b
  | [], _ => by simp [insL]
  | a :: r, hp => by
    obtain ⟨hp1, hp2⟩ := List.pairwise_cons.1 hp
    have ih := ins_asc l hp2
    unfold insL
    split
    · rename_i h
      refine List.pairwise_cons.2 ⟨fun m hm => ?_, ih⟩
      rcases (ins_mem l hp2 m).1 hm with rfl | ⟨h1, _⟩
      · exact h
      · exact hp1 m h1
    · split
      · rename_i h1 h2
        exact List.pairwise_cons.2 ⟨fun m hm => by have := hp1 m hm; omega, hp2⟩
      · rename_i h1 h2
        refine List.pairwise_cons.2 ⟨fun m hm => ?_, hp⟩
        rcases List.mem_cons.1 hm with rfl | hm
        · omega
        · have := hp1 m hm; omega

/-! ### Both queues -/
structure SimQ (q w : Q) : Prop where
  items : q.1 = w.1
  most : q.2.2 = w.2.2
  asc : q.1.Pairwise fun a b => numT a < numT b
  le : ∀ a ∈ q.1, numT a ≤ q.2.2
  lasc : q.2.1.Pairwise fun a b => leItem a < leItem b
  inn : ∀ l ∈ q.2.1, ∃ x ∈ q.1, numT x = leItem l
  dist : w.2.1.Pairwise fun a b => leItem a ≠ leItem b
  mem : ∀ l, l ∈ q.2.1 ↔ l ∈ w.2.1

theorem applyQ_cases (q : Q) (x : Ch) : ((applyQ q x).1 ≠ 0 ∧ (applyQ q x).2 = q) ∨ (x.2.2.1 = 3 ∧ q.2.2 < seqC x ∧ applyQ q x = (0, (q.1 ++ [(x.2.1, x.2.2.2.2.2.2.2)], q.2.1, x.2.1))) ∨
    (x.2.2.1 = 4 ∧ applyQ q x = (0, (dropAt q.1 (atQ q.1 x.2.2.2.2.2.1), dropAt q.2.1 (leaseQ q.2.1 x.2.2.2.2.2.1), q.2.2))) ∨ (x.2.2.1 ≠ 3 ∧ x.2.2.1 ≠ 4 ∧ applyQ q x = (0, q)) := by
  unfold applyQ
  split
  · rename_i h; exact .inl ⟨h, rfl⟩
  · rename_i h
    split
    · rename_i h3
      refine .inr (.inl ⟨h3, ?_, rfl⟩)
      have h : checkQ q x = 0 := by simpa using h
      unfold checkQ at h
      split at h
      · cases h
      · split at h
        · cases h
        · rename_i h4
          have h5 : ¬ x.2.1 ≤ q.2.2 := fun e => h4 ⟨h3, e⟩
          exact Int.not_le.1 h5
    · rename_i h3
      split
      · rename_i h4; exact .inr (.inr (.inl ⟨h4, rfl⟩))
      · rename_i h4; exact .inr (.inr (.inr ⟨h3, h4, rfl⟩))

theorem applyR_zero {q : Q} {x : Ch} (h : (applyR q x).1 = 0) : applyR q x = (0, bif x.2.2.1 == 3 then (q.1 ++ [(x.2.1, x.2.2.2.2.2.2.2)], q.2.1, x.2.1) else bif x.2.2.1 == 4 then (q.1.take (atQ q.1 x.2.2.2.2.2.1).toNat ++ q.1.drop ((atQ q.1 x.2.2.2.2.2.1).toNat + 1), dropR q.2.1 x.2.2.2.2.2.1, q.2.2) else q) := by
  unfold applyR at h ⊢
  cases hv : validC x <;> simp only [hv, Bool.not_true, Bool.not_false, cond_true, cond_false] at h ⊢
  · exact absurd h (by decide)
  · cases h3 : (x.2.2.1 == 3) <;> simp only [h3, cond_true, cond_false] at h ⊢
    · cases h4 : (x.2.2.1 == 4) <;> simp only [h4, cond_true, cond_false] at h ⊢
      cases h5 : decide (atQ q.1 x.2.2.2.2.2.1 < 0) <;> simp only [h5, cond_true, cond_false] at h ⊢
      exact absurd h (by decide)
    · cases h4 : decide (x.2.1 ≤ q.2.2) <;> simp only [h4, cond_true, cond_false] at h ⊢
      · cases h5 : decide ((q.1.length : Int) ≥ 16) <;> simp only [h5, cond_true, cond_false] at h ⊢
        exact absurd h (by decide)
      · exact absurd h (by decide)
theorem applyR_bad {q : Q} {x : Ch} (h : (applyR q x).1 ≠ 0) : (applyR q x).2 = q := by
  unfold applyR at h ⊢
  cases hv : validC x <;> simp only [hv, Bool.not_true, Bool.not_false, cond_true, cond_false] at h ⊢
  cases h3 : (x.2.2.1 == 3) <;> simp only [h3, cond_true, cond_false] at h ⊢
  · cases h4 : (x.2.2.1 == 4) <;> simp only [h4, cond_true, cond_false] at h ⊢
    cases h5 : decide (atQ q.1 x.2.2.2.2.2.1 < 0) <;> simp only [h5, cond_true, cond_false] at h ⊢
    exact absurd rfl h
  · cases h4 : decide (x.2.1 ≤ q.2.2) <;> simp only [h4, cond_true, cond_false] at h ⊢
    cases h5 : decide ((q.1.length : Int) ≥ 16) <;> simp only [h5, cond_true, cond_false] at h ⊢
    exact absurd rfl h

theorem sim_apply {q w : Q} (h : SimQ q w) (x : Ch) : (applyQ q x).1 = (applyR w x).1 ∧ SimQ (applyQ q x).2 (applyR w x).2 := by
  obtain ⟨e1, e2, e3⟩ := apply_sim (q := q) (w := w) ⟨h.items, h.most⟩ x
  refine ⟨e1, ?_⟩
  rcases applyQ_cases q x with ⟨a1, a2⟩ | ⟨hk, hlt, a2⟩ | ⟨hk, a2⟩ | ⟨hk3, hk4, a2⟩
  · rw [a2, applyR_bad (by rw [← e1]; exact a1)]; exact h
  · have hr := applyR_zero (q := w) (x := x) (by rw [← e1, a2])
    have k3 : (x.2.2.1 == 3) = true := beq_iff_eq.2 hk
    rw [k3, cond_true] at hr
    rw [a2, hr]
    refine ⟨by show _ ++ _ = _ ++ _; rw [h.items], rfl, ?_, ?_, h.lasc, fun l hl => ?_, h.dist, h.mem⟩
    · rw [List.pairwise_append]
      refine ⟨h.asc, List.pairwise_singleton _ _, fun a ha b hb => ?_⟩
      rw [List.mem_singleton] at hb
      subst hb
      have := h.le a ha
      show numT a < seqC x
      omega
    · intro a ha
      rcases List.mem_append.1 ha with ha | ha
      · have := h.le a ha
        show numT a ≤ seqC x
        omega
      · rw [List.mem_singleton] at ha
        subst ha
        exact Int.le_refl _
    · obtain ⟨y, hy, ey⟩ := h.inn l hl
      exact ⟨y, List.mem_append_left _ hy, ey⟩
  · have hr := applyR_zero (q := w) (x := x) (by rw [← e1, a2])
    have k3 : (x.2.2.1 == 3) = false := by rw [hk]; rfl
    have k4 : (x.2.2.1 == 4) = true := beq_iff_eq.2 hk
    rw [k3, k4, cond_true, cond_false] at hr
    have d1 : dropAt q.1 (atQ q.1 x.2.2.2.2.2.1) = q.1.filter fun a => numT a != x.2.2.2.2.2.1 := del_gen numT x.2.2.2.2.2.1 q.1 h.asc
    have d2 : dropAt q.2.1 (leaseQ q.2.1 x.2.2.2.2.2.1) = q.2.1.filter fun a => leItem a != x.2.2.2.2.2.1 := del_gen leItem x.2.2.2.2.2.1 q.2.1 h.lasc
    have i1 := e2
    rw [a2] at i1 ⊢
    rw [hr] at i1 ⊢
    refine ⟨i1, h.most, ?_, ?_, ?_, ?_, ?_, ?_⟩
    · show (dropAt q.1 _).Pairwise _
      rw [d1]; exact h.asc.filter _
    · intro a ha
      have ha : a ∈ dropAt q.1 (atQ q.1 x.2.2.2.2.2.1) := ha
      rw [d1] at ha
      exact h.le a (List.mem_filter.1 ha).1
    · show (dropAt q.2.1 _).Pairwise _
      rw [d2]; exact h.lasc.filter _
    · intro l hl
      have hl : l ∈ dropAt q.2.1 (leaseQ q.2.1 x.2.2.2.2.2.1) := hl
      rw [d2, List.mem_filter] at hl
      obtain ⟨y, hy, ey⟩ := h.inn l hl.1
      refine ⟨y, ?_, ey⟩
      show y ∈ dropAt q.1 _
      rw [d1, List.mem_filter]
      exact ⟨hy, by rw [ey]; exact hl.2⟩
    · exact h.dist.filter _
    · intro l
      show l ∈ dropAt q.2.1 _ ↔ l ∈ dropR w.2.1 _
      rw [d2]
      unfold dropR
      rw [List.mem_filter, List.mem_filter, h.mem l]
      rfl
  · have hr := applyR_zero (q := w) (x := x) (by rw [← e1, a2])
    have k3 : (x.2.2.1 == 3) = false := beq_eq_false_iff_ne.2 hk3
    have k4 : (x.2.2.1 == 4) = false := beq_eq_false_iff_ne.2 hk4
    rw [k3, k4, cond_false, cond_false] at hr
    rw [a2, hr]
    exact h

theorem liveR_hit (e n t : Int) (l : Le) : liveR e n t l = hitL e t n l := by
  unfold liveR hitL liveL
  rw [Bool.and_assoc]

theorem any_mem {α : Type} {a b : List α} (h : ∀ m, m ∈ a ↔ m ∈ b) (p : α → Bool) : a.any p = b.any p := by
  rw [Bool.eq_iff_iff, List.any_eq_true, List.any_eq_true]
  exact ⟨fun ⟨x, hx, hp⟩ => ⟨x, (h x).1 hx, hp⟩, fun ⟨x, hx, hp⟩ => ⟨x, (h x).2 hx, hp⟩⟩

theorem findR_any (ls : List Le) (e n t : Int) : (findR ls e n t).2 = ls.any (hitL e t n) := by
  have hp : liveR e n t = hitL e t n := funext fun l => liveR_hit e n t l
  unfold findR
  rw [hp]
  cases hf : ls.find? (hitL e t n) with
  | none =>
    show false = _
    rw [List.find?_eq_none] at hf
    symm
    rw [List.any_eq_false]
    exact hf
  | some l =>
    show true = _
    symm
    rw [List.any_eq_true]
    exact ⟨l, List.mem_of_find?_eq_some hf, List.find?_some hf⟩

theorem sim_take {q w : Q} (h : SimQ q w) (c e t hd : Int) : (takeQ q c e t hd).1 = (takeR w c e t hd).1 ∧ SimQ (takeQ q c e t hd).2 (takeR w c e t hd).2 := by
  unfold takeQ takeR
  cases hb : badT c e t hd
  · simp only [Bool.false_eq_true, if_false, cond_false]
    have hfr : freeQ q.2.1 e t = fun x => !(findR w.2.1 e x.1 t).2 := by
      funext x
      unfold freeQ
      rw [findR_any, any_mem h.mem]
    rw [hfr, h.items]
    cases hf : w.1.find? (fun x => !(findR w.2.1 e x.1 t).2) with
    | none => exact ⟨rfl, h⟩
    | some x =>
      refine ⟨rfl, rfl, h.most, ?_, ?_, ?_, ?_, ?_, ?_⟩
      · show w.1.Pairwise _
        rw [← h.items]; exact h.asc
      · intro a ha
        have ha : a ∈ w.1 := ha
        rw [← h.items] at ha
        exact h.le a ha
      · show (giveQ q.2.1 _).Pairwise _
        rw [give_ins _ _ h.lasc]
        exact ins_asc _ h.lasc
      · intro l hl
        have hl : l ∈ giveQ q.2.1 (x.1, c, e, t + hd) := hl
        rw [give_ins _ _ h.lasc, ins_mem _ h.lasc] at hl
        rcases hl with rfl | ⟨hl, _⟩
        · exact ⟨x, List.mem_of_find?_eq_some hf, rfl⟩
        · obtain ⟨y, hy, ey⟩ := h.inn l hl
          exact ⟨y, by rw [← h.items]; exact hy, ey⟩
      · show (dropR w.2.1 x.1 ++ [_]).Pairwise _
        rw [List.pairwise_append]
        refine ⟨h.dist.filter _, List.pairwise_singleton _ _, fun a ha b hb' => ?_⟩
        rw [List.mem_singleton] at hb'
        subst hb'
        have := (List.mem_filter.1 ha).2
        intro e'
        rw [bne_iff_ne] at this
        exact this e'
      · intro l
        show l ∈ giveQ q.2.1 (x.1, c, e, t + hd) ↔ l ∈ dropR w.2.1 x.1 ++ [(x.1, c, e, t + hd)]
        rw [give_ins _ _ h.lasc, ins_mem _ h.lasc, List.mem_append, List.mem_singleton]
        unfold dropR
        rw [List.mem_filter, bne_iff_ne, h.mem l]
        exact ⟨fun q => q.symm, fun q => q.symm⟩
  · exact ⟨rfl, h⟩

theorem findR_mem {ls : List Le} (hd : ls.Pairwise fun a b => leItem a ≠ leItem b) {e n t : Int} {m : Le} : ((findR ls e n t).2 = true ∧ (findR ls e n t).1 = m) ↔ (m ∈ ls ∧ hitL e t n m = true) := by
  have hp : liveR e n t = hitL e t n := funext fun l => liveR_hit e n t l
  have key : ∀ l, hitL e t n l = true → leItem l = n := fun l hl => by
    unfold hitL at hl
    rw [Bool.and_eq_true] at hl
    exact eq_of_beq hl.1
  unfold findR
  rw [hp]
  constructor
  · rintro ⟨h1, h2⟩
    cases hf : ls.find? (hitL e t n) with
    | none => rw [hf] at h1; cases h1
    | some l =>
      rw [hf] at h2
      have h2 : l = m := h2
      subst h2
      exact ⟨List.mem_of_find?_eq_some hf, List.find?_some hf⟩
  · rintro ⟨h1, h2⟩
    cases hf : ls.find? (hitL e t n) with
    | none =>
      rw [List.find?_eq_none] at hf
      exact absurd h2 (hf m h1)
    | some l =>
      refine ⟨rfl, ?_⟩
      show l = m
      exact dist_eq leItem hd (List.mem_of_find?_eq_some hf) h1 (by rw [key l (List.find?_some hf), key m h2])

theorem sim_leases {q w : Q} (h : SimQ q w) (e t : Int) : q.2.1.filter (liveL e t) = leasesR w e t := by
  have fst_key : ∀ x : Tm, (findR w.2.1 e x.1 t).2 = true → leItem (findR w.2.1 e x.1 t).1 = numT x := fun x hx => by
    have := (findR_mem h.dist (e := e) (n := x.1) (t := t)).1 ⟨hx, rfl⟩
    have h2 := this.2
    unfold hitL at h2
    rw [Bool.and_eq_true] at h2
    exact eq_of_beq h2.1
  refine asc_ext leItem (h.lasc.filter _) ?_ fun m => ?_
  · unfold leasesR
    rw [List.pairwise_map]
    have ha : w.1.Pairwise fun a b => numT a < numT b := by rw [← h.items]; exact h.asc
    refine List.Pairwise.imp_of_mem ?_ (ha.filter _)
    intro a b ha hb hlt
    rw [fst_key a (List.mem_filter.1 ha).2, fst_key b (List.mem_filter.1 hb).2]
    exact hlt
  · unfold leasesR
    rw [List.mem_filter, List.mem_map]
    constructor
    · rintro ⟨hm, hl⟩
      obtain ⟨x, hx, ex⟩ := h.inn m hm
      have hh : hitL e t x.1 m = true := by
        unfold hitL
        rw [hl, Bool.and_true]
        exact beq_iff_eq.2 ex.symm
      have := (findR_mem h.dist (e := e) (n := x.1) (t := t)).2 ⟨(h.mem m).1 hm, hh⟩
      exact ⟨x, List.mem_filter.2 ⟨by rw [← h.items]; exact hx, this.1⟩, this.2⟩
    · rintro ⟨x, hx, ex⟩
      have := (findR_mem h.dist (e := e) (n := x.1) (t := t)).1 ⟨(List.mem_filter.1 hx).2, ex⟩
      refine ⟨(h.mem m).2 this.1, ?_⟩
      have h2 := this.2
      unfold hitL at h2
      rw [Bool.and_eq_true] at h2
      exact h2.2

theorem holdsQ_iff {ls : List Le} (hd : ls.Pairwise fun a b => leItem a ≠ leItem b) (c e i t : Int) : holdsQ ls c e i t = true ↔ ∃ l ∈ ls, hitL e t i l = true ∧ l.2.1 = c := by
  unfold holdsQ
  constructor
  · intro h
    cases hf : ls.find? (fun l => l.1 == i) with
    | none => rw [hf] at h; cases h
    | some l =>
      rw [hf] at h
      have h : ((l.2.1 == c) && liveL e t l) = true := h
      rw [Bool.and_eq_true] at h
      have h1 : (l.1 == i) = true := List.find?_some (p := fun l : Le => l.1 == i) hf
      exact ⟨l, List.mem_of_find?_eq_some hf, by unfold hitL; rw [h1, h.2]; rfl, eq_of_beq h.1⟩
  · rintro ⟨l, hl, hh, hc⟩
    unfold hitL at hh
    rw [Bool.and_eq_true] at hh
    cases hf : ls.find? (fun l => l.1 == i) with
    | none =>
      rw [List.find?_eq_none] at hf
      exact absurd hh.1 (hf l hl)
    | some l' =>
      have h1 : (l'.1 == i) = true := List.find?_some (p := fun l : Le => l.1 == i) hf
      have : l' = l := dist_eq leItem hd (List.mem_of_find?_eq_some hf) hl (by
        have a1 : leItem l' = i := eq_of_beq h1
        have a2 : leItem l = i := eq_of_beq hh.1
        rw [a1, a2])
      subst this
      show ((l'.2.1 == c) && liveL e t l') = true
      rw [hh.2, Bool.and_true]
      exact beq_iff_eq.2 hc

theorem sim_holds {q w : Q} (h : SimQ q w) (c e i t : Int) : holdsQ q.2.1 c e i t = ((findR w.2.1 e i t).2 && ((findR w.2.1 e i t).1.2.1 == c)) := by
  rw [Bool.eq_iff_iff, holdsQ_iff (asc_dist h.lasc), Bool.and_eq_true]
  constructor
  · rintro ⟨l, hl, hh, hc⟩
    have := (findR_mem h.dist (e := e) (n := i) (t := t)).2 ⟨(h.mem l).1 hl, hh⟩
    exact ⟨this.1, by rw [this.2]; exact beq_iff_eq.2 hc⟩
  · rintro ⟨h1, h2⟩
    have := (findR_mem h.dist (e := e) (n := i) (t := t)).1 ⟨h1, rfl⟩
    exact ⟨_, (h.mem _).2 this.1, this.2, eq_of_beq h2⟩

theorem sim_forget {q w : Q} (h : SimQ q w) : SimQ (q.1, [], q.2.2) (w.1, [], w.2.2) :=
  ⟨h.items, h.most, h.asc, h.le, List.Pairwise.nil, fun l hl => (by cases hl), List.Pairwise.nil, fun l => Iff.rfl⟩
theorem sim_new : SimQ q0 q0 := ⟨rfl, rfl, List.Pairwise.nil, fun a h => (by cases h), List.Pairwise.nil, fun l hl => (by cases hl), List.Pairwise.nil, fun l => Iff.rfl⟩
theorem sim_fold : ∀ (h : List Ch) (i : Nat) {q w : Q}, SimQ q w → (foldF applyQ h i q).1 = (foldF applyR h i w).1 ∧ (foldF applyQ h i q).2.1 = (foldF applyR h i w).2.1 ∧ SimQ (foldF applyQ h i q).2.2 (foldF applyR h i w).2.2
  | [], i, q, w, h => ⟨rfl, rfl, h⟩
  | x :: r, i, q, w, h => by
    obtain ⟨h1, h2⟩ := sim_apply h x
    simp only [foldF, h1]
    cases hc : ((applyR w x).1 != 0)
    · exact sim_fold r (i + 1) h2
    · exact ⟨rfl, rfl, h⟩
end Go.Proofs.Ythjogeodclpafaa.AM
end

section
set_option linter.unusedVariables false
set_option linter.unusedSimpArgs false
set_option maxRecDepth 100000
namespace Go.Proofs.Ythjogeodclpafaa.AM
open Go Go.Proofs.Ythjogeodclpafaa

theorem light_sat (l : List Ac) (K : SV → List AObj → Prop) (hK : K (bv (lightB l)) []) : Sat Try.prog 30 [.t (.one (.fsl 67 ActT l))] [] K := by
  refine fn_satE tab12 Try.func30 (nfLight l _) ?_
  simp only [true_and, and_true]
  refine ⟨⟨0, rfl, Nat.zero_le _, rfl⟩, fun x ⟨hx, ha⟩ => ⟨fun h => ?_, fun h => ?_⟩⟩
  · simp only [Bool.and_eq_true, decide_eq_true_eq] at h
    have hx' : x < l.length := by omega
    refine ⟨by omega, fun h2 => ?_, fun h2 => ⟨x + 1, by rw [wr_eq (by omega) (by omega)]; rfl, ⟨by omega, ?_⟩, by omega⟩⟩
    · have h3 : shortC (l.getD x (Ty.zero ActT)).2.2.2.2.2 = false := by rw [← Bool.not_eq_true']; exact h2
      have h4 : (l.all fun a => shortC a.2.2.2.2.2) = false := by
        rw [List.all_eq_false]
        exact ⟨_, getD_mem (Ty.zero ActT) hx', by rw [h3]; simp⟩
      unfold lightB at hK
      rw [h4, Bool.and_false] at hK
      exact hK
    · have h3 : shortC (l.getD x (Ty.zero ActT)).2.2.2.2.2 = true := by rw [← Bool.not_eq_false']; exact h2
      rw [take_next (Ty.zero ActT) hx', List.all_append, ha]
      simp only [List.all_cons, List.all_nil, h3, Bool.and_true]
  · unfold lightB at hK
    by_cases hn : (l.length : Int) ≤ 80
    · have hx' : x = l.length := by
        rw [decide_eq_true hn, Bool.and_true] at h
        simp only [decide_eq_false_iff_not] at h
        omega
      subst hx'
      rw [List.take_length] at ha
      rw [ha, Bool.and_true] at hK
      exact hK
    · rw [decide_eq_false hn] at hK ⊢
      exact hK
theorem sat_light : ∀ vs H K, S_light.cps vs H K → Sat Try.prog 30 vs H K := by
  intro vs H K h
  unfold S_light at h
  dsimp only at h
  split at h
  · exact light_sat _ K h
  · exact h.elim
theorem tab13 : TabOK Try.prog (look L13) := look_cons tab12 sat_light

/-! ### Turns -/
section
variable {xs : List Tm} {C T Hh : Int}

theorem turns_len (E i : Nat) (hi : i ≤ xs.length) : (turnsL xs C T Hh E i).length ≤ xs.length := by
  unfold turnsL
  rw [List.length_append, List.length_map, List.length_take]
  split
  · simp; omega
  · simp; omega

theorem turns_mem (E i : Nat) (m : Le) : m ∈ turnsL xs C T Hh E i ↔ (∃ x ∈ xs.take i, (x.1, C, (E : Int) + 1, T + Hh) = m) ∨ (E ≠ 0 ∧ ∃ x ∈ xs.drop i, (x.1, C, (E : Int), T + Hh) = m) := by
  unfold turnsL
  rw [List.mem_append, List.mem_map]
  split
  · rename_i h; simp [h]
  · rename_i h; rw [List.mem_map]; simp [h]

theorem asc_parts (hasc : xs.Pairwise fun a b => numT a < numT b) (i : Nat) : ∀ a ∈ xs.take i, ∀ b ∈ xs.drop i, numT a < numT b := by
  have h := hasc
  rw [← List.take_append_drop i xs, List.pairwise_append] at h
  exact h.2.2

theorem turns_asc (hasc : xs.Pairwise fun a b => numT a < numT b) (E i : Nat) : (turnsL xs C T Hh E i).Pairwise fun a b => leItem a < leItem b := by
  unfold turnsL
  rw [List.pairwise_append]
  refine ⟨?_, ?_, fun a ha b hb => ?_⟩
  · rw [List.pairwise_map]
    exact hasc.sublist (List.take_sublist _ _)
  · split
    · exact List.Pairwise.nil
    · rw [List.pairwise_map]
      exact hasc.sublist (List.drop_sublist _ _)
  · obtain ⟨x, hx, rfl⟩ := List.mem_map.1 ha
    split at hb
    · cases hb
    · obtain ⟨y, hy, rfl⟩ := List.mem_map.1 hb
      exact asc_parts hasc i x hx y hy

theorem turns_free_not (hH : 1 ≤ Hh) {E i : Nat} {x : Tm} (hx : x ∈ xs.take i) : freeQ (turnsL xs C T Hh E i) ((E : Int) + 1) T x = false := by
  unfold freeQ
  have : ((turnsL xs C T Hh E i).any (hitL ((E : Int) + 1) T x.1)) = true := by
    rw [List.any_eq_true]
    refine ⟨(x.1, C, (E : Int) + 1, T + Hh), (turns_mem E i _).2 (.inl ⟨x, hx, rfl⟩), ?_⟩
    unfold hitL liveL
    have e1 : (x.1 == x.1) = true := beq_self_eq_true _
    have e2 : decide (T < T + Hh) = true := decide_eq_true (by omega)
    simp [e1, e2]
  rw [this]; rfl

theorem turns_free (hasc : xs.Pairwise fun a b => numT a < numT b) {E i : Nat} {x : Tm} (hx : x ∈ xs.drop i) : freeQ (turnsL xs C T Hh E i) ((E : Int) + 1) T x = true := by
  unfold freeQ
  have : ((turnsL xs C T Hh E i).any (hitL ((E : Int) + 1) T x.1)) = false := by
    rw [List.any_eq_false]
    intro m hm
    rcases (turns_mem E i m).1 hm with ⟨y, hy, rfl⟩ | ⟨_, y, hy, rfl⟩
    · have hlt := asc_parts hasc i y hy x hx
      have ne : (y.1 == x.1) = false := beq_eq_false_iff_ne.2 fun e => by
        have e : numT y = numT x := e
        omega
      unfold hitL
      simp [ne]
    · have ne : ((E : Int) == (E : Int) + 1) = false := beq_eq_false_iff_ne.2 (by omega)
      unfold hitL liveL
      simp [ne]
  rw [this]; rfl

theorem bad_turns {e : Int} (h1 : 1 ≤ C) (h2 : C ≤ 8) (h3 : 1 ≤ e) (h4 : e ≤ 3) (h5 : 0 ≤ T) (h6 : T ≤ 1073741824) (h7 : 1 ≤ Hh) (h8 : Hh ≤ 1000) : badT C e T Hh = false := by
  unfold badT
  simp only [Bool.or_eq_false_iff, decide_eq_false_iff_not]
  omega

theorem turns_step (hasc : xs.Pairwise fun a b => numT a < numT b) (h1 : 1 ≤ C) (h2 : C ≤ 8) (h5 : 0 ≤ T) (h6 : T ≤ 1073741824) (h7 : 1 ≤ Hh) (h8 : Hh ≤ 1000) {E i : Nat} (hE : E < 3) (hi : i < xs.length) (p : Int) :
    takeQ (xs, turnsL xs C T Hh E i, p) C ((E : Int) + 1) T Hh = ((xs.getD i (Ty.zero Item), ((xs.getD i (Ty.zero Item)).1, C, (E : Int) + 1, T + Hh), 0), (xs, turnsL xs C T Hh E (i + 1), p)) := by
  unfold takeQ
  rw [bad_turns h1 h2 (by omega) (by omega) h5 h6 h7 h8]
  simp only [Bool.false_eq_true, if_false]
  have hd : xs.drop i = xs.getD i (Ty.zero Item) :: xs.drop (i + 1) := by
    rw [List.drop_eq_getElem_cons hi, List.getD_eq_getElem?_getD, List.getElem?_eq_getElem hi]; rfl
  have ht := take_next (Ty.zero Item) hi
  generalize xs.getD i (Ty.zero Item) = x at hd ht ⊢
  have hx : x ∈ xs.drop i := by rw [hd]; simp
  have hf : xs.find? (freeQ (turnsL xs C T Hh E i) ((E : Int) + 1) T) = some x := by
    have hsplit : xs.find? (freeQ (turnsL xs C T Hh E i) ((E : Int) + 1) T) = (xs.take i ++ xs.drop i).find? (freeQ (turnsL xs C T Hh E i) ((E : Int) + 1) T) := by rw [List.take_append_drop]
    rw [hsplit, List.find?_append]
    have hn : (xs.take i).find? (freeQ (turnsL xs C T Hh E i) ((E : Int) + 1) T) = none := by
      rw [List.find?_eq_none]
      intro y hy
      rw [turns_free_not h7 hy]; simp
    rw [hn, hd, List.find?_cons, turns_free hasc hx]
    rfl
  rw [hf]
  dsimp only
  congr 2
  congr 1
  rw [give_ins _ _ (turns_asc hasc E i)]
  refine asc_ext leItem (ins_asc _ (turns_asc hasc E i)) (turns_asc hasc E (i + 1)) fun m => ?_
  rw [ins_mem _ (turns_asc hasc E i), turns_mem, turns_mem, ht]
  have hne1 : ∀ y ∈ xs.take i, numT y ≠ numT x := fun y hy => by have := asc_parts hasc i y hy x hx; omega
  have hne2 : ∀ y ∈ xs.drop (i + 1), numT y ≠ numT x := fun y hy => by
    have := asc_parts hasc (i + 1) x (by rw [ht]; simp) y hy
    omega
  constructor
  · rintro (rfl | ⟨⟨y, hy, rfl⟩ | ⟨h0, y, hy, rfl⟩, hne⟩)
    · exact .inl ⟨x, by simp, rfl⟩
    · exact .inl ⟨y, by simp [hy], rfl⟩
    · rw [hd] at hy
      rcases List.mem_cons.1 hy with rfl | hy
      · exact absurd rfl hne
      · exact .inr ⟨h0, y, hy, rfl⟩
  · rintro (⟨y, hy, rfl⟩ | ⟨h0, y, hy, rfl⟩)
    · rcases List.mem_append.1 hy with hy | hy
      · exact .inr ⟨.inl ⟨y, hy, rfl⟩, hne1 y hy⟩
      · rw [List.mem_singleton] at hy
        subst hy
        exact .inl rfl
    · exact .inr ⟨.inr ⟨h0, y, by rw [hd]; simp [hy], rfl⟩, hne2 y hy⟩

theorem turns_end (h1 : 1 ≤ C) (h2 : C ≤ 8) (h5 : 0 ≤ T) (h6 : T ≤ 1073741824) (h7 : 1 ≤ Hh) (h8 : Hh ≤ 1000) {E : Nat} (hE : E < 3) (p : Int) :
    takeQ (xs, turnsL xs C T Hh E xs.length, p) C ((E : Int) + 1) T Hh = (((0, ⟨#[]⟩), (0, 0, 0, 0), 34), (xs, turnsL xs C T Hh E xs.length, p)) := by
  unfold takeQ
  rw [bad_turns h1 h2 (by omega) (by omega) h5 h6 h7 h8]
  simp only [Bool.false_eq_true, if_false]
  have hf : xs.find? (freeQ (turnsL xs C T Hh E xs.length) ((E : Int) + 1) T) = none := by
    rw [List.find?_eq_none]
    intro y hy
    rw [turns_free_not h7 (by rw [List.take_length]; exact hy)]; simp
  rw [hf]

theorem turns_next (E : Nat) : turnsL xs C T Hh E xs.length = turnsL xs C T Hh (E + 1) 0 := by
  unfold turnsL
  simp

theorem turns_live0 (E i : Nat) : (turnsL xs C T Hh E i).filter (liveL 3 (T + Hh)) = [] := by
  rw [List.filter_eq_nil_iff]
  intro m hm
  rcases (turns_mem E i m).1 hm with ⟨y, hy, rfl⟩ | ⟨_, y, hy, rfl⟩
  · unfold liveL
    have : decide (T + Hh < T + Hh) = false := decide_eq_false (Int.lt_irrefl _)
    simp [this]
  · unfold liveL
    have : decide (T + Hh < T + Hh) = false := decide_eq_false (Int.lt_irrefl _)
    simp [this]
theorem turns_live1 : ((turnsL xs C T Hh 3 0).filter (liveL 3 (T + Hh - 1))).length = xs.length := by
  have : (turnsL xs C T Hh 3 0).filter (liveL 3 (T + Hh - 1)) = turnsL xs C T Hh 3 0 := by
    rw [List.filter_eq_self]
    intro m hm
    rcases (turns_mem 3 0 m).1 hm with ⟨y, hy, rfl⟩ | ⟨_, y, hy, rfl⟩
    · simp at hy
    · unfold liveL
      have : decide (T + Hh - 1 < T + Hh) = true := decide_eq_true (by omega)
      simp [this]
  rw [this]
  simp [turnsL]
end

theorem eqb_self_item (a : Tm) : Ty.eqb Item a a = true := by rw [eqb_item]; simp
theorem eqb_self_lease (a : Le) : Ty.eqb Lease a a = true := by rw [eqb_lease]; simp

/-- What the fold of a history comes to. -/
theorem hist_fold (l : List Int) : ∃ w : Q, (foldF applyQ (histF l) 0 q0).2.1 = 0 ∧ (foldF applyQ (histF l) 0 q0).1 = ((histF l).length : Int) ∧ foldF applyR (histF l) 0 q0 = (((histF l).length : Int), 0, w) ∧ SimQ (foldF applyQ (histF l) 0 q0).2.2 w ∧ (foldF applyQ (histF l) 0 q0).2.2.1.length ≤ 60 ∧ (foldF applyQ (histF l) 0 q0).2.2.2.1 = [] ∧ w.2.1 = [] := by
  have ifold : foldF applyR (histF l) 0 q0 = (((histF l).length : Int), 0, (histCP l).q) := (inv_hist l).fold
  obtain ⟨s1, s2, s3⟩ := sim_fold (histF l) 0 sim_new
  have hh := hist_len l
  have l1 := fold_len applyQ lenQ (histF l) 0 q0
  have l2 := fold_len applyR lenR (histF l) 0 q0
  rw [ifold] at s1 s2 s3 l2
  have z1 : q0.1.length = 0 := rfl
  have z2 : q0.2.1.length = 0 := rfl
  exact ⟨(histCP l).q, s2, s1, ifold, s3, by omega, List.eq_nil_of_length_eq_zero (by omega), List.eq_nil_of_length_eq_zero (by have l22 : (histCP l).q.2.1.length ≤ q0.2.1.length := l2.2; omega)⟩

theorem turns_sat (l : List Int) (c t h : Int) (K : SV → List AObj → Prop) (hK : K (bv true) []) : Sat Try.prog 6 [fi l, iv c, iv t, iv h] [] K := by
  refine fn_satE tab13 Try.func6 (nf6 l c t h _) ?_
  have c1 := Int.emod_nonneg c (b := 8) (by omega)
  have c2 := Int.emod_lt_of_pos c (b := 8) (by omega)
  have t1 := Int.emod_nonneg t (b := 1073741825) (by omega)
  have t2 := Int.emod_lt_of_pos t (b := 1073741825) (by omega)
  have h1 := Int.emod_nonneg h (b := 1000) (by omega)
  have h2 := Int.emod_lt_of_pos h (b := 1000) (by omega)
  have wc : wr (1 + c % 8) = 1 + c % 8 := wr_eq (by omega) (by omega)
  have wh : wr (1 + h % 1000) = 1 + h % 1000 := wr_eq (by omega) (by omega)
  have wt : wr (t % 1073741825 + (1 + h % 1000)) = t % 1073741825 + (1 + h % 1000) := wr_eq (by omega) (by omega)
  have wt1 : wr (t % 1073741825 + (1 + h % 1000) - 1) = t % 1073741825 + (1 + h % 1000) - 1 := wr_eq (by omega) (by omega)
  simp only [wc, wh, wt, wt1]
  have C1 : (1 : Int) ≤ 1 + c % 8 := by omega
  have C2 : 1 + c % 8 ≤ 8 := by omega
  have T2 : t % 1073741825 ≤ 1073741824 := by omega
  have H1 : (1 : Int) ≤ 1 + h % 1000 := by omega
  have H2 : 1 + h % 1000 ≤ 1000 := by omega
  generalize (1 : Int) + c % 8 = C at C1 C2 ⊢
  generalize t % 1073741825 = T at t1 T2 ⊢
  generalize (1 : Int) + h % 1000 = Hh at H1 H2 ⊢
  obtain ⟨w, f1, f2, _, f3, f4, f5, _⟩ := hist_fold l
  have hasc := f3.asc
  have hh := hist_len l
  simp only [true_and, and_true]
  refine ⟨fun e => (by cases e), fun _ => ⟨fun _ => hK, fun hl => ?_⟩⟩
  have hll : l.length ≤ 150 := by
    have : decide ((l.length : Int) ≤ 150) = true := by rw [← Bool.not_eq_false']; exact hl
    simp only [decide_eq_true_eq] at this
    omega
  refine ⟨by unfold lenMax; omega, by omega, fun r hr => ⟨fun _ => ?_, fun e => ?_⟩⟩
  · rw [← hr] at f4 f5 hasc ⊢
    refine ⟨fun e => (by cases e), fun _ => ⟨by omega, by omega, by omega, by omega, by omega, by omega, ⟨0, ⟨rfl, by rw [f5]; simp [turnsL]⟩, by omega⟩, fun E hE => ⟨fun hlt => ?_, fun hge => ?_⟩⟩⟩
    · have hE3 : E < 3 := by simp only [decide_eq_true_eq] at hlt; omega
      have eE : ((E : Int) + 1).toNat - 1 = E := by omega
      have hx0 : r.2.2.1.length ≤ lenMax := by unfold lenMax; omega
      simp only [eE, hx0, true_and]
      refine ⟨⟨0, ⟨rfl, rfl⟩, Nat.zero_le _⟩, fun i hi => ⟨fun ilt => ?_, fun ige => ?_⟩⟩
      · have hi' : i < r.2.2.1.length := by simp only [decide_eq_true_eq] at ilt; omega
        have hst := turns_step (T := T) (Hh := Hh) hasc C1 C2 t1 T2 H1 H2 hE3 hi' r.2.2.2.2
        have hlen := turns_len (xs := r.2.2.1) (C := C) (T := T) (Hh := Hh) E i (by omega)
        refine ⟨by omega, hi', by unfold lenMax; omega, fun r1 hr1 => ?_⟩
        rw [hst] at hr1
        subst hr1
        have e1 : (((0 : Int) != 0) || !Ty.eqb Item ((r.2.2.1.getD i (Ty.zero Item)).1, (r.2.2.1.getD i (Ty.zero Item)).2) ((r.2.2.1.getD i (Ty.zero Item)).1, (r.2.2.1.getD i (Ty.zero Item)).2) || !Ty.eqb Lease ((r.2.2.1.getD i (Ty.zero Item)).1, C, (E : Int) + 1, T + Hh) ((r.2.2.1.getD i (Ty.zero Item)).1, C, (E : Int) + 1, T + Hh)) = false := by
          rw [eqb_self_item, eqb_self_lease]; rfl
        refine ⟨fun q => ?_, fun _ => ⟨i + 1, ⟨by rw [wr_eq (by omega) (by omega)]; rfl, rfl⟩, by omega, by omega⟩⟩
        have q' : (((0 : Int) != 0) || !Ty.eqb Item ((r.2.2.1.getD i (Ty.zero Item)).1, (r.2.2.1.getD i (Ty.zero Item)).2) ((r.2.2.1.getD i (Ty.zero Item)).1, (r.2.2.1.getD i (Ty.zero Item)).2) || !Ty.eqb Lease ((r.2.2.1.getD i (Ty.zero Item)).1, C, (E : Int) + 1, T + Hh) ((r.2.2.1.getD i (Ty.zero Item)).1, C, (E : Int) + 1, T + Hh)) = true := q
        rw [e1] at q'
        cases q'
      · have hi' : i = r.2.2.1.length := by simp only [decide_eq_false_iff_not] at ige; omega
        subst hi'
        have hst := turns_end (xs := r.2.2.1) (T := T) (Hh := Hh) C1 C2 t1 T2 H1 H2 hE3 r.2.2.2.2
        have hlen := turns_len (xs := r.2.2.1) (C := C) (T := T) (Hh := Hh) E r.2.2.1.length (Nat.le_refl _)
        refine ⟨by unfold lenMax; omega, fun r1 hr1 => ?_⟩
        rw [hst] at hr1
        subst hr1
        refine ⟨fun q => (by simp at q), fun _ => ⟨E + 1, ⟨by rw [wr_eq (by omega) (by omega)]; omega, turns_next E⟩, by omega, by omega⟩⟩
    · have hE3 : E = 3 := by simp only [decide_eq_false_iff_not] at hge; omega
      subst hE3
      have hlen := turns_len (xs := r.2.2.1) (C := C) (T := T) (Hh := Hh) 3 0 (Nat.zero_le _)
      have hl3 : (turnsL r.2.2.1 C T Hh 3 0).length ≤ lenMax := by unfold lenMax; omega
      have hx0 : r.2.2.1.length ≤ lenMax := by unfold lenMax; omega
      rw [turns_live0, turns_live1]
      refine ⟨hl3, fun _ => ⟨hl3, hx0, ?_⟩, fun q => (by simp at q)⟩
      simp only [beq_self_eq_true]
      exact hK
  · rw [← hr] at f1
    exact absurd f1 e
end Go.Proofs.Ythjogeodclpafaa.AM
end

section
set_option linter.unusedVariables false
set_option linter.unusedSimpArgs false
set_option maxRecDepth 100000
namespace Go.Proofs.Ythjogeodclpafaa.AM
open Go Go.Proofs.Ythjogeodclpafaa

theorem len150 {n : Nat} (h : (!decide ((n : Int) ≤ 150)) = false) : n ≤ 150 := by
  have : decide ((n : Int) ≤ 150) = true := by rw [← Bool.not_eq_false']; exact h
  simp only [decide_eq_true_eq] at this
  omega

theorem give_len (ls : List Le) (l : Le) : (giveQ ls l).length ≤ ls.length + 1 := by
  unfold giveQ
  split
  · rw [List.length_set]; omega
  · simp; omega
theorem takeQ_len (q : Q) (c e t h : Int) : (takeQ q c e t h).2.1 = q.1 ∧ (takeQ q c e t h).2.2.2 = q.2.2 ∧ (takeQ q c e t h).2.2.1.length ≤ q.2.1.length + 1 := by
  unfold takeQ
  split
  · exact ⟨rfl, rfl, Nat.le_succ _⟩
  · split
    · exact ⟨rfl, rfl, give_len _ _⟩
    · exact ⟨rfl, rfl, Nat.le_succ _⟩

theorem nextK_len {l : List Int} {k : Nat} (h : k ≤ l.length) : nextK l k ≤ l.length := by unfold nextK; split <;> omega

theorem sames_sat (l m : List Int) (x : Ch) (turns : List Int) (K : SV → List AObj → Prop) (hK : K (bv true) []) : Sat Try.prog 9 [fi l, fi m, cv x, fi turns] [] K := by
  refine fn_satE tab13 Try.func9 (nf9 l m x turns _) ?_
  obtain ⟨w, f1, _, fw, fs, flen, fl0, wl0⟩ := hist_fold l
  obtain ⟨v, g1, _, gv, gs, glen, gl0, vl0⟩ := hist_fold m
  have hh := hist_len l
  have hh' := hist_len m
  have e : (x.1, x.2.1, x.2.2.1, x.2.2.2.1, x.2.2.2.2.1, x.2.2.2.2.2.1, x.2.2.2.2.2.2.1, x.2.2.2.2.2.2.2) = x := rfl
  rw [e]
  simp only [true_and, and_true]
  refine ⟨fun e => (by cases e), fun _ => ⟨fun _ => hK, fun hl => ⟨fun _ => hK, fun hm' => ⟨fun _ => hK, fun ht => ⟨fun _ => hK, fun _ => ?_⟩⟩⟩⟩⟩
  have hl := len150 hl
  have hm' := len150 hm'
  have ht := len150 ht
  have hl1 : l.length ≤ lenMax := by unfold lenMax; omega
  have hm1 : m.length ≤ lenMax := by unfold lenMax; omega
  have ht1 : turns.length ≤ lenMax := by unfold lenMax; omega
  refine ⟨hl1, by omega, fun r hr => ⟨fun _ => ⟨hm1, by omega, fun r1 hr1 => ⟨fun _ => ⟨hl1, by omega, fun r2 hr2 => ⟨fun _ => ⟨hm1, by omega, fun r3 hr3 => ⟨fun _ => ?_, fun e => absurd (by rw [hr3, gv]) e⟩⟩, fun e => absurd (by rw [hr2, fw]) e⟩⟩, fun e => absurd (by rw [hr1]; exact g1) e⟩⟩, fun e => absurd (by rw [hr]; exact f1) e⟩⟩
  rw [← hr] at f1 fs flen fl0
  rw [← hr1] at g1 gs glen gl0
  have i2 : r2.2.2.1 = r.2.2.1 := by rw [hr2, fw]; exact fs.items.symm
  have p2 : r2.2.2.2.2 = r.2.2.2.2 := by rw [hr2, fw]; exact fs.most.symm
  have l2 : r2.2.2.2.1 = [] := by rw [hr2, fw]; exact wl0
  have i3 : r3.2.2.1 = r1.2.2.1 := by rw [hr3, gv]; exact gs.items.symm
  have p3 : r3.2.2.2.2 = r1.2.2.2.2 := by rw [hr3, gv]; exact gs.most.symm
  have hb1 : ((r.2.2.2.2 == r1.2.2.2.2 && decide (r.2.2.1 = r1.2.2.1)) == (decide (r.2.2.1 = r1.2.2.1) && r.2.2.2.2 == r1.2.2.2.2)) = true := by rw [Bool.and_comm]; exact beq_self_eq_true _
  have hri : r.2.2.1.length ≤ lenMax := by unfold lenMax; omega
  have z0 : (0 : Nat) ≤ lenMax := Nat.zero_le _
  obtain ⟨a1, a2⟩ := sim_apply (q := (r.2.2.1, [], r.2.2.2.2)) (w := (r.2.2.1, [], r.2.2.2.2)) ⟨rfl, rfl, fs.asc, fs.le, List.Pairwise.nil, fun l hl => (by cases hl), List.Pairwise.nil, fun _ => Iff.rfl⟩ x
  simp only [i2, p2, i3, p3, l2, fl0, hb1, hri, z0, List.filter_nil, List.length_nil, Bool.not_true, Bool.not_false, beq_self_eq_true, decide_true, Bool.and_self, Bool.false_eq_true, Bool.true_eq_false, false_implies, true_implies, forall_const, and_true, true_and, bne_self_eq_false]
  refine ⟨⟨(0, []), ⟨rfl, rfl⟩, Nat.zero_le _, Nat.le_refl _⟩, fun y ⟨hy1, hy2⟩ => ⟨fun hlt => ?_, fun hge => ?_⟩⟩
  · have hk : y.1 < turns.length := by
      have : Int.ofNat y.1 = (y.1 : Int) := rfl
      simp only [decide_eq_true_eq] at hlt; omega
    have k1 := nextK_lt hk
    have k2 := nextK_ge' turns (nextK turns y.1)
    have k3 := nextK_ge' turns (nextK turns (nextK turns y.1))
    have k4 := nextK_len (l := turns) (k := nextK turns (nextK turns y.1)) (nextK_len (nextK_len hy1))
    refine ⟨by omega, by omega, by omega, ht1, by omega, by omega, ht1, by omega, by omega, by omega, ht1, by unfold lenMax; omega, fun r4 hr4 => ?_⟩
    obtain ⟨t1, t2, t3⟩ := takeQ_len (r.2.2.1, y.2, r.2.2.2.2) (1 + nextV turns y.1 4) 1 (nextV turns (nextK turns y.1) 60) (1 + nextV turns (nextK turns (nextK turns y.1)) 30)
    rw [← hr4] at t1 t2 t3
    have t3 : r4.2.2.1.length ≤ y.2.length + 1 := t3
    refine ⟨(nextK turns (nextK turns (nextK turns y.1)), r4.2.2.1), ?_, ⟨k4, by show r4.2.2.1.length ≤ nextK turns (nextK turns (nextK turns y.1)); omega⟩, by show turns.length - nextK turns (nextK turns (nextK turns y.1)) < _; omega⟩
    repeat' (first | trivial | apply And.intro)
  · refine ⟨fun q => absurd q (by decide), fun _ r4 hr4 r5 hr5 => ?_⟩
    rw [← hr4, ← hr5] at a1 a2
    have i5 : r5.2.1 = r4.2.1 := a2.items.symm
    have p5 : r5.2.2.2 = r4.2.2.2 := a2.most.symm
    have hb2 : ((r.2.2.2.2 == r4.2.2.2 && decide (r.2.2.1 = r4.2.1)) == (decide (r.2.2.1 = r4.2.1) && r.2.2.2.2 == r4.2.2.2)) = true := by rw [Bool.and_comm]; exact beq_self_eq_true _
    simp only [← a1, i5, p5, hb2, hK, sgnB, Bool.not_true, Bool.not_false, beq_self_eq_true, decide_true, Bool.and_self, Bool.false_eq_true, Bool.true_eq_false, false_implies, true_implies, forall_const, and_true, true_and, Bool.and_true, Bool.true_and]
    exact hK
end Go.Proofs.Ythjogeodclpafaa.AM
end

section
set_option linter.unusedVariables false
set_option linter.unusedSimpArgs false
set_option maxRecDepth 100000
namespace Go.Proofs.Ythjogeodclpafaa.AM
open Go Go.Proofs.Ythjogeodclpafaa

theorem SimN.sim {n : Nat} {q w : Q} (h : SimN n q w) : SimQ q w := ⟨h.items, h.most, h.asc, h.le, h.lasc, h.inn, h.dist, h.mem⟩
theorem SimQ.simN {q w : Q} (h : SimQ q w) {n : Nat} (h1 : q.1.length ≤ 60 + n) (h2 : q.2.1.length ≤ n) (h3 : w.2.1.length ≤ n) : SimN n q w := ⟨h.items, h.most, h.asc, h.le, h.lasc, h.inn, h.dist, h.mem, h1, h2, h3⟩

theorem takeR_len (q : Q) (c e t h : Int) : (takeR q c e t h).2.1 = q.1 ∧ (takeR q c e t h).2.2.2 = q.2.2 ∧ (takeR q c e t h).2.2.1.length ≤ q.2.1.length + 1 := by
  unfold takeR
  cases badT c e t h
  · simp only [cond_false]
    split
    · rename_i x _
      have := dropR_len q.2.1 x.1
      refine ⟨rfl, rfl, ?_⟩
      show (dropR q.2.1 x.1 ++ [_]).length ≤ _
      rw [List.length_append, List.length_singleton]
      omega
    · exact ⟨rfl, rfl, Nat.le_succ _⟩
  · exact ⟨rfl, rfl, Nat.le_succ _⟩

theorem plays_sat (l : List Int) (acts : List Ac) (c e i t : Int) (K : SV → List AObj → Prop) (hK : K (bv true) []) : Sat Try.prog 8 [fi l, .t (.one (.fsl 67 ActT acts)), iv c, iv e, iv i, iv t] [] K := by
  refine fn_satE tab13 Try.func8 (nf8 l acts c e i t _) ?_
  obtain ⟨w, f1, _, fw, fs, flen, fl0, wl0⟩ := hist_fold l
  have hh := hist_len l
  simp only [true_and, and_true, Int.toNat_natCast]
  refine ⟨fun e => (by cases e), fun _ => ⟨fun _ => hK, fun hl => ⟨fun _ => hK, fun ha => ?_⟩⟩⟩
  have hl := len150 hl
  have hact : acts.length ≤ 80 := by
    have : lightB acts = true := by rw [← Bool.not_eq_false']; exact ha
    unfold lightB at this
    simp only [Bool.and_eq_true, decide_eq_true_eq] at this
    omega
  have hl1 : l.length ≤ lenMax := by unfold lenMax; omega
  refine ⟨hl1, by omega, fun r hr => ⟨fun _ => ⟨by omega, fun r1 hr1 => ⟨fun _ => ⟨fun e => (by cases e), fun _ => ?_⟩, fun e => absurd (by rw [hr1, fw]) e⟩⟩, fun e => absurd (by rw [hr]; exact f1) e⟩⟩
  rw [← hr] at f1 fs flen fl0
  have ew : r1.2.2 = w := by rw [hr1, fw]
  rw [← ew] at fs wl0
  refine ⟨⟨(0, r.2.2, r1.2.2), (by repeat' (first | trivial | apply And.intro)), Nat.zero_le _, fs.simN (by omega) (by rw [fl0]; exact Nat.le_refl _) (by rw [wl0]; exact Nat.le_refl _)⟩, fun x ⟨hx, hs⟩ => ⟨fun hlt => ?_, fun _ => hK⟩⟩
  have hx' : x.1 < acts.length := by simp only [decide_eq_true_eq] at hlt; omega
  obtain ⟨n, q, v⟩ := x
  dsimp only at hx hs hx' ⊢
  have hq := hs.sim
  have l1 := hs.len1
  have l2 := hs.len2
  have l3 := hs.len3
  have l4 : v.1.length ≤ 60 + n := by rw [← hs.items]; exact l1
  have m1 : q.1.length ≤ lenMax := by unfold lenMax; omega
  have m2 : q.2.1.length ≤ lenMax := by unfold lenMax; omega
  have m3 : v.2.1.length ≤ lenMax := by unfold lenMax; omega
  have m4 : v.1.length ≤ lenMax := by unfold lenMax; omega
  refine ⟨by omega, ⟨by omega, by omega, fun k0 => ?_, fun k0 => ⟨fun k6 => ?_, fun k6 => ⟨fun k7 => ?_, fun k7 => ?_⟩⟩⟩, fun y hy => ?_⟩
  · refine ⟨m1, m2, fun r2 hr2 => ⟨m4, m3, fun r3 hr3 => ?_⟩⟩
    obtain ⟨g1, g2⟩ := sim_apply hq (acts.getD n ActT.zero).2.2.2.2.2
    have g3 := lenQ q (acts.getD n ActT.zero).2.2.2.2.2
    have e2 : r2 = applyQ q (acts.getD n ActT.zero).2.2.2.2.2 := hr2
    have e3 : r3 = applyR v (acts.getD n ActT.zero).2.2.2.2.2 := hr3
    have g4 := lenR v (acts.getD n ActT.zero).2.2.2.2.2
    rw [← e2] at g1 g2 g3
    rw [← e3] at g1 g2 g4
    have hb : (r2.1 != r3.1) = false := by rw [g1]; simp
    refine ⟨fun e => absurd (hb.symm.trans e) (by decide), fun _ => ⟨(r2.2, r3.2), (by repeat' (first | trivial | apply And.intro)), g2.simN (by omega) (by omega) (by omega)⟩⟩
  · exact ⟨((q.1, [], q.2.2), (v.1, [], v.2.2)), (by repeat' (first | trivial | apply And.intro)), (sim_forget hq).simN (by show q.1.length ≤ _; omega) (Nat.zero_le _) (Nat.zero_le _)⟩
  · exact ⟨m1, m2, m4, m3, (q, v), (by repeat' (first | trivial | apply And.intro)), hq.simN (by omega) (by omega) (by omega)⟩
  · refine ⟨m1, m2, fun r2 hr2 => ⟨m4, m3, fun r3 hr3 => ?_⟩⟩
    obtain ⟨g1, g2⟩ := sim_take hq (acts.getD n ActT.zero).2.1 (acts.getD n ActT.zero).2.2.1 (acts.getD n ActT.zero).2.2.2.1 (acts.getD n ActT.zero).2.2.2.2.1
    have g3 := takeQ_len q (acts.getD n ActT.zero).2.1 (acts.getD n ActT.zero).2.2.1 (acts.getD n ActT.zero).2.2.2.1 (acts.getD n ActT.zero).2.2.2.2.1
    have g4 := takeR_len v (acts.getD n ActT.zero).2.1 (acts.getD n ActT.zero).2.2.1 (acts.getD n ActT.zero).2.2.2.1 (acts.getD n ActT.zero).2.2.2.2.1
    have e2 : r2 = takeQ q (acts.getD n ActT.zero).2.1 (acts.getD n ActT.zero).2.2.1 (acts.getD n ActT.zero).2.2.2.1 (acts.getD n ActT.zero).2.2.2.2.1 := hr2
    have e3 : r3 = takeR v (acts.getD n ActT.zero).2.1 (acts.getD n ActT.zero).2.2.1 (acts.getD n ActT.zero).2.2.2.1 (acts.getD n ActT.zero).2.2.2.2.1 := hr3
    rw [← e2] at g1 g2 g3
    rw [← e3] at g1 g2 g4
    have hb : (!Ty.eqb Item r2.1.1 r3.1.1 || !Ty.eqb Lease r2.1.2.1 r3.1.2.1 || r2.1.2.2 != r3.1.2.2) = false := by
      rw [g1, eqb_self_item, eqb_self_lease]; simp
    refine ⟨fun e => absurd (hb.symm.trans e) (by decide), fun _ => ⟨(r2.2, r3.2), ⟨g3.2.1.symm, g4.1.symm, rfl, g4.2.1.symm, g3.1.symm, rfl⟩, g2.simN ?_ ?_ ?_⟩⟩
    · rw [g3.1]; omega
    · omega
    · omega
  · have hy2 := hy.sim
    have e1 : y.1.1 = y.2.1 := hy.items
    have e2 : y.1.2.1.filter (liveL (acts.getD n ActT.zero).2.2.1 (acts.getD n ActT.zero).2.2.2.1) = leasesR (y.2.1, y.2.2.1, y.2.2.2) (acts.getD n ActT.zero).2.2.1 (acts.getD n ActT.zero).2.2.2.1 := sim_leases hy2 _ _
    have e3 := sim_holds hy2 c e i t
    have y1 : y.1.1.length ≤ lenMax := by have := hy.len1; unfold lenMax; omega
    have y2 : y.1.2.1.length ≤ lenMax := by have := hy.len2; unfold lenMax; omega
    have y3 : y.2.2.1.length ≤ lenMax := by have := hy.len3; unfold lenMax; omega
    have y4 : y.2.1.length ≤ lenMax := by rw [← e1]; exact y1
    have y5 : (leasesR (y.2.1, y.2.2.1, y.2.2.2) (acts.getD n ActT.zero).2.2.1 (acts.getD n ActT.zero).2.2.2.1).length ≤ lenMax := by rw [← e2]; exact Nat.le_trans (List.length_filter_le _ _) y2
    simp only [e2, e1, y2, y3, y4, y5, eq_self, decide_true, sgnB, Bool.not_true, Bool.not_false, Bool.false_or, Bool.true_or, Bool.or_false, Bool.or_true, forall_const, true_and, forall_eq, reduceCtorEq, false_implies, and_true]
    rw [e3]
    simp only [BEq.rfl, Bool.not_true, reduceCtorEq, false_implies, forall_const, true_and]
    have w1 : wr ((n : Int) + 1) = ((n + 1 : Nat) : Int) := by rw [wr_eq (by omega) (by omega)]; rfl
    exact ⟨(n + 1, y.1, y.2), ⟨w1, rfl, rfl, rfl, rfl, e1.symm, rfl⟩, ⟨by show n + 1 ≤ _; omega, hy⟩, by show acts.length - (n + 1) < _; omega⟩
end Go.Proofs.Ythjogeodclpafaa.AM
end

section
namespace Go.Proofs.Ythjogeodclpafaa.queuePlays
open Go.ChangeShapes Go.WideShapes Go.ChangeAt Go.RowKit
open Go.Proofs.Ythjogeodclpafaa.AM
set_option linter.unusedVariables false

theorem own : ownKnob Try.prog.godebug = none := by kernel_rfl
theorem laidOut : laidOutB Try.prog = true := by kernel_rfl

set_option maxRecDepth 100000 in
theorem lifted (os : Os) (started : os.Started) (H : Type) (enc : TypeId × Value → H) :
    ReturnsInHanded {} Try.checked os 8 .any (Rows.queuePlaysSpec.pre6 enc Try.prog Try.f8 Rows.queuePlaysRow.domain false) (Rows.queuePlaysSpec.post enc Try.prog Try.f8 false true false false) := by
  refine returnsInHanded_of_change_sized (C := Try.checked) own started (by kernel_rfl) Try.func8
    (ChangeSpec.witness6 (enc := enc) (C := Try.checked) false ⟨#[], #[.slice none 0 0, .slice none 0 0, .int .i64 0, .int .i64 0, .int .i64 0, .int .i64 0], []⟩ 8 (by kernel_rfl) (by kernel_rfl) (by kernel_rfl) (by kernel_rfl)) ?_
  intro W base args ds gs before hval0 hW hcnd hsz0 _
  have hval : ∀ (j : Nat) t v, Try.f8.params[j]? = some t → args[j]? = some v → Value.okWide Try.prog W .any base t v := hval0
  have hW' := hW
  obtain ⟨p, q, hA0, hV, rfl, hfz, hnd⟩ := hW
  have hA : DataW.TrodAll enc Try.prog W 0 (fun _ => true) true Try.f8.params.toList args.toList ds p := hA0
  rw [Try.params8] at hA hval
  obtain ⟨v0, vs0, d0, ds0, p0, q0, hargs, rfl, rfl, h0, r0⟩ := trodAll_cons hA
  obtain ⟨v1, vs1, d1, ds1, p1, q1, rfl, rfl, rfl, h1, r1⟩ := trodAll_cons r0
  obtain ⟨v2, vs2, d2, ds2, p2, q2, rfl, rfl, rfl, h2, r2⟩ := trodAll_cons r1
  obtain ⟨v3, vs3, d3, ds3, p3, q3, rfl, rfl, rfl, h3, r3⟩ := trodAll_cons r2
  obtain ⟨v4, vs4, d4, ds4, p4, q4, rfl, rfl, rfl, h4, r4⟩ := trodAll_cons r3
  obtain ⟨v5, vs5, d5, ds5, p5, q5, rfl, rfl, rfl, h5, r5⟩ := trodAll_cons r4
  obtain ⟨rfl, rfl, rfl⟩ := trodAll_nil r5
  obtain rfl : args = #[v0, v1, v2, v3, v4, v5] := by cases args; simp_all
  obtain ⟨rfl, rfl⟩ := trodVars_none hV
  have k0 := h0
  have lt0 : ∀ x ∈ p0, x.block < W.heap.size := by obtain ⟨m, hm⟩ := k0; exact DataW.trod_lt m _ _ _ hm
  obtain ⟨l0, w0, _⟩ := open_list (τ := I) 4 Try.underlying36 (by kernel_rfl) (hval 0 36 v0 rfl rfl) h0
  have k1 := h1
  have lt1 : ∀ x ∈ p1, x.block < W.heap.size := by obtain ⟨m, hm⟩ := k1; exact DataW.trod_lt m _ _ _ hm
  obtain ⟨l1, w1, _⟩ := open_list (τ := ActT) 8 Try.underlying64 (by kernel_rfl) (hval 1 64 v1 rfl rfl) h1
  obtain ⟨a2, rfl, rfl, rfl, w2⟩ := open_int Try.underlying3 (hval 2 3 v2 rfl rfl) h2
  obtain ⟨a3, rfl, rfl, rfl, w3⟩ := open_int Try.underlying3 (hval 3 3 v3 rfl rfl) h3
  obtain ⟨a4, rfl, rfl, rfl, w4⟩ := open_int Try.underlying3 (hval 4 3 v4 rfl rfl) h4
  obtain ⟨a5, rfl, rfl, rfl, w5⟩ := open_int Try.underlying3 (hval 5 3 v5 rfl rfl) h5
  clear hA0 hval0 hsz0
  refine (law_calls (P := Try.prog) (f := 8) (args := [fi l0, .t (.one (.fsl 67 ActT l1)), iv a2, iv a3, iv a4, iv a5]) (cargs := [_, _, _, _, _, _]) (W := W) (plays_sat l0 l1 a2 a3 a4 a5 _ rfl) ⟨_, _, rfl, w0, _, _, rfl, w1, _, _, rfl, rfl, _, _, rfl, rfl, _, _, rfl, rfl, _, _, rfl, rfl, rfl⟩).mono fun e W' ⟨he, bel⟩ => ?_
  subst he
  exact ⟨_, rfl, _, _, _, [], _, [], hW', trodAll_mk1 (shut_bool Try.underlying4 _), (trodAll_cons_mk (Below.trod laidOut (by kernel_rfl) (of_decide_eq_true (by kernel_rfl)) k0 bel lt0) (trodAll_cons_mk (Below.trod laidOut (by kernel_rfl) (of_decide_eq_true (by kernel_rfl)) k1 bel lt1) (trodAll_cons_mk (shut_int Try.underlying3 w2) (trodAll_cons_mk (shut_int Try.underlying3 w3) (trodAll_cons_mk (shut_int Try.underlying3 w4) (trodAll_cons_mk (shut_int Try.underlying3 w5) trodAll_mk0)))))), rfl, bel.frame _, fun h => by cases h⟩

theorem over : Rows.queuePlaysRow.holds Try.pinned (OpenSpec.ofChange Rows.queuePlaysSpec) :=
  OpenClaim.holds_of_wide 8 Try.f8 rfl rfl rfl rfl rfl rfl rfl ⟨rfl, rfl, rfl, rfl, rfl⟩ rfl rfl rfl rfl rfl (by kernel_rfl) Try.func8 (by kernel_rfl)
    (of_decide_eq_true (by kernel_rfl)) (by unfold Func.isWrapper; first | (rw [if_pos (by decide +kernel)]; kernel_rfl) | (rw [if_neg (by decide +kernel)]; exact ⟨rfl, rfl⟩))
    (fun os started H enc _ => lifted os started H enc)

theorem proved : Rows.QueuePlaysSaid := over
end Go.Proofs.Ythjogeodclpafaa.queuePlays
namespace Go.Proofs.Ythjogeodclpafaa
/-- The row, under a short name, for the claim. -/
theorem queuePlays_holds : Rows.QueuePlaysSaid := queuePlays.proved
#print axioms queuePlays_holds
end Go.Proofs.Ythjogeodclpafaa
end
